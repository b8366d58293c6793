/-
  WholeFiles: three files on one disk are plain rows of bytes, whatever the operations (writes, cuts, reads, commits); errors by their numbers, no room just where the blocks that are wanted are more than are free: the function answers true, the arguments stay. Conditions: the table of widths and the table of sixteen words read as the text lays them (the card ties them).
-/
import Derived.Test.YthkijogloebdoaaGreatDoorM28
import Derived.Test.YthkijogloebdoaaGreatDoorM29
import Derived.Test.YthkijogloebdoaaGreatDoorCards
import Derived.Test.YthkijogloebdoaaGreatDoorTie
set_option linter.unusedVariables false
set_option linter.unusedSimpArgs false
section
set_option maxRecDepth 100000
namespace Go.Proofs.YthkijogloebdoaaGreatDoor.WholeFiles
open Go.ChangeShapes Go.WideShapes Go.ChangeAt Go.RowKit
theorem widths_ {W : World} (h : laidMetH Tryz.prog Rows.wholeFilesRow.laid W) : WidthsAt W := widthsAt_of (rest := [("bole/sum.half", Rows.laid_bole_sum_half)]) h
theorem half_ {W:World}(h:laidMetH Tryz.prog Rows.wholeFilesRow.laid W):HalfAt W :=
  halfAt_of (Lib.tabIs_of_head (rest := []) gHalf gHalfType Tryz.underlying239 Tryz.underlying199 cellsU32 cellsHalf (laidMet_behind h))
theorem contract (H:Type)(enc:TypeId × Value → H)(W:World)(base:Nat)(args:Array Value)(ds gs:List (DataW H))(before:List MemPlace)
    (hval:∀ (j:Nat) t v,Tryz.f3.params[j]? = some t → args[j]? = some v → Value.okWide Tryz.prog W .any base t v)
    (hW:DataW.Whole enc Tryz.prog Tryz.f3.params.toList Rows.wholeFilesSpec.vars false W args.toList ds gs before)
    (hsz0:(DataW.weightsEach Tryz.prog (Tryz.f3.params.toList ++ (OpenSpec.ofChange Rows.wholeFilesSpec).bare.plain.varTypes Tryz.prog) (ds ++ gs)).all (· ≤ reachBytes)=true)(hL:laidMetH Tryz.prog Rows.wholeFilesRow.laid W) :
    Calls Tryz.prog 3 args W fun e W' => ∃ v,e=.returned v ∧ Rows.wholeFilesSpec.post enc Tryz.prog Tryz.f3 false true false false W args v W':=by
  have hW':=hW
  obtain ⟨p,q,hA0,hV,rfl,hfz,hnd⟩:=hW
  have hA:DataW.TrodAll enc Tryz.prog W 0 (fun _ => true) true Tryz.f3.params.toList args.toList ds p:=hA0
  rw [Tryz.params3] at hA hval
  obtain ⟨v0,vs0,d0,ds0,p0,q0,hargs,rfl,rfl,h0,r0⟩:=trodAll_cons hA
  obtain ⟨v1,vs1,d1,ds1,p1,q1,rfl,rfl,rfl,h1,r1⟩:=trodAll_cons r0
  obtain ⟨rfl,rfl,rfl⟩:=trodAll_nil r1
  obtain rfl:args=#[v0,v1]:=by cases args; simp_all
  obtain ⟨rfl,rfl⟩:=trodVars_none hV
  have hsz:(DataW.weightsEach Tryz.prog [3,22] [d0,d1]).all (· ≤ reachBytes)=true:=hsz0
  have hv0:=hval 0 3 v0 rfl rfl
  have hr0:=reach_of hsz (j:=0) (t:=3) (d:=d0) rfl rfl
  have hv1:=hval 1 22 v1 rfl rfl
  have hr1:=reach_of hsz (j:=1) (t:=22) (d:=d1) rfl rfl
  obtain ⟨n,rfl,_,_,wn⟩:=open_int Tryz.underlying3 hv0 h0
  have bn:=bounds_i64 wn
  obtain ⟨A,ol,oc,cs,rfl,hA,hAn,hcl,hint,hob⟩:=open_ops hv1 h1 hr1
  refine Calls.mono (wholefiles_any n A ol oc cs W bn.1 bn.2 hA hAn hcl hint hob (widths_ hL) (half_ hL)) fun e W' ⟨he,hg⟩ => ?_
  subst he
  exact ⟨_,rfl,post_true hW' rfl (by kernel_rfl) (by rw [Tryz.params3]; intro t ht; have ht:t ∈ [3,22]:=ht; simp only [List.mem_cons,List.not_mem_nil,or_false] at ht; rcases ht with rfl | rfl <;> exact ⟨by kernel_rfl,of_decide_eq_true (by kernel_rfl)⟩) rfl hg⟩
def wargs:Array Value := #[.int .i64 0,.slice none 0 0]
theorem laid_met (os:Os):laidMet Tryz.prog Rows.wholeFilesRow.laid ((laidWorld os).forCall (fun _ _ => 0) ⟨#[],wargs,[]⟩).memory :=
  laidMet_of_run' 20 (by kernel_rfl) (by kernel_rfl)
theorem reads (os:Os){H:Type}(enc:TypeId × Value → H):∃ places,DataW.whole enc Tryz.prog ((laidWorld os).forCall (fun _ _ => 0) ⟨#[],wargs,[]⟩).memory Tryz.f3.params.toList Rows.wholeFilesSpec.vars false wargs.toList 8=some ([.lit (.int .i64 0),.nil],[],places) :=
  ⟨[],by kernel_rfl⟩
set_option maxRecDepth 100000 in
theorem lifted (os:Os)(started:os.Started)(H:Type)(enc:TypeId × Value → H)(F:Stop.Interp) :
    ReturnsInHanded {} Tryz.checked os 3 .any ((OpenSpec.ofChange Rows.wholeFilesSpec).preRow enc Tryz.prog Tryz.f3 Rows.wholeFilesRow.domain false Rows.wholeFilesRow.laid) (((OpenSpec.ofChange Rows.wholeFilesSpec).at F).post enc Tryz.prog Tryz.f3 false true false false):=by
  obtain ⟨places,hx⟩:=reads os enc
  refine returnsInHanded_of_row (C:=Tryz.checked) (s:=(OpenSpec.ofChange Rows.wholeFilesSpec)) own started (by kernel_rfl) Tryz.func3
    (witness_row_at (enc:=enc) (C:=Tryz.checked) false (laidWorld os) wargs rfl (by kernel_rfl) (by kernel_rfl) (by kernel_rfl)
      (OpenSpec.preRow_of_cond 8 hx (by kernel_rfl) (fun k hk => by cases hk) (by kernel_rfl) (laid_met os))) ?_
  intro W base args ds gs before hval hW _ hcond hsz hL _ _
  exact contract H enc W base args ds gs before hval hW hsz hL
theorem said:Rows.WholeFilesSaid :=
  OpenClaim.holds_of_cond 3 Tryz.f3 rfl rfl rfl rfl rfl rfl rfl ⟨rfl,rfl,rfl,rfl,rfl⟩ rfl rfl rfl rfl rfl (by kernel_rfl) Tryz.func3 (by kernel_rfl)
    (of_decide_eq_true (by kernel_rfl)) (by unfold Func.isWrapper; rw [if_neg (of_decide_eq_false (by kernel_rfl))]; exact ⟨rfl,rfl⟩)
    (fun os started H enc _ F => by rw [OpenClaim.pre_eq_preRow]; exact lifted os started H enc F)
theorem plain (f : FuncId) (fn : Func) (hf : Tryz.pinned.checked.prog.funcNamed "bole/boletop.WholeFiles" = some f) (hfn : Tryz.pinned.checked.prog.funcs[f]? = some fn) :
    false=Tryz.pinned.checked.prog.looks [] ∧ ∀ (j:Nat) t,fn.params[j]? = some t → Tryz.pinned.checked.prog.wantsStandIn t=false:=by
  obtain rfl : f = 3 := Option.some.inj ((show Tryz.prog.funcNamed "bole/boletop.WholeFiles" = some 3 by kernel_rfl).symm.trans hf) |>.symm
  obtain rfl:fn=Tryz.f3:=(Option.some.inj (Tryz.func3.symm.trans hfn)).symm
  refine ⟨by kernel_rfl,fun j t ht => ?_⟩
  rw [Tryz.params3] at ht
  have hm:t ∈ [3,22]:=Array.mem_toList_iff.2 (Array.mem_of_getElem? ht)
  simp only [List.mem_cons,List.not_mem_nil,or_false] at hm
  rcases hm with rfl | rfl
  · exact (by kernel_rfl:Tryz.prog.wantsStandIn 3=false)
  · exact (by kernel_rfl:Tryz.prog.wantsStandIn 22=false)
theorem card:Rows.WholeFilesCardSaid :=
  Claim7.holds_tied_plain_at .later [] _ _ _ _ said (fun _ h => by cases h) (by kernel_rfl) (fun _ h => by cases h) wholeFiles_row_tie rfl ⟨rfl,rfl⟩ (by kernel_rfl) rfl plain (by kernel_rfl)
end Go.Proofs.YthkijogloebdoaaGreatDoor.WholeFiles
end
