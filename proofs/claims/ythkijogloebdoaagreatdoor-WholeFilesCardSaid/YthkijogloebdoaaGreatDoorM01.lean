/-
  WholeFiles, the texts QSo Crc Bits RecP Mem Row Row2: lemmas for the proof that three files on one disk are plain rows of bytes. No conditions.
-/
import Derived.Shelf.SlIterI.Nil
import Derived.Shelf.SortM.Plain
import Derived.Shelf.SortM.SortNone
import Derived.Test.YthkijogloebdoaaGreatDoorProg
import Derived.WalkKit
import Derived.Lib.Hide
import Derived.Deep.QuietTactic
import Derived.BigQuiet
import Derived.WalkLawsBesides
import Derived.Laws.AppendOwnNone
import Derived.Laws.CopyOwn
import Derived.Deep.RegionLaw
import Derived.Lib.BufferWrite
import Derived.Lib.SliceRun
import Derived.Laws.IdiomStrings
import Derived.OwnWalk
set_option linter.unusedVariables false
set_option linter.unusedSimpArgs false
section
namespace Go.Proofs.YthkijogloebdoaaGreatDoor
open Go.Shelf
def keysA_ren:Go.Shelf.Ren:=⟨fun | 7 => 30 | 10 => 59 | n => n,fun | 23 => 45 | 26 => 3 | 3 => 28 | 28 => 87 | 0 => 0 | 27 => 86 | 33 => 133 | 4 => 4 | n => n,fun | n => n⟩
theorem keysA:Go.Proofs.SlLaysZI.n7 Tryz.prog keysA_ren := {
  mixed:=by kernel_rfl
  f7:=⟨Tryz.f30.name,by decide,Tryz.func30.trans (congrArg some (by kernel_rfl))⟩
  f10:=⟨Tryz.f59.name,by decide,Tryz.func59.trans (congrArg some (by kernel_rfl))⟩
  t0:=Tryz.underlying0
  a0:=Tryz.isAgg0
  z0:=Tryz.sizeOf0
  v0:=Tryz.zeroValue0
  t4:=Tryz.underlying4
  a4:=Tryz.isAgg4
  z4:=Tryz.sizeOf4
  v4:=Tryz.zeroValue4
  t23:=Tryz.underlying45
  a23:=Tryz.isAgg45
  z23:=Tryz.sizeOf45
  v23:=Tryz.zeroValue45
  t26:=Tryz.underlying3
  a26:=Tryz.isAgg3
  z26:=Tryz.sizeOf3
  v26:=Tryz.zeroValue3
  t27:=Tryz.underlying86
  a27:=Tryz.isAgg86
  z27:=Tryz.sizeOf86
  v27:=Tryz.zeroValue86
  t28:=Tryz.underlying87
  a28:=Tryz.isAgg87
  z28:=Tryz.sizeOf87
  v28:=Tryz.zeroValue87
  t33:=Tryz.underlying133
  a33:=Tryz.isAgg133
  z33:=Tryz.sizeOf133
  v33:=Tryz.zeroValue133 }
def sortedA_ren:Go.Shelf.Ren:=⟨fun | 6 => 29 | 8 => 57 | 9 => 58 | 11 => 95 | 13 => 97 | 12 => 96 | 23 => 142 | 24 => 143 | 14 => 133 | 15 => 134 | 16 => 135 | 17 => 136 | 18 => 137 | 19 => 138 | 20 => 139 | 21 => 140 | 22 => 141 | 25 => 154 | 26 => 155 | 27 => 156 | 28 => 157 | 29 => 158 | 30 => 159 | 31 => 165 | n => n,fun | 26 => 3 | 28 => 87 | 24 => 39 | 0 => 0 | 3 => 3 | 37 => 73 | 48 => 199 | 50 => 172 | 4 => 4 | 40 => 210 | 39 => 209 | 45 => 214 | 5 => 5 | 9 => 9 | 51 => 228 | 55 => 186 | 57 => 237 | 58 => 34 | 33 => 133 | n => n,fun | n => n⟩
theorem sortedA:Go.Proofs.SlLaysZI.n6 Tryz.prog sortedA_ren := {
  mixed:=by kernel_rfl
  f6:=⟨Tryz.f29.name,by decide,Tryz.func29.trans (congrArg some (by kernel_rfl))⟩
  f8:=⟨Tryz.f57.name,by decide,Tryz.func57.trans (congrArg some (by kernel_rfl))⟩
  f11:=⟨Tryz.f95.name,by decide,Tryz.func95.trans (congrArg some (by kernel_rfl))⟩
  t0:=Tryz.underlying0
  a0:=Tryz.isAgg0
  z0:=Tryz.sizeOf0
  v0:=Tryz.zeroValue0
  t24:=Tryz.underlying39
  a24:=Tryz.isAgg39
  z24:=Tryz.sizeOf39
  v24:=Tryz.zeroValue39
  t26:=Tryz.underlying3
  a26:=Tryz.isAgg3
  z26:=Tryz.sizeOf3
  v26:=Tryz.zeroValue3
  t28:=Tryz.underlying87
  a28:=Tryz.isAgg87
  z28:=Tryz.sizeOf87
  v28:=Tryz.zeroValue87
  i26:=by kernel_rfl }
def sortA_ren:Go.Shelf.Ren:=⟨fun | 5 => 58 | 8 => 97 | 7 => 96 | 19 => 142 | 20 => 143 | 10 => 133 | 11 => 134 | 12 => 135 | 13 => 136 | 14 => 137 | 15 => 138 | 16 => 139 | 17 => 140 | 18 => 141 | 30 => 154 | 31 => 155 | 32 => 156 | 33 => 157 | 34 => 158 | 35 => 159 | 40 => 165 | n => n,fun | 23 => 39 | 25 => 3 | 3 => 3 | 32 => 73 | 22 => 39 | 0 => 0 | 44 => 199 | 46 => 172 | 4 => 4 | 36 => 210 | 35 => 209 | 41 => 214 | 5 => 5 | 9 => 9 | 53 => 228 | 57 => 186 | 63 => 237 | 64 => 34 | n => n,fun | n => n⟩
theorem sortA:Go.Proofs.SlLaysM.n5 Tryz.prog sortA_ren := {
  mixed:=by kernel_rfl
  f5:=⟨Tryz.f58.name,by decide,Tryz.func58.trans (congrArg some (by kernel_rfl))⟩
  f7:=⟨Tryz.f96.name,by decide,Tryz.func96.trans (congrArg some (by kernel_rfl))⟩
  f8:=Tryz.func97.trans (congrArg some (by kernel_rfl))
  f10:=⟨Tryz.f133.name,by decide,Tryz.func133.trans (congrArg some (by kernel_rfl))⟩
  f11:=⟨Tryz.f134.name,by decide,Tryz.func134.trans (congrArg some (by kernel_rfl))⟩
  f12:=⟨Tryz.f135.name,by decide,Tryz.func135.trans (congrArg some (by kernel_rfl))⟩
  f13:=⟨Tryz.f136.name,by decide,Tryz.func136.trans (congrArg some (by kernel_rfl))⟩
  f14:=⟨Tryz.f137.name,by decide,Tryz.func137.trans (congrArg some (by kernel_rfl))⟩
  f15:=⟨Tryz.f138.name,by decide,Tryz.func138.trans (congrArg some (by kernel_rfl))⟩
  f16:=⟨Tryz.f139.name,by decide,Tryz.func139.trans (congrArg some (by kernel_rfl))⟩
  f17:=⟨Tryz.f140.name,by decide,Tryz.func140.trans (congrArg some (by kernel_rfl))⟩
  f18:=⟨Tryz.f141.name,by decide,Tryz.func141.trans (congrArg some (by kernel_rfl))⟩
  f19:=Tryz.func142.trans (congrArg some (by kernel_rfl))
  f20:=Tryz.func143.trans (congrArg some (by kernel_rfl))
  f30:=⟨Tryz.f154.name,by decide,Tryz.func154.trans (congrArg some (by kernel_rfl))⟩
  f31:=Tryz.func155.trans (congrArg some (by kernel_rfl))
  f32:=Tryz.func156.trans (congrArg some (by kernel_rfl))
  f33:=⟨Tryz.f157.name,by decide,Tryz.func157.trans (congrArg some (by kernel_rfl))⟩
  f34:=⟨Tryz.f158.name,by decide,Tryz.func158.trans (congrArg some (by kernel_rfl))⟩
  f35:=⟨Tryz.f159.name,by decide,Tryz.func159.trans (congrArg some (by kernel_rfl))⟩
  f40:=⟨Tryz.f165.name,by decide,Tryz.func165.trans (congrArg some (by kernel_rfl))⟩
  t0:=Tryz.underlying0
  a0:=Tryz.isAgg0
  z0:=Tryz.sizeOf0
  v0:=Tryz.zeroValue0
  t3:=Tryz.underlying3
  a3:=Tryz.isAgg3
  z3:=Tryz.sizeOf3
  v3:=Tryz.zeroValue3
  t4:=Tryz.underlying4
  a4:=Tryz.isAgg4
  z4:=Tryz.sizeOf4
  v4:=Tryz.zeroValue4
  t5:=Tryz.underlying5
  a5:=Tryz.isAgg5
  z5:=Tryz.sizeOf5
  v5:=Tryz.zeroValue5
  t9:=Tryz.underlying9
  a9:=Tryz.isAgg9
  z9:=Tryz.sizeOf9
  v9:=Tryz.zeroValue9
  t22:=Tryz.underlying39
  a22:=Tryz.isAgg39
  z22:=Tryz.sizeOf39
  v22:=Tryz.zeroValue39
  t23:=Tryz.underlying39
  a23:=Tryz.isAgg39
  z23:=Tryz.sizeOf39
  v23:=Tryz.zeroValue39
  t25:=Tryz.underlying3
  a25:=Tryz.isAgg3
  z25:=Tryz.sizeOf3
  v25:=Tryz.zeroValue3
  t32:=Tryz.underlying73
  a32:=Tryz.isAgg73
  z32:=Tryz.sizeOf73
  v32:=Tryz.zeroValue73
  t35:=Tryz.underlying209
  a35:=Tryz.isAgg209
  z35:=Tryz.sizeOf209
  v35:=Tryz.zeroValue209
  t36:=Tryz.underlying210
  a36:=Tryz.isAgg210
  z36:=Tryz.sizeOf210
  v36:=Tryz.zeroValue210
  t41:=Tryz.underlying214
  a41:=Tryz.isAgg214
  z41:=Tryz.sizeOf214
  v41:=Tryz.zeroValue214
  t44:=Tryz.underlying199
  a44:=Tryz.isAgg199
  z44:=Tryz.sizeOf199
  v44:=Tryz.zeroValue199
  t46:=Tryz.underlying172
  a46:=Tryz.isAgg172
  z46:=Tryz.sizeOf172
  v46:=Tryz.zeroValue172
  t53:=Tryz.underlying228
  a53:=Tryz.isAgg228
  z53:=Tryz.sizeOf228
  v53:=Tryz.zeroValue228
  t57:=Tryz.underlying186
  a57:=Tryz.isAgg186
  z57:=Tryz.sizeOf186
  v57:=Tryz.zeroValue186
  t63:=Tryz.underlying237
  a63:=Tryz.isAgg237
  z63:=Tryz.sizeOf237
  v63:=Tryz.zeroValue237
  t64:=Tryz.underlying34
  a64:=Tryz.isAgg34
  z64:=Tryz.sizeOf34
  v64:=Tryz.zeroValue34 }
end Go.Proofs.YthkijogloebdoaaGreatDoor
end
section
namespace Go.Proofs.YthkijogloebdoaaGreatDoor.Crc
def poly:BitVec 32:=3988292384#32
def one (w:BitVec 32):BitVec 32:=if w.getLsbD 0 then (w >>> 1) ^^^ poly else w >>> 1
theorem one_zero:one 0#32=0#32:=by decide
theorem one_xor (a b:BitVec 32):one (a ^^^ b)=one a ^^^ one b:=by
  unfold one
  rw [BitVec.getLsbD_xor,BitVec.ushiftRight_xor_distrib]
  cases a.getLsbD 0 <;> cases b.getLsbD 0 <;> simp <;> try ac_rfl
  rw [show a >>> 1 ^^^ poly ^^^ (b >>> 1 ^^^ poly)=a >>> 1 ^^^ b >>> 1 ^^^ (poly ^^^ poly) by ac_rfl]
  simp
def ones:Nat → BitVec 32 → BitVec 32
  | 0,w => w
  | k + 1,w => ones k (one w)
theorem ones_succ' (k:Nat)(w:BitVec 32):ones (k + 1) w=one (ones k w):=by
  induction k generalizing w with
  | zero => rfl
  | succ k ih => show ones (k + 1) (one w)=_; rw [ih]; rfl
theorem ones_add (j k:Nat)(w:BitVec 32):ones (j + k) w=ones j (ones k w):=by
  induction k generalizing w with
  | zero => rfl
  | succ k ih => show ones (j + k) (one w)=_; rw [ih]; rfl
theorem ones_zero (k:Nat):ones k 0#32=0#32:=by
  induction k with
  | zero => rfl
  | succ k ih => show ones k (one 0#32)=0#32; rw [one_zero,ih]
theorem ones_xor (k:Nat)(a b:BitVec 32):ones k (a ^^^ b)=ones k a ^^^ ones k b:=by
  induction k generalizing a b with
  | zero => rfl
  | succ k ih => show ones k (one (a ^^^ b))=_; rw [one_xor,ih]; rfl
theorem ones_shift (k:Nat)(w:BitVec 32)(h:∀ i,i < k → w.getLsbD i=false):ones k w=w >>> k:=by
  induction k with
  | zero => simp [ones]
  | succ k ih =>
    rw [ones_succ',ih (fun i hi => h i (by omega))]
    unfold one
    have:(w >>> k).getLsbD 0=false:=by simp; exact h k (by omega)
    rw [this]
    simp [BitVec.shiftRight_add]
def half (i:Nat):BitVec 32:=ones 4 (BitVec.ofNat 32 i)
theorem and15_lt (v:BitVec 32):(v &&& 15#32).toNat < 16:=by
  have:(v &&& 15#32).toNat ≤ 15:=by rw [BitVec.toNat_and]; exact Nat.and_le_right
  omega
theorem half_step (v:BitVec 32):half (v &&& 15#32).toNat ^^^ v >>> 4=ones 4 v:=by
  have e:v=(v &&& 15#32) ^^^ (v &&& ~~~15#32):=by
    apply BitVec.eq_of_getLsbD_eq
    intro i hi
    simp only [BitVec.getLsbD_xor,BitVec.getLsbD_and,BitVec.getLsbD_not,hi,decide_true,Bool.true_and]
    cases v.getLsbD i <;> cases (15#32).getLsbD i <;> rfl
  have hz:∀ i,i < 4 → (v &&& ~~~15#32).getLsbD i=false:=by
    intro i hi
    have:i=0 ∨ i=1 ∨ i=2 ∨ i=3:=by omega
    rcases this with rfl | rfl | rfl | rfl <;> simp
  have hs : (v &&& ~~~15#32) >>> 4=v >>> 4:=by
    apply BitVec.eq_of_getLsbD_eq
    intro i hi
    simp only [BitVec.getLsbD_ushiftRight,BitVec.getLsbD_and,BitVec.getLsbD_not]
    by_cases h28:4 + i < 32
    · have:(15#32).getLsbD (4 + i)=false:=by
        rw [BitVec.getLsbD_ofNat]
        have:Nat.testBit 15 (4 + i)=false:=by
          apply Nat.testBit_lt_two_pow
          exact Nat.lt_of_lt_of_le (show 15 < 2 ^ 4 by decide) (Nat.pow_le_pow_right (by decide) (by omega))
        simp [this]
      rw [this]; simp only [Bool.not_false,Bool.and_true,decide_eq_true h28]
    · rw [BitVec.getLsbD_of_ge v _ (by omega)]; simp
  conv => rhs; rw [e,ones_xor,ones_shift 4 _ hz,hs]
  unfold half
  rw [BitVec.ofNat_toNat,BitVec.setWidth_eq]
def low4 (v:BitVec 32):Nat:=(v &&& 15#32).toNat
def shr4 (v:BitVec 32):BitVec 32:=v >>> 4
def lay (v:BitVec 32)(b:UInt8):BitVec 32:=v ^^^ b.toBitVec.setWidth 32
theorem low4_lt (v:BitVec 32):low4 v < 16:=and15_lt v
theorem half_low (v:BitVec 32):half (low4 v) ^^^ shr4 v=ones 4 v:=half_step v
def step (v:BitVec 32)(b:UInt8):BitVec 32:=ones 8 (v ^^^ b.toBitVec.setWidth 32)
theorem step_lay (v:BitVec 32)(b:UInt8):ones 4 (ones 4 (lay v b))=step v b:=by
  rw [← ones_add]; rfl
theorem step_zero (v:BitVec 32):step v 0=ones 8 v:=by
  unfold step
  have:(0:UInt8).toBitVec.setWidth 32=0#32:=by decide
  rw [this]; simp
def row (v:BitVec 32)(l:List UInt8):BitVec 32:=l.foldl step v
theorem row_append (v:BitVec 32)(l m:List UInt8):row v (l ++ m)=row (row v l) m:=by simp [row,List.foldl_append]
theorem row_snoc (v:BitVec 32)(l:List UInt8)(b:UInt8):row v (l ++ [b])=step (row v l) b:=by rw [row_append]; rfl
def zeros (n:Nat)(v:BitVec 32):BitVec 32:=ones (8 * n) v
theorem zeros_xor (n:Nat)(a b:BitVec 32):zeros n (a ^^^ b)=zeros n a ^^^ zeros n b:=ones_xor _ _ _
theorem zeros_zero (n:Nat):zeros n 0#32=0#32:=ones_zero _
theorem zeros_add (n m:Nat)(v:BitVec 32):zeros (n + m) v=zeros m (zeros n v):=by
  unfold zeros; rw [Nat.mul_add,Nat.add_comm,ones_add]
def start:BitVec 32 := ~~~0#32
def turned (v:BitVec 32):BitVec 32 := ~~~v
def crc (l:List UInt8):BitVec 32:=turned (row start l)
def app (m:Nat → BitVec 32)(v:BitVec 32):Nat → BitVec 32
  | 0 => 0#32
  | k + 1 => if v.getLsbD k then app m v k ^^^ m k else app m v k
theorem app_rest (m:Nat → BitVec 32)(v:BitVec 32)(j k:Nat)(h:∀ i,j ≤ i → v.getLsbD i=false)(hjk:j ≤ k):app m v k=app m v j:=by
  induction k with
  | zero => have:j=0:=by omega
            rw [this]
  | succ k ih =>
    by_cases hj:j=k + 1
    · rw [hj]
    · simp only [app]; rw [h k (by omega)]; simpa using ih (by omega)
theorem app_linear (f:BitVec 32 → BitVec 32)(h0:f 0#32=0#32)(hx:∀ a b,f (a ^^^ b)=f a ^^^ f b)(v:BitVec 32)(k:Nat) :
    app (fun i => f (1#32 <<< i)) v k=f (app (fun i => 1#32 <<< i) v k):=by
  induction k with
  | zero => exact h0.symm
  | succ k ih => simp only [app]; split <;> simp [ih,hx]
theorem app_bits (v:BitVec 32)(k:Nat)(hk:k ≤ 32)(j:Nat):(app (fun i => 1#32 <<< i) v k).getLsbD j=(decide (j < k) && v.getLsbD j):=by
  induction k with
  | zero => simp [app]
  | succ k ih =>
    have ih:=ih (by omega)
    have hs:(1#32 <<< k).getLsbD j=decide (j=k):=by
      rw [← BitVec.twoPow_eq,BitVec.getLsbD_twoPow]
      by_cases h:k=j
      · subst h; simp; omega
      · simp [h]; omega
    simp only [app]
    by_cases hjk:j=k
    · subst hjk
      cases hv:v.getLsbD j
      · simp [ih]
      · simp [ih,hs]
    · have:(decide (j < k + 1))=decide (j < k):=by simp; omega
      rw [this]
      split
      · rw [BitVec.getLsbD_xor,ih,hs]; simp [hjk]
      · exact ih
theorem app_id (v:BitVec 32):app (fun i => 1#32 <<< i) v 32=v:=by
  apply BitVec.eq_of_getLsbD_eq
  intro i hi
  rw [app_bits v 32 (by omega)]; simp [hi]
theorem app_map (f:BitVec 32 → BitVec 32)(h0:f 0#32=0#32)(hx:∀ a b,f (a ^^^ b)=f a ^^^ f b)(v:BitVec 32):app (fun i => f (1#32 <<< i)) v 32=f v:=by
  rw [app_linear f h0 hx,app_id]
def shrk (v:BitVec 32)(k:Nat):BitVec 32:=v >>> k
def bit (v:BitVec 32)(k:Nat):Bool:=v.getLsbD k
theorem shrk_zero (v:BitVec 32):shrk v 0=v:=by simp [shrk]
theorem shrk_bit (v:BitVec 32)(k:Nat):(shrk v k).getLsbD 0=bit v k:=by simp [shrk,bit]
theorem shrk_succ (v:BitVec 32)(k:Nat):shrk v k >>> 1=shrk v (k + 1):=by simp [shrk,BitVec.shiftRight_add]
theorem shrk_done (v:BitVec 32)(k:Nat)(h:shrk v k=0#32)(m:Nat → BitVec 32)(hk:k ≤ 32):app m v 32=app m v k:=by
  refine app_rest m v k 32 (fun i hi => ?_) hk
  have:=congrArg (fun x:BitVec 32 => x.getLsbD (i - k)) h
  simp only [shrk,BitVec.getLsbD_ushiftRight,BitVec.getLsbD_zero] at this
  rwa [show k + (i - k)=i by omega] at this
theorem shrk_32 (v:BitVec 32):shrk v 32=0#32:=by
  apply BitVec.eq_of_getLsbD_eq
  intro i hi
  simp [shrk]
theorem app_yes (m:Nat → BitVec 32)(v:BitVec 32)(k:Nat)(h:bit v k=true):app m v (k + 1)=app m v k ^^^ m k:=by simp [app,bit] at h ⊢; simp [h]
theorem app_no (m:Nat → BitVec 32)(v:BitVec 32)(k:Nat)(h:bit v k=false):app m v (k + 1)=app m v k:=by simp [app,bit] at h ⊢; simp [h]
def bit8 (k:Nat):UInt8:=⟨1#8 <<< k⟩
def unit (i:Nat):BitVec 32:=1#32 <<< i
def mat (n:Nat)(i:Nat):BitVec 32:=zeros n (1#32 <<< i)
theorem app_mat (n:Nat)(v:BitVec 32):app (mat n) v 32=zeros n v:=app_map (zeros n) (zeros_zero n) (zeros_xor n) v
theorem mat_one (i:Nat):mat 1 i=step (unit i) 0:=by rw [step_zero]; rfl
theorem mat_square (n:Nat)(i:Nat):app (mat n) (mat n i) 32=mat (n + n) i:=by
  rw [app_mat]; unfold mat; rw [zeros_add]
theorem double_mul (p c:Nat):p * (c + c)=2 * (p * c):=by rw [Nat.mul_add,Nat.two_mul]
theorem zeros_odd (q c:Nat)(x:BitVec 32)(h:q % 2=1):zeros (q / 2 * (c + c)) (zeros c x)=zeros (q * c) x:=by
  rw [← zeros_add]
  congr 1
  have hq:q=2 * (q / 2) + 1:=by omega
  generalize q / 2=p at *
  subst hq
  rw [Nat.add_mul,double_mul,Nat.one_mul,Nat.mul_assoc,Nat.add_comm]
theorem zeros_even (q c:Nat)(x:BitVec 32)(h:q % 2=0):zeros (q / 2 * (c + c)) x=zeros (q * c) x:=by
  congr 1
  have hq:q=2 * (q / 2):=by omega
  generalize q / 2=p at *
  subst hq
  rw [double_mul,Nat.mul_assoc]
end Go.Proofs.YthkijogloebdoaaGreatDoor.Crc
end
section
namespace Go.Proofs.YthkijogloebdoaaGreatDoor
def n32 (v:BitVec 32):Int:=(v.toNat:Int)
def n8 (b:UInt8):Int:=(b.toNat:Int)
theorem i64_and1 (q:Nat)(h:q < 9223372036854775808):bits .and .i64 (q:Int) 1=((q % 2:Nat):Int):=by
  have:=bits_mask .i64 63 (by decide) (fun n h0 h1 => IntWalk.i64_in n (by omega)) 1 (by decide) (q:Int) (by omega) (by omega)
  simpa using this
theorem n8_lo (v:UInt8):0 ≤ n8 v:=by unfold n8; omega
theorem n8_hi (v:UInt8):n8 v < 256:=by have:=v.toNat_lt; unfold n8; omega
theorem n32_inj {a b:BitVec 32}(h:n32 a=n32 b):a=b:=by
  unfold n32 at h; exact BitVec.eq_of_toNat_eq (by omega)
theorem n8_inj {a b:UInt8}(h:n8 a=n8 b):a=b:=by
  unfold n8 at h; exact UInt8.toNat_inj.1 (by omega)
theorem n32_beq (a b:BitVec 32):(n32 a == n32 b)=decide (a=b):=by
  by_cases h:a=b
  · subst h; simp
  · simp [h]; exact fun e => h (n32_inj e)
theorem n32_bne (a b:BitVec 32):(n32 a != n32 b) = !decide (a=b):=by rw [bne,n32_beq]
theorem n8_beq (a b:UInt8):(n8 a == n8 b)=decide (a=b):=by
  by_cases h:a=b
  · subst h; simp
  · simp [h]; exact fun e => h (n8_inj e)
theorem ofInt32 (a:BitVec 32):BitVec.ofInt 32 (n32 a)=a:=by
  unfold n32; rw [BitVec.ofInt_natCast,BitVec.ofNat_toNat,BitVec.setWidth_eq]
theorem ofInt32_byte (b:UInt8):BitVec.ofInt 32 (n8 b)=b.toBitVec.setWidth 32:=by
  unfold n8; rw [BitVec.ofInt_natCast]; apply BitVec.eq_of_toNat_eq; simp
theorem wrap32_nat (a:BitVec 32):IntKind.u32.wrap (a.toNat:Int)=n32 a:=by
  have:=a.isLt
  exact IntWalk.u32_in _ (by omega)
theorem u32_wrap32 (a:BitVec 32):IntKind.u32.wrap (n32 a)=n32 a:=wrap32_nat a
theorem u32_wrap8 (a:UInt8):IntKind.u32.wrap (n8 a)=n8 a:=IntWalk.u32_in _ (by have:=n8_lo a; have:=n8_hi a; omega)
theorem u32_xor (a b:BitVec 32):bits .xor .u32 (n32 a) (n32 b)=n32 (a ^^^ b):=by
  show IntKind.u32.wrap ((BitVec.ofInt 32 (n32 a) ^^^ BitVec.ofInt 32 (n32 b)).toNat:Int)=_
  rw [ofInt32,ofInt32,wrap32_nat]
theorem u32_and (a b:BitVec 32):bits .and .u32 (n32 a) (n32 b)=n32 (a &&& b):=by
  show IntKind.u32.wrap ((BitVec.ofInt 32 (n32 a) &&& BitVec.ofInt 32 (n32 b)).toNat:Int)=_
  rw [ofInt32,ofInt32,wrap32_nat]
theorem u32_xor8 (a:BitVec 32)(b:UInt8):bits .xor .u32 (n32 a) (n8 b)=n32 (Crc.lay a b):=by
  show IntKind.u32.wrap ((BitVec.ofInt 32 (n32 a) ^^^ BitVec.ofInt 32 (n8 b)).toNat:Int)=_
  rw [ofInt32,ofInt32_byte,wrap32_nat]; rfl
theorem u32_and15 (a:BitVec 32):bits .and .u32 (n32 a) 15=(Crc.low4 a:Int):=by
  rw [show (15:Int)=n32 15#32 by decide,u32_and]; rfl
theorem u32_and1 (a:BitVec 32):bits .and .u32 (n32 a) 1=((a.getLsbD 0).toNat:Int):=by
  rw [show (1:Int)=n32 1#32 by decide,u32_and]
  unfold n32
  rw [BitVec.toNat_and]
  show ((a.toNat &&& 1:Nat):Int)=_
  rw [Nat.and_one_is_mod]
  simp [BitVec.getLsbD,Nat.testBit_zero]
  cases h:decide (a.toNat % 2=1) <;> simp at h <;> simp <;> omega
theorem u32_not (a:BitVec 32):bits .xor .u32 4294967295 (n32 a)=n32 (Crc.turned a):=by
  rw [show (4294967295:Int)=n32 4294967295#32 by decide,u32_xor]
  have h1:∀ b:BitVec 32,4294967295#32 ^^^ b = ~~~b:=by
    intro b
    apply BitVec.eq_of_getLsbD_eq
    intro i hi
    rw [BitVec.getLsbD_xor,BitVec.getLsbD_not,show 4294967295#32=BitVec.allOnes 32 by decide,BitVec.getLsbD_allOnes]
    simp [hi]
  rw [h1]; rfl
theorem u32_max:IntKind.u32.max=4294967295:=by decide
theorem u32_signed:IntKind.u32.signed=false:=rfl
theorem u32_shr (a:BitVec 32)(k:Nat):(n32 a / 2 ^ k)=n32 (a >>> k):=by
  unfold n32; rw [BitVec.toNat_ushiftRight,Nat.shiftRight_eq_div_pow]; simp
theorem u32_shrk (v:BitVec 32)(k:Nat):n32 (Crc.shrk v k) / 2=n32 (Crc.shrk v (k + 1)):=by rw [← Crc.shrk_succ]; exact u32_shr _ 1
theorem u32_bit1 (v:BitVec 32)(k:Nat)(h:Crc.bit v k=true):bits .and .u32 (n32 (Crc.shrk v k)) 1=1:=by rw [u32_and1,Crc.shrk_bit,h]; rfl
theorem u32_bit0 (v:BitVec 32)(k:Nat)(h:Crc.bit v k=false):bits .and .u32 (n32 (Crc.shrk v k)) 1=0:=by rw [u32_and1,Crc.shrk_bit,h]; rfl
theorem n32_ne0 (v:BitVec 32)(h:v ≠ 0#32):(n32 v != 0)=true:=by
  rw [show (0:Int)=n32 0#32 by decide,n32_bne]; simp [h]
theorem n32_eq0 (v:BitVec 32)(h:v=0#32):(n32 v != 0)=false:=by subst h; decide
theorem u32_one_shl (k:Nat)(h:k < 32):IntKind.u32.wrap (2 ^ k)=n32 (Crc.unit k):=by
  unfold n32 Crc.unit
  rw [BitVec.toNat_shiftLeft,Nat.shiftLeft_eq]
  have h1:(2:Nat) ^ k < 2 ^ 32:=Nat.pow_lt_pow_right (by decide) h
  have e:(((1#32).toNat * 2 ^ k % 2 ^ 32:Nat):Int)=(2:Int) ^ k:=by
    rw [Nat.mod_eq_of_lt (by simpa using h1)]; simp
  rw [e]
  apply IntWalk.u32_in
  have h2:(2:Int) ^ k < 2 ^ 32:=by exact_mod_cast h1
  have h3:(0:Int) < 2 ^ k:=Int.pow_pos (by decide)
  omega
theorem u32_quart (a:BitVec 32):n32 a / 16=n32 (Crc.shr4 a):=u32_shr a 4
theorem u8_pow (k:Nat)(h:k < 8):IntKind.u8.wrap (2 ^ k)=n8 (Crc.bit8 k):=by
  have hk:k=0 ∨ k=1 ∨ k=2 ∨ k=3 ∨ k=4 ∨ k=5 ∨ k=6 ∨ k=7:=by omega
  rcases hk with rfl | rfl | rfl | rfl | rfl | rfl | rfl | rfl <;> decide
end Go.Proofs.YthkijogloebdoaaGreatDoor
end
section
namespace Go.Proofs.YthkijogloebdoaaGreatDoor.Rec
def le:List UInt8 → Nat
  | [] => 0
  | b :: r => b.toNat + 256 * le r
theorem le_append (l m:List UInt8):le (l ++ m)=le l + 256 ^ l.length * le m:=by
  induction l with
  | nil => simp [le]
  | cons b r ih => simp only [List.cons_append,le,ih,List.length_cons,Nat.pow_succ,Nat.mul_add,Nat.mul_comm (256 ^ r.length) 256,Nat.mul_assoc]; omega
theorem le_snoc (l:List UInt8)(b:UInt8):le (l ++ [b])=le l + 256 ^ l.length * b.toNat:=by rw [le_append]; simp [le]
theorem le_lt (l:List UInt8):le l < 256 ^ l.length:=by
  induction l with
  | nil => simp [le]
  | cons b r ih =>
    have:=b.toNat_lt
    simp only [le,List.length_cons,Nat.pow_succ]
    omega
def byteAt (v k:Nat):UInt8:=UInt8.ofNat (v / 256 ^ k)
def les (v n:Nat):List UInt8:=(List.range n).map (byteAt v)
theorem les_length (v n:Nat):(les v n).length=n:=by simp [les]
theorem les_succ (v n:Nat):les v (n + 1)=les v n ++ [byteAt v n]:=by simp [les,List.range_succ]
theorem le_les (v n:Nat):le (les v n)=v % 256 ^ n:=by
  induction n with
  | zero => simp [les,le,Nat.mod_one]
  | succ n ih =>
    rw [les_succ,le_snoc,ih,les_length,Nat.pow_succ,Nat.mod_mul]
    simp [byteAt]
def isW (n:Int):Bool:=n == 1 || n == 2 || n == 4 || n == 8
def lies (len:Nat)(at_ n:Int):Bool:=decide (0 ≤ at_ ∧ 0 ≤ n ∧ at_ + n ≤ len)
def part (l:List UInt8)(at_ n:Int):List UInt8:=(l.drop at_.toNat).take n.toNat
def getE (len:Nat)(at_ n:Int):Int:=if isW n=false then 1 else if lies len at_ n=false then 20 else 0
def getV (l:List UInt8)(at_ n:Int):Nat:=if isW n=false then 0 else if lies l.length at_ n=false then 0 else le (part l at_ n)
def ahead (l:List UInt8):Nat:=(l.takeWhile (· != 0)).length
def zeros (l:List UInt8):Bool:=l.all (· == 0)
theorem take_all {α:Type}(p : α → Bool)(l:List α)(k:Nat)(hk:k ≤ l.length)(h:∀ j (hj:j < k),p (l[j]'(by omega))=true):(l.take k).all p=true:=by
  rw [List.all_eq_true]
  intro x hx
  obtain ⟨j,hj,rfl⟩:=List.mem_iff_getElem.1 hx
  rw [List.length_take] at hj
  rw [List.getElem_take]
  exact h j (by omega)
theorem takeWhile_self {α:Type}(p : α → Bool)(l:List α)(h:∀ x ∈ l,p x=true):l.takeWhile p=l:=by
  induction l with
  | nil => rfl
  | cons x r ih => rw [List.takeWhile_cons,if_pos (h x (by simp)),ih (fun y hy => h y (by simp [hy]))]
theorem ahead_at (l:List UInt8)(k:Nat)(hk:k < l.length)(h:∀ j (hj:j < k),l[j]'(by omega) ≠ 0)(hz:l[k]=0):ahead l=k:=by
  have e:l=l.take k ++ l[k] :: l.drop (k + 1):=by rw [← List.drop_eq_getElem_cons hk,List.take_append_drop]
  have ha:=take_all (· != 0) l k (by omega) (fun j hj => by simpa using h j hj)
  unfold ahead
  rw [e,List.takeWhile_append]
  have:(l.take k).takeWhile (· != 0)=l.take k:=takeWhile_self _ _ fun x hx => List.all_eq_true.1 ha x hx
  rw [this]
  simp [hz]
  omega
theorem ahead_all (l:List UInt8)(h:∀ j (hj:j < l.length),l[j] ≠ 0):ahead l=l.length:=by
  unfold ahead
  have:l.takeWhile (· != 0)=l:=by
    refine takeWhile_self _ _ ?_
    intro x hx
    obtain ⟨j,hj,rfl⟩:=List.mem_iff_getElem.1 hx
    simpa using h j hj
  rw [this]
theorem zeros_all (l:List UInt8)(h:∀ j (hj:j < l.length),l[j]=0):zeros l=true:=by
  have:=take_all (· == 0) l l.length (Nat.le_refl _) (fun j hj => by simpa using h j hj)
  rwa [List.take_length] at this
theorem zeros_not (l:List UInt8)(k:Nat)(hk:k < l.length)(h:l[k] ≠ 0):zeros l=false:=by
  unfold zeros
  rw [List.all_eq_false]
  exact ⟨l[k],List.getElem_mem hk,by simpa using h⟩
def zeroE (len:Nat)(at_ n:Int):Int:=if n < 0 then 1 else if lies len at_ n=false then 20 else 0
def zeroV (l:List UInt8)(at_ n:Int):Bool:=if n < 0 then false else if lies l.length at_ n=false then false else zeros (part l at_ n)
def putE (len:Nat)(at_ n:Int)(v:Nat):Int:=if isW n=false ∨ (n < 8 ∧ v / 2 ^ (8 * n.toNat) ≠ 0) then 1 else if lies len at_ n=false then 20 else 0
def putTextE (len:Nat)(at_ n:Int)(s:List UInt8):Int:=if n < 0 ∨ n < (s.length:Int) ∨ ahead s < s.length then 1 else if lies len at_ n=false then 20 else 0
end Go.Proofs.YthkijogloebdoaaGreatDoor.Rec
end
section
namespace Go.Proofs.YthkijogloebdoaaGreatDoor
open Go.RowKit
def Bytes (w:World)(A:Option Addr)(l:List UInt8):Prop :=
  l=[] ∨ ∃ b off,A=some ⟨b,off,none⟩ ∧ ∀ k (h:k < l.length),w.cell? ⟨b,off + k,none⟩=some (.int .u8 (n8 l[k]))
theorem Bytes.at_ {w:World}{A:Option Addr}{l:List UInt8}(h:Bytes w A l){k:Nat}(hk:k < l.length) :
    ∃ b off,A=some ⟨b,off,none⟩ ∧ w.cell? ⟨b,off + k,none⟩=some (.int .u8 (n8 l[k])):=by
  rcases h with rfl | ⟨b,off,rfl,h⟩
  · simp at hk
  · exact ⟨b,off,rfl,h k hk⟩
theorem take_snoc {α:Type}(l:List α)(k:Nat)(h:k < l.length):l.take (k + 1)=l.take k ++ [l[k]]:=by
  rw [List.take_succ_eq_append_getElem h]
def Is (w:World)(g:Nat)(t:TypeId)(cs:Array Value):Prop:=w.heap[g]? = some (.cells cs t (0,0))
section
variable {w w':World}{g:Nat}{t:TypeId}{cs:Array Value}
theorem Is.lt (h:Is w g t cs):g < w.heap.size:=by
  unfold Is at h
  rcases Nat.lt_or_ge g w.heap.size with hl | hl
  · exact hl
  · rw [Array.getElem?_eq_none hl] at h; cases h
theorem Is.cell (h:Is w g t cs)(i:Nat):w.cell? ⟨g,i,none⟩=cs[i]?:=cell_of_row w g i cs t (0,0) h
theorem Is.free (h:Is w g t cs)(i:Nat):w.frozen? ⟨g,i,none⟩=false:=frozen_of_row w g i cs t h
theorem Is.new (w:World)(t:TypeId)(cs:Array Value):Is (w.alloc (.cells cs t)) w.heap.size t cs:=heap_alloc_new w _
theorem Is.alloc (h:Is w g t cs)(o:Obj):Is (w.alloc o) g t cs:=(Below.heap_alloc w o g h.lt).trans h
theorem Is.drew (h:Is w g t cs):Is w.drew g t cs:=h
theorem Is.put (h:Is w g t cs)(i:Nat)(u:Value):Is (w.setCell ⟨g,i,none⟩ u) g t (cs.setIfInBounds i u):=heap_setCell_same w g i cs t u h
theorem Is.other (h:Is w g t cs)(p:Addr)(hp:g ≠ p.block)(u:Value):Is (w.setCell p u) g t cs:=(heap_setCell_other w p g u hp).trans h
theorem Is.row (h:Is w g t cs)(cs':Array Value):Is (w.setRow g cs') g t cs':=setRow_heap w g cs cs' t (0,0) h
theorem Is.rowOther (h:Is w g t cs)(k:Nat)(hk:g ≠ k)(cs':Array Value):Is (w.setRow k cs') g t cs:=(setRow_other w k g cs' hk).trans h
theorem Is.below {B:Nat}(h:Is w g t cs)(hb:Below B w w')(hg:g < B):Is w' g t cs:=(hb.block g hg).trans h
end
theorem below_setRow {B g:Nat}{w0 w:World}(hb:Below B w0 w)(hBg:B ≤ g)(cs:Array Value):Below B w0 (w.setRow g cs) :=
  ⟨by simp [hb.os],by simp [hb.tape],by simp [hb.output],by simp [hb.size],fun k hk => (setRow_other w g k cs (by omega)).trans (hb.block k hk)⟩
theorem two_new (w:World)(cs ds:Array Value)(t u:TypeId):Below w.heap.size w ((w.alloc (.cells cs t)).alloc (.cells ds u)) ∧ Is ((w.alloc (.cells cs t)).alloc (.cells ds u)) w.heap.size t cs ∧
    Is ((w.alloc (.cells cs t)).alloc (.cells ds u)) (w.heap.size + 1) u ds:=by
  refine ⟨((Below.refl _ _).alloc (Nat.le_refl _) _).alloc (by simp) _,(Is.new _ _ _).alloc _,?_⟩
  have:=Is.new (w.alloc (.cells cs t)) u ds
  rwa [World.size_alloc] at this
theorem one_new (w:World)(cs:Array Value)(t:TypeId):Below w.heap.size w (w.alloc (.cells cs t)) ∧ Is (w.alloc (.cells cs t)) w.heap.size t cs :=
  ⟨(Below.refl _ _).alloc (Nat.le_refl _) _,Is.new _ _ _⟩
theorem wpList_store_row {P:Program}{ops:Array Oper}{rest:List Oper}{o:Oper}{a:Act}{w:World}{Q:Exit → Act → World → Prop}(hgd:o.guard=none)(ty:TypeId)(x y:Operand)(ho:o.op=.store ty x y)
    (g:Nat)(cells:Array Value)(hx:a.eval x=.pointer (some ⟨g,0,none⟩))(hy:a.eval y=.agg cells)
    (t:TypeId)(old:Array Value)(hg:Is w g t old)(hi:(P.info? ty).map (·.size)=some cells.size)
    (hold:old.size=cells.size)(h1:cells.all (·.oneCell')=true)
    (h:wpList P ops Q rest (a.put o.dst undef) (w.setRow g cells)):wpList P ops Q (o :: rest) a w :=
  wpList_plain hgd fun _ hK => wp_store_row ty x y ho g cells hx hy t old hg hi hold h1 (hK _ _ h)
def u8s (l:List UInt8):Array Value:=(l.map fun b => Value.int .u8 (n8 b)).toArray
theorem u8s_size (l:List UInt8):(u8s l).size=l.length:=by simp [u8s]
theorem u8s_at (l:List UInt8)(i:Nat)(h:i < l.length):(u8s l)[i]? = some (.int .u8 (n8 l[i])):=by simp [u8s,h]
theorem Bytes.of_is {w:World}{g:Nat}{t:TypeId}{l:List UInt8}(h:Is w g t (u8s l)):Bytes w (some ⟨g,0,none⟩) l :=
  .inr ⟨g,0,rfl,fun k hk => by rw [Nat.zero_add,h.cell,u8s_at l k hk]⟩
theorem below_new (w:World)(o:Obj):Below w.heap.size w (w.alloc o):=(Below.refl _ _).alloc (Nat.le_refl _) _
theorem Bytes.later {w w':World}{A:Option Addr}{l:List UInt8}(h:Bytes w A l)(hb:Below w.heap.size w w'):Bytes w' A l:=by
  rcases h with rfl | ⟨b,off,rfl,h⟩
  · exact .inl rfl
  · exact .inr ⟨b,off,rfl,fun k hk => (hb.cell (p:=⟨b,off + k,none⟩) (block_lt_of_cell (h k hk))).trans (h k hk)⟩
theorem Bytes.take {w:World}{A:Option Addr}{l:List UInt8}(h:Bytes w A l)(n:Nat):Bytes w A (l.take n):=by
  rcases h with rfl | ⟨b,off,rfl,h⟩
  · exact .inl (by simp)
  · exact .inr ⟨b,off,rfl,fun k hk => by rw [List.getElem_take]; exact h k (by simp at hk; omega)⟩
theorem Bytes.cut {w:World}{A:Option Addr}{l:List UInt8}(h:Bytes w A l){k cap:Nat}(hk:l.length ≤ cap) :
    Bytes w (if cap=k then A else A.map (·.add k)) (l.drop k):=by
  rcases h with rfl | ⟨b,off,rfl,h⟩
  · exact .inl (by simp)
  · by_cases e:cap=k
    · exact .inl (List.drop_eq_nil_of_le (by omega))
    · rw [if_neg e]
      refine .inr ⟨b,off + k,?_,fun j hj => ?_⟩
      · simp only [Option.map_some,Addr.add]
        split
        · rename_i h0; subst h0; rfl
        · rfl
      · rw [List.getElem_drop,Nat.add_assoc]
        exact h (k + j) (by simp at hj; omega)
theorem wpList_min2 {P:Program}{ops:Array Oper}{rest:List Oper}{o:Oper}{a:Act}{w:World}{Q:Exit → Act → World → Prop}(hgd:o.guard=none)(x y:Operand)(ts:Array TypeId)
    (ho:o.op=.call { callee:=.builtin .min,args := #[x,y],argTypes:=ts })(p q:Int)(hx:a.eval x=.int .i64 p)(hy:a.eval y=.int .i64 q)
    (m:Int)(hm:(if q < p then q else p)=m)(h:wpList P ops Q rest (a.put o.dst (.int .i64 m)) w):wpList P ops Q (o :: rest) a w:=by
  refine wpList_plain hgd fun K hK => ?_
  have hrun:(Builtin.min_ ts o.type #[.int .i64 p,.int .i64 q]).run P w=.ok (.int .i64 m) w:=by
    rw [← hm]; simp [Builtin.min_,Builtin.min2]
  unfold Oper.wp
  simp [execOp,ho,resolve,invoke,builtin,hx,hy,hrun,Result.andThen]
  exact hK _ _ h
theorem min_two (x y:Nat):∃ m:Nat,(if (y:Int) < (x:Int) then (y:Int) else (x:Int))=(m:Int) ∧ m ≤ x ∧ m ≤ y:=by
  by_cases h:y < x
  · exact ⟨y,if_pos (by omega),by omega,by omega⟩
  · exact ⟨x,if_neg (by omega),by omega,by omega⟩
theorem below_drewN {B:Nat}{a w:World}(h:Below B a w)(n:Nat):Below B a (w.drewN n):=⟨h.os,h.tape,h.output,h.size,h.block⟩
theorem ret_int {k:IntKind}{a b:Int}(h:a=b):Ending.returned (.int k a)=.returned (.int k b):=by rw [h]
theorem ret_bool {a b:Bool}(h:a=b):Ending.returned (.bool a)=.returned (.bool b):=by rw [h]
end Go.Proofs.YthkijogloebdoaaGreatDoor
end
section
namespace Go.Proofs.YthkijogloebdoaaGreatDoor
open Go.RowKit
theorem infoU8:(Tryz.prog.info? 5).map (fun i => (i.zero,i.size,i.bytes))=some (some (.int .u8 0),1,1):=by kernel_rfl
def cellsOf8 (l:List UInt8):List Value:=l.map fun b => Value.int .u8 (n8 b)
theorem cellsOf8_length (l:List UInt8):(cellsOf8 l).length=l.length:=by simp [cellsOf8]
theorem cellsOf8_append (l m:List UInt8):cellsOf8 (l ++ m)=cellsOf8 l ++ cellsOf8 m:=by simp [cellsOf8]
theorem cellsOf8_at (l:List UInt8)(k:Nat)(h:k < l.length):(cellsOf8 l)[k]? = some (.int .u8 (n8 l[k])):=by simp [cellsOf8,h]
theorem cellsOf8_set (l:List UInt8)(k:Nat)(b:UInt8):(cellsOf8 l).set k (.int .u8 (n8 b))=cellsOf8 (l.set k b):=by simp [cellsOf8,List.map_set]
theorem cellsOf8_one (l:List UInt8):∀ u ∈ cellsOf8 l,u.oneCell'=true:=by
  intro u hu
  simp only [cellsOf8,List.mem_map] at hu
  obtain ⟨b,_,rfl⟩:=hu
  rfl
def Mine (w:World)(base:Nat)(A:Option Addr)(cap:Nat)(l:List UInt8):Prop:=w.ownsRow base 5 1 (.slice A l.length cap) l.length (cellsOf8 l)
section
variable {w w':World}{base:Nat}{A:Option Addr}{cap:Nat}{l:List UInt8}
theorem Mine.form (h:Mine w base A cap l)(hl:0 < l.length):∃ g,A=some ⟨g,0,none⟩ ∧ base ≤ g ∧ g < w.heap.size:=by
  rcases h.2 with ⟨_,h0⟩ | ⟨g,cap',cur,hv,hg,hh,_⟩
  · omega
  · injection hv with hA
    refine ⟨g,hA,hg,?_⟩
    rcases Nat.lt_or_ge g w.heap.size with hlt | hge
    · exact hlt
    · rw [Array.getElem?_eq_none hge] at hh; cases hh
theorem Mine.cap_le (h:Mine w base A cap l):l.length ≤ cap ∧ cap ≤ maxLen:=by
  rcases h.2 with ⟨hv,h0⟩ | ⟨g,cap',cur,hv,_,_,h1,h2,_⟩
  · injection hv with _ _ hc; subst hc; simp [maxLen]; exact List.eq_nil_of_length_eq_zero h0
  · injection hv with _ _ hc; subst hc; exact ⟨h1,h2⟩
theorem Mine.cell {g:Nat}(h:Mine w base (some ⟨g,0,none⟩) cap l){k:Nat}(hk:k < l.length):w.cell? ⟨g,k,none⟩=some (.int .u8 (n8 l[k])):=by
  rw [World.ownsRow.cellAt h k (by omega),cellsOf8_at l k hk]
theorem Mine.free {g:Nat}(h:Mine w base (some ⟨g,0,none⟩) cap l)(k:Nat):w.frozen? ⟨g,k,none⟩=false:=World.ownsRow.frozenAt h k
theorem Mine.put {g:Nat}(h:Mine w base (some ⟨g,0,none⟩) cap l)(k:Nat)(b:UInt8):Mine (w.setCell ⟨g,k,none⟩ (.int .u8 (n8 b))) base (some ⟨g,0,none⟩) cap (l.set k b):=by
  have:=World.ownsRow.stored h k (.int .u8 (n8 b))
  rw [cellsOf8_set] at this
  unfold Mine
  rw [List.length_set]
  exact this.1
theorem Mine.bytes (h:Mine w base A cap l):Bytes w A l:=by
  by_cases hl:l=[]
  · exact .inl hl
  · obtain ⟨g,rfl,_⟩:=h.form (List.length_pos_iff.2 hl)
    exact .inr ⟨g,0,rfl,fun k hk => by rw [Nat.zero_add]; exact h.cell hk⟩
theorem Mine.kept (h:Mine w base A cap l)(hk:∀ g,A=some ⟨g,0,none⟩ → w'.heap[g]? = w.heap[g]?):Mine w' base A cap l:=by
  refine ⟨h.1,?_⟩
  rcases h.2 with h2 | ⟨g,cap',cur,hv,hg,hh,r⟩
  · exact .inl h2
  · refine .inr ⟨g,cap',cur,hv,hg,?_,r⟩
    injection hv with hA
    rw [hk g hA]; exact hh
theorem Mine.below {B:Nat}(h:Mine w base A cap l)(hb:Below B w w')(hB:∀ g,A=some ⟨g,0,none⟩ → g < B):Mine w' base A cap l:=h.kept fun g hg => hb.block g (hB g hg)
theorem Mine.lt (h:Mine w base A cap l):∀ g,A=some ⟨g,0,none⟩ → g < w.heap.size:=by
  rintro g rfl
  rcases h.2 with ⟨hv,_⟩ | ⟨g',cap',cur,hv,hg,hh,r⟩
  · cases hv
  · injection hv with hA
    injection hA with hA
    injection hA with hA
    subst hA
    rcases Nat.lt_or_ge g w.heap.size with hlt | hge
    · exact hlt
    · rw [Array.getElem?_eq_none hge] at hh; cases hh
theorem Mine.ge (h:Mine w base A cap l):∀ g,A=some ⟨g,0,none⟩ → base ≤ g:=by
  rintro g rfl
  rcases h.2 with ⟨hv,_⟩ | ⟨g',cap',cur,hv,hg,hh,r⟩
  · cases hv
  · injection hv with hA
    injection hA with hA
    injection hA with hA
    subst hA; exact hg
theorem Mine.later (h:Mine w base A cap l)(hb:Below w.heap.size w w'):Mine w' base A cap l:=h.below hb h.lt
theorem Mine.drew (h:Mine w base A cap l):Mine w.drew base A cap l:=h
theorem Mine.nil (w:World)(base:Nat):Mine w base none 0 []:=⟨rfl,.inl ⟨rfl,rfl⟩⟩
theorem Mine.empty (w:World){base:Nat}(h:base ≤ w.heap.size):Mine (w.alloc (.cells #[] 5)) base (some ⟨w.heap.size,0,none⟩) 0 [] :=
  ⟨rfl,.inr ⟨w.heap.size,0,#[],rfl,h,heap_alloc_new w _,by simp,by simp [maxLen],by simp,by simp [cellsOf8]⟩⟩
theorem Mine.base_le {base':Nat}(h:Mine w base A cap l)(hb:base' ≤ base):Mine w base' A cap l:=by
  refine ⟨h.1,?_⟩
  rcases h.2 with h2 | ⟨g,cap',cur,hv,hg,r⟩
  · exact .inl h2
  · exact .inr ⟨g,cap',cur,hv,by omega,r⟩
end
theorem mine_of_own {w:World}{base:Nat}{v:Value}{l:List UInt8}(h:w.ownsRow base 5 1 v l.length (cellsOf8 l)):∃ A cap,v=.slice A l.length cap ∧ Mine w base A cap l:=by
  rcases h.2 with ⟨hv,h0⟩ | ⟨g,cap,cur,hv,_⟩
  · have:l=[]:=List.eq_nil_of_length_eq_zero h0
    subst this
    exact ⟨none,0,hv,by subst hv; exact h⟩
  · exact ⟨_,cap,hv,by subst hv; exact h⟩
theorem Bytes.cells {w:World}{ad:Addr}{l:List UInt8}(h:Bytes w (some ad) l):∀ j u,(cellsOf8 l)[j]? = some u → w.cell? (ad.add j)=some u:=by
  intro j u hu
  have hj:j < l.length:=by
    rcases Nat.lt_or_ge j l.length with h1 | h1
    · exact h1
    · rw [List.getElem?_eq_none (by rw [cellsOf8_length]; exact h1)] at hu; cases hu
  obtain ⟨b,off,e,hc⟩:=h.at_ hj
  injection e with e
  subst e
  rw [cellsOf8_at l j hj] at hu
  injection hu with hu
  subst hu
  unfold Addr.add
  split
  · rename_i h0; subst h0; simpa using hc
  · exact hc
theorem wpList_append_u8 {ops:Array Oper}{rest:List Oper}{o:Oper}{a:Act}{w:World}{Q:Exit → Act → World → Prop}(hgd:o.guard=none)(s x:Operand)
    (ho:o.op=.call { callee:=.builtin .append,args := #[s,x],argTypes := #[28,28] })
    (base:Nat)(A:Option Addr)(cap:Nat)(l:List UInt8)(hs:a.eval s=.slice A l.length cap)(hown:Mine w base A cap l)
    (B:Option Addr)(c:Nat)(news:List UInt8)(hx:a.eval x=.slice B news.length c)(hc:B=none → c=0)(hnews:Bytes w B news)
    (hbytes:l.length + news.length ≤ 140737488355328)(hbase:base ≤ w.heap.size)
    (h:∀ A' cap' w',Mine w' base A' cap' (l ++ news) → w.grownBy w' (Value.slice A l.length cap).ownBlock → Below base w w' → wpList Tryz.prog ops Q rest (a.put o.dst (.slice A' (l ++ news).length cap')) w') :
    wpList Tryz.prog ops Q (o :: rest) a w:=by
  obtain ⟨i0,hi,hz0,hz1,hz2⟩:=info_parts infoU8
  cases B with
  | none =>
    have hn:news=[]:=by
      rcases hnews with rfl | ⟨b,off,hb,_⟩
      · rfl
      · cases hb
    subst hn
    obtain rfl:=hc rfl
    refine wpList_append_own_none hgd s x 28 ho base 5 i0 1 Tryz.underlying28 hi _ l.length (cellsOf8 l) hs hown hx ?_
    have:=h A cap w (by simpa using hown) (World.grownBy.refl _ _) (Below.refl _ _)
    simpa using this
  | some ad =>
    refine wpList_append_own w hgd s x 28 ho base 5 i0 (.int .u8 0) 1 1 Tryz.underlying28 hi hz0 hz1 hz2 rfl (by decide) _ l.length (cellsOf8 l) hs hown ad news.length c (cellsOf8 news) hx
      (by rw [cellsOf8_length,Nat.mul_one]) hnews.cells (cellsOf8_one _) (by simp only [maxLen]; omega) (by omega) hbase ?_
    intro v' w' hown' hg _
    rw [← cellsOf8_append,← List.length_append] at hown'
    obtain ⟨A',cap',rfl,hm⟩:=mine_of_own hown'
    exact h A' cap' w' hm hg ((Below.refl _ _).grown hg hbase (by
      intro k hk
      cases A with
      | none => cases hk
      | some aa =>
        injection hk with hk
        rcases hown.2 with ⟨hv,_⟩ | ⟨g,cap'',cur,hv,hgb,_⟩
        · cases hv
        · injection hv with hA
          injection hA with hA
          subst hA
          rw [← hk]; exact hgb))
def spliced (l:List UInt8)(at_:Nat)(news:List UInt8):List UInt8:=l.take at_ ++ news ++ l.drop (at_ + news.length)
theorem spliced_length (l:List UInt8)(at_:Nat)(news:List UInt8)(h:at_ + news.length ≤ l.length):(spliced l at_ news).length=l.length:=by simp [spliced]; omega
theorem spliced_nil (l:List UInt8)(at_:Nat):spliced l at_ []=l:=by simp [spliced]
theorem step_pass {P:Program}{ops:Array Oper}{o:Oper}{a:Act}{w w':World}{K:Act → World → Prop}{Q:Exit → Act → World → Prop}{E:Prop}(hgd:o.guard=none){v:Value}(hrun:(execOp a.eval o).run P w=.ok (.value v) w')
    (h:K (a.put o.dst v) w'):if Region.wanted o (yielded ops a.tmps)=true then Oper.wp P o a w K Q else E:=by
  have hw:Region.wanted o (yielded ops a.tmps)=true:=by simp [Region.wanted,hgd]
  rw [if_pos hw]
  unfold Oper.wp
  rw [hrun]
  exact h
theorem sizeU8:(Tryz.prog.info? 5).map (·.size)=some 1:=by kernel_rfl
end Go.Proofs.YthkijogloebdoaaGreatDoor
end
section
namespace Go.Proofs.YthkijogloebdoaaGreatDoor
open Go.RowKit
theorem grown_trans {a b c:World}{row:Option Nat}(h:a.grownBy b row)(k:b.grownBy c row):a.grownBy c row :=
  ⟨k.os.trans h.os,k.tape.trans h.tape,k.output.trans h.output,Nat.le_trans h.size k.size,fun i hi hne => (k.block i (Nat.lt_of_lt_of_le hi h.size) hne).trans (h.block i hi hne)⟩
theorem grown_setCell (w:World)(g i:Nat)(v:Value):w.grownBy (w.setCell ⟨g,i,none⟩ v) (some g):=by
  have h:Below 0 w (w.setCell ⟨g,i,none⟩ v):=(Below.refl _ _).setCell (Nat.zero_le _) v
  exact ⟨h.os,h.tape,h.output,h.size,fun k hk hne => heap_setCell_other w ⟨g,i,none⟩ k v (fun e => hne (congrArg some e))⟩
theorem spliced_cons (l:List UInt8)(a:Nat)(b:UInt8)(s:List UInt8)(h:a + (b :: s).length ≤ l.length):spliced (l.set a b) (a + 1) s=spliced l a (b :: s):=by
  unfold spliced
  simp at h
  have h1:(l.set a b).take (a + 1)=l.take a ++ [b]:=by
    rw [List.take_succ_eq_append_getElem (by simp; omega)]
    simp [List.take_set_of_le]
  have h2:(l.set a b).drop (a + 1 + s.length)=l.drop (a + (b :: s).length):=by
    rw [List.drop_set_of_lt (by omega)]; congr 1; simp; omega
  rw [h1,h2]
  simp
theorem Mine.cells {w:World}{base g cap:Nat}{l:List UInt8}:∀ (news:List UInt8)(at_:Nat)(l:List UInt8)(w:World),Mine w base (some ⟨g,0,none⟩) cap l → at_ + news.length ≤ l.length →
    Mine (w.setCells g at_ (cellsOf8 news)) base (some ⟨g,0,none⟩) cap (spliced l at_ news) ∧ w.grownBy (w.setCells g at_ (cellsOf8 news)) (some g)
  | [],at_,l,w,hm,_ => by rw [spliced_nil]; exact ⟨hm,World.grownBy.refl _ _⟩
  | b :: r,at_,l,w,hm,h => by
    have h1:=hm.put at_ b
    obtain ⟨h2,h3⟩:=Mine.cells (w:=w) (l:=l) r (at_ + 1) (l.set at_ b) _ h1 (by simp at h ⊢; omega)
    rw [spliced_cons l at_ b r h] at h2
    exact ⟨h2,grown_trans (grown_setCell _ _ _ _) h3⟩
theorem Mine.row {w:World}{base g cap:Nat}{l:List UInt8}(hm:Mine w base (some ⟨g,0,none⟩) cap l):∃ cur:Array Value,w.heap[g]? = some (.cells cur 5 (0,0)) ∧ l.length ≤ cur.size ∧
    ∀ (at_:Nat) (news:List UInt8),at_ + news.length ≤ l.length → Mine (w.setRow g (cur.toList.take at_ ++ cellsOf8 news ++ cur.toList.drop (at_ + news.length)).toArray) base (some ⟨g,0,none⟩) cap (spliced l at_ news) ∧
      w.grownBy (w.setRow g (cur.toList.take at_ ++ cellsOf8 news ++ cur.toList.drop (at_ + news.length)).toArray) (some g):=by
  have hcl:=hm.cap_le
  rcases hm.2 with ⟨hv,_⟩ | ⟨g',cap',cur,hv,hgb,hh,hle,hmax,hsz,hx⟩
  · cases hv
  injection hv with hA _ hcc
  injection hA with hA
  injection hA with hA
  subst hA
  subst hcc
  refine ⟨cur,hh,by omega,fun at_ news hfit => ?_⟩
  have hsize:(cur.toList.take at_ ++ (cellsOf8 news ++ cur.toList.drop (at_ + news.length))).length=cur.size:=by
    simp [cellsOf8_length]; omega
  refine ⟨?_,?_⟩
  · refine ⟨by rw [cellsOf8_length,Nat.mul_one],.inr ⟨g,cap,_,?_,hgb,setRow_heap w g _ _ _ _ hh,?_,hmax,?_,?_⟩⟩
    · rw [spliced_length l at_ news hfit]
    · rw [spliced_length l at_ news hfit]; exact hle
    · rw [List.append_assoc,List.size_toArray,hsize]; exact hsz
    · rw [spliced_length l at_ news hfit,Nat.mul_one]
      rw [Nat.mul_one] at hx
      have hcur:cur.toList=cellsOf8 l ++ cur.toList.drop l.length:=by rw [← hx]; exact (List.take_append_drop _ _).symm
      generalize cur.toList.drop l.length=R at hcur
      have e1:(cellsOf8 l ++ R).take at_=(cellsOf8 l).take at_:=List.take_append_of_le_length (by rw [cellsOf8_length]; omega)
      have e2:(cellsOf8 l ++ R).drop (at_ + news.length)=(cellsOf8 l).drop (at_ + news.length) ++ R:=List.drop_append_of_le_length (by rw [cellsOf8_length]; omega)
      rw [hcur,e1,e2]
      have e:(cellsOf8 l).take at_ ++ cellsOf8 news ++ ((cellsOf8 l).drop (at_ + news.length) ++ R)=cellsOf8 (spliced l at_ news) ++ R:=by
        simp [cellsOf8,spliced,List.map_take,List.map_drop]
      have hlen:(cellsOf8 (spliced l at_ news)).length=l.length:=by rw [cellsOf8_length,spliced_length l at_ news hfit]
      rw [e,List.take_append_of_le_length (by omega),List.take_of_length_le (by omega)]
  · refine ⟨rfl,rfl,rfl,by simp,fun k hk hne => setRow_other w g k _ (fun e => hne (by rw [e]))⟩
theorem text_bytes (w:World)(s:List UInt8):∃ cap w',(convert 9 28 (.string ⟨s.toArray⟩)).run Tryz.prog w=.ok (.slice (some ⟨w.heap.size,0,none⟩) s.length cap) w' ∧ Bytes w' (some ⟨w.heap.size,0,none⟩) s ∧ Below w.heap.size w w':=by
  have h:=run_bytes_of_string (P:=Tryz.prog) w 9 28 5 ⟨s.toArray⟩ Tryz.underlying9 Tryz.underlying28 Tryz.underlying5
  refine ⟨_,_,h,?_,((Below.refl _ _).drew).alloc (Nat.le_refl _) _⟩
  refine .inr ⟨w.heap.size,0,rfl,fun k hk => ?_⟩
  rw [Nat.zero_add]
  refine (cell_of_row (w.drew.alloc _) w.heap.size k _ _ _ (heap_alloc_new w.drew _)).trans ?_
  unfold bytesRow
  rw [Array.getElem?_append_left (by simpa using hk)]
  simp [hk,n8]
theorem own_addr {w:World}{base cap:Nat}{A:Option Addr}{l:List UInt8}(hm:Mine w base A cap l){at_:Nat}{dp:Option Addr}(hdp:(if cap=at_ then A else A.map (·.add at_))=dp)(h:at_ < l.length) :
    ∃ g,A=some ⟨g,0,none⟩ ∧ dp=some ⟨g,at_,none⟩:=by
  obtain ⟨g,rfl,_,_⟩:=hm.form (by omega)
  have hcl:=hm.cap_le
  rw [if_neg (by omega)] at hdp
  refine ⟨g,rfl,?_⟩
  rw [← hdp]
  simp only [Option.map_some,Addr.add]
  split
  · rename_i e; subst e; rfl
  · simp
theorem wpList_copy_text {ops:Array Oper}{rest:List Oper}{o:Oper}{a:Act}{w:World}{Q:Exit → Act → World → Prop}(hgd:o.guard=none)(d s:Operand)
    (ho:o.op=.call { callee:=.builtin .copy,args := #[d,s],argTypes := #[28,9] })
    (base:Nat)(A:Option Addr)(cap:Nat)(l:List UInt8)(hm:Mine w base A cap l)(at_:Nat)(dp:Option Addr)(dLen dCap:Nat)(hd:a.eval d=.slice dp dLen dCap)(hdp:(if cap=at_ then A else A.map (·.add at_))=dp)
    (news:List UInt8)(hs:a.eval s=.string ⟨news.toArray⟩)(hle:news.length ≤ dLen)(hfit:at_ + news.length ≤ l.length)
    (h:∀ w',Mine w' base A cap (spliced l at_ news) → w.grownBy w' (Value.slice A l.length cap).ownBlock → wpList Tryz.prog ops Q rest (a.put o.dst (goInt news.length)) w') :
    wpList Tryz.prog ops Q (o :: rest) a w:=by
  by_cases h0:news=[]
  · subst h0
    refine wpList_plain hgd fun K hK => ?_
    have hrun:=Lib.run_copy_empty_string (P:=Tryz.prog) w 28 9 o.type 5 dp dLen dCap ⟨#[]⟩ Tryz.underlying28 (by kernel_rfl) rfl
    unfold Oper.wp
    simp [execOp,ho,resolve,invoke,builtin,hd,hs,hrun,Result.andThen]
    have:=h w (by rw [spliced_nil]; exact hm) (World.grownBy.refl _ _)
    exact hK _ _ this
  · have hpos:0 < news.length:=List.length_pos_iff.2 h0
    obtain ⟨g,rfl,rfl⟩:=own_addr hm hdp (by omega)
    obtain ⟨cur,hh,hsz,hsp⟩:=hm.row
    obtain ⟨h1,h2⟩:=hsp at_ news hfit
    have hrun:=Lib.run_copy_row_string (P:=Tryz.prog) w 28 9 o.type 5 g at_ dLen dCap ⟨news.toArray⟩ cur 5 Tryz.underlying28 sizeU8 hh (show news.length ≤ dLen from hle) (show at_ + news.length ≤ cur.size by omega)
    have hrun:(Builtin.copy_ #[28,9] o.type #[.slice (some ⟨g,at_,none⟩) dLen dCap,.string ⟨news.toArray⟩]).run Tryz.prog w =
        .ok (goInt news.length) (w.setRow g (cur.toList.take at_ ++ cellsOf8 news ++ cur.toList.drop (at_ + news.length)).toArray):=hrun
    generalize (w.setRow g (cur.toList.take at_ ++ cellsOf8 news ++ cur.toList.drop (at_ + news.length)).toArray)=w2 at hrun h1 h2
    refine wpList_plain hgd fun K hK => ?_
    unfold Oper.wp
    simp [execOp,ho,resolve,invoke,builtin,hd,hs,hrun,Result.andThen]
    exact hK _ _ (h _ h1 h2)
theorem wpList_clear_u8 {ops:Array Oper}{rest:List Oper}{o:Oper}{a:Act}{w:World}{Q:Exit → Act → World → Prop}(hgd:o.guard=none)(d:Operand)
    (ho:o.op=.call { callee:=.builtin .clear,args := #[d],argTypes := #[28] })
    (base:Nat)(A:Option Addr)(cap:Nat)(l:List UInt8)(hm:Mine w base A cap l)(at_:Nat)(dp:Option Addr)(n dCap:Nat)(hd:a.eval d=.slice dp n dCap)(hdp:(if cap=at_ then A else A.map (·.add at_))=dp)
    (hfit:at_ + n ≤ l.length)
    (h:∀ w',Mine w' base A cap (spliced l at_ (List.replicate n 0)) → w.grownBy w' (Value.slice A l.length cap).ownBlock → wpList Tryz.prog ops Q rest (a.put o.dst (.tuple #[])) w') :
    wpList Tryz.prog ops Q (o :: rest) a w:=by
  by_cases h0:n=0
  · subst h0
    have hrun:(Builtin.clear_ #[28] o.type #[.slice dp 0 dCap]).run Tryz.prog w=.ok (.tuple #[]) w:=by
      cases dp <;> simp [Builtin.clear_,run_underlying Tryz.underlying28]
    refine wpList_plain hgd fun K hK => ?_
    unfold Oper.wp
    simp [execOp,ho,resolve,invoke,builtin,hd,hrun,Result.andThen]
    exact hK _ _ (h w (by rw [show List.replicate 0 (0:UInt8)=[] from rfl,spliced_nil]; exact hm) (World.grownBy.refl _ _))
  · obtain ⟨g,rfl,rfl⟩:=own_addr hm hdp (by omega)
    obtain ⟨h1,h2⟩:=Mine.cells (w:=w) (l:=l) (List.replicate n 0) at_ l w hm (by simp; exact hfit)
    have hz:∀ w,(zeroValue 5).run Tryz.prog w=.ok (.int .u8 0) w:=Tryz.zeroValue5
    have hrun:=Lib.run_clear_slice (P:=Tryz.prog) w 28 5 o.type (.int .u8 0) Tryz.underlying28 hz rfl rfl g at_ n dCap (by omega) (fun j hj => by rw [hm.cell (k:=at_ + j) (by omega)]; rfl) (fun j _ => hm.free _)
    have e:cellsOf8 (List.replicate n 0)=List.replicate n (Value.int .u8 0):=by unfold cellsOf8; rw [List.map_replicate]; rfl
    rw [← e] at hrun
    generalize w.setCells g at_ (cellsOf8 (List.replicate n 0))=w2 at hrun h1 h2
    refine wpList_plain hgd fun K hK => ?_
    unfold Oper.wp
    simp [execOp,ho,resolve,invoke,builtin,hd,hrun,Result.andThen]
    exact hK _ _ (h _ h1 h2)
end Go.Proofs.YthkijogloebdoaaGreatDoor
end
