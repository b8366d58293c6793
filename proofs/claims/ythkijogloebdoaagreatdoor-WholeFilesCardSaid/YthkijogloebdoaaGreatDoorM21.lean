/-
  WholeFiles, the texts Fgi Bg: lemmas for the proof that three files on one disk are plain rows of bytes. No conditions.
-/
import Derived.Test.YthkijogloebdoaaGreatDoorM18
import Derived.Test.YthkijogloebdoaaGreatDoorM20
import Derived.BigRegion
set_option linter.unusedVariables false
set_option linter.unusedSimpArgs false
section
namespace Go.Proofs.YthkijogloebdoaaGreatDoor
open Go.RowKit Go.Maps Go.Shelf Rec Gp Fs
def FWrote (c:Cx)(w:World)(O:Nat → Prop)(T:Tn)(n:Nat)(Q:Nat → Pl)(S:List Nat)(f:Nat)(P2:Pl)(e:Ending)(w':World):Prop :=
  FDone c w O T n Q S 40 f P2 0 e w' ∨ (e=.returned (.int .i64 90) ∧ (∃ O',TxnAt c w' O' T ∧ Fr w O w' O') ∧ n < takes3 (fun g => if g=f then P2 else Q g) + dat n)
set_option maxRecDepth 100000 in
theorem undo1_okIn (n:Nat)(w:World)(pb tb mb t ep m:Nat)(u:FrameMode)(h:UndoB w pb tb mb t ep m)(he:w.cell? ⟨ep,0,none⟩=some (.int .i64 0)) :
    CallsDIn Fence.wide n Tryz.prog 61 #[.pointer (some ⟨pb,0,none⟩),.pointer (some ⟨tb,0,none⟩),.pointer (some ⟨mb,0,none⟩)] u w fun e u' w' => u'=u ∧ (e=.returned (.tuple #[]) ∧ w=w'):=by
  have c0:w.cell? ⟨pb,0,none⟩=some (.pointer (some ⟨ep,0,none⟩)):=h.p.cell 0
  clear h
  refine callsDIn_of_wp (R:=fun e w' => e=.returned (.tuple #[]) ∧ w=w') Tryz.func61 rfl trivial ?_
  simp only [Tryz.ntmps61,List.size_toArray,List.length_cons,List.length_nil,Nat.reduceAdd,Nat.reduceSub,Array.replicate_succ,Array.replicate_zero,List.push_toArray,List.append_toArray,List.nil_append,List.cons_append]
  refine wpIn_wide.2 ?_
  go_wp2_with fail
  go_end0
  exact ⟨rfl,rfl⟩
set_option maxRecDepth 100000 in
theorem undo1_errIn (N:Nat)(c:Cx)(w:World)(O:Nat → Prop)(T:Tn)(ht:TxnAt c w O T)(hn:c.N ≤ 1000000)(pb tb mb ep m:Nat)(u:FrameMode)(h:UndoB w pb tb mb c.t ep m)(hm:m ≤ T.H.length)(hT:T.H.length ≤ 1000000)(e0:Int)(h0:e0 ≠ 0)(he:w.cell? ⟨ep,0,none⟩=some (.int .i64 e0)) :
    CallsDIn Fence.wide N Tryz.prog 61 #[.pointer (some ⟨pb,0,none⟩),.pointer (some ⟨tb,0,none⟩),.pointer (some ⟨mb,0,none⟩)] u w fun e u' w' => u'=u ∧ (e=.returned (.tuple #[]) ∧ TxnAt c w' O (T.back m) ∧ Fr w O w' O):=by
  have c0:w.cell? ⟨pb,0,none⟩=some (.pointer (some ⟨ep,0,none⟩)):=h.p.cell 0
  have c1:w.cell? ⟨tb,0,none⟩=some (.pointer (some ⟨c.t,0,none⟩)):=h.t.cell 0
  have c2:w.cell? ⟨mb,0,none⟩=some (.int .i64 (m:Int)):=h.m.cell 0
  have hne:(e0 != 0)=true:=by rw [bne_iff_ne]; exact h0
  have HB:=Lib.hid (tback_any c w O T ht m hm (by omega) hn)
  obtain ⟨t,htt⟩:∃ t,c.t=t:=⟨_,rfl⟩
  rw [htt] at HB c1
  clear h ht hn hm hT h0 htt
  refine callsDIn_of_wp (R:=fun e w' => e=.returned (.tuple #[]) ∧ TxnAt c w' O (T.back m) ∧ Fr w O w' O) Tryz.func61 rfl trivial ?_
  simp only [Tryz.ntmps61,List.size_toArray,List.length_cons,List.length_nil,Nat.reduceAdd,Nat.reduceSub,Array.replicate_succ,Array.replicate_zero,List.push_toArray,List.append_toArray,List.nil_append,List.cons_append]
  refine wpIn_wide.2 ?_
  go_wp2_with (
    go_at_call 62
    refine HB.out.mono ?_
    rintro e w1 ⟨rfl,hT,hF⟩
    have HT:=Lib.hid hT
    have HF:=Lib.hid hF
    clear hT hF)
  go_end0
  exact ⟨rfl,HT.out,HF.out⟩
set_option maxRecDepth 100000 in
theorem fwrite_neg (c:Cx)(w:World)(O:Nat → Prop)(T:Tn)(n:Nat)(he:Env c w O T n)(X:Nat → Ino)(L:Nat → Nat → Nat)(Q:Nat → Pl)(h:FsIn n (T.view c.D) X L Q)(f:Nat)(S:List Nat)(hS:T.Cov S)(m:Nat)(off:Int)(hz:off < 0)(bs:ByteArray) :
    Calls Tryz.prog 16 #[.pointer (some ⟨c.t,0,none⟩),geoV n,.int .i64 ((f + 2:Nat):Int),.int .i64 off,.string bs] w (FDone c w O T n Q S m f (Q f) 1):=by
  obtain ⟨hb0,i0,i1⟩:=two_new w #[.pointer (some ⟨c.t,0,none⟩)] #[.int .i64 (n:Int),.int .i64 98,.int .i64 (ino n:Int),.int .i64 (dat n:Int),.int .i64 (cnt n:Int)] 36 31
  obtain ⟨W1,hW1⟩:∃ W1,(w.alloc (.cells #[.pointer (some ⟨c.t,0,none⟩)] 36)).alloc (.cells #[.int .i64 (n:Int),.int .i64 98,.int .i64 (ino n:Int),.int .i64 (dat n:Int),.int .i64 (cnt n:Int)] 31)=W1:=⟨_,rfl⟩
  have hz1:W1.heap.size=w.heap.size + 2:=by rw [← hW1]; simp [World.size_alloc]
  rw [hW1] at hb0
  obtain ⟨hb1,i2,i3⟩:=two_new W1 #[.string bs] #[.int .i64 0] 9 25
  obtain ⟨W,hW⟩:∃ W,(W1.alloc (.cells #[.string bs] 9)).alloc (.cells #[.int .i64 0] 25)=W:=⟨_,rfl⟩
  rw [hW] at hb1 i2 i3
  rw [hz1] at i3
  have hWW:((((w.alloc (.cells #[.pointer (some ⟨c.t,0,none⟩)] 36)).alloc (.cells #[.int .i64 (n:Int),.int .i64 98,.int .i64 (ino n:Int),.int .i64 (dat n:Int),.int .i64 (cnt n:Int)] 31)).alloc (.cells #[.string bs] 9)).alloc (.cells #[.int .i64 0] 25))=W:=by rw [hW1]; exact hW
  have hbb:=hb0.trans (hb1.mono hb0.size)
  have c1:W.cell? ⟨w.heap.size + 1 + 1 + 1,0,none⟩=some (.int .i64 0):=i3.cell 0
  have f1:W.frozen? ⟨w.heap.size + 1 + 1 + 1,0,none⟩=false:=i3.free 0
  have HI1:=Lib.hid (show Is W (w.heap.size + 1 + 1 + 1) 25 #[.int .i64 0] from i3)
  have HF:=Lib.hid (fun w' hb => FDone.none (m:=m) (code:=1) (w':=w') (f:=f) (P2:=Q f) he h hS hb rfl)
  have HB:=Lib.hid hbb
  clear he h hS hb0 hb1 i0 i1 i2 i3 hbb hz1 hW1 hW
  go_enter_defers Tryz.func16,Tryz.ntmps16
  go_wp2_with fail
  have hc:=(HI1.out.put 0 (.int .i64 1)).cell 0
  have hbb:=HB.out.setCell (p:=⟨w.heap.size + 1 + 1 + 1,0,none⟩) (by show w.heap.size ≤ w.heap.size + 1 + 1 + 1; omega) (.int .i64 1)
  generalize W.setCell ⟨w.heap.size + 1 + 1 + 1,0,none⟩ (.int .i64 1)=W2 at hc hbb ⊢
  have hc2:W2.cell? ⟨w.heap.size + 1 + 1 + 1,0,none⟩=some (.int .i64 1):=hc
  exact ⟨.int .i64 1,by simp [results,Tryz.f16,go_sem,hc2],HF.out _ hbb⟩
end Go.Proofs.YthkijogloebdoaaGreatDoor
end
section
namespace Go.Proofs.YthkijogloebdoaaGreatDoor
open Go.RowKit Go.Maps Rec Gp Fs
def Added (c:Cx)(w:World)(O:Nat → Prop)(T:Tn)(n:Nat)(X:Nat → Ino)(L:Nat → Nat → Nat)(f k:Nat)(S:List Nat)(e:Ending)(w':World):Prop :=
  (e=.returned (.tuple #[.agg zeroC,.int .i64 0,.int .i64 90]) ∧ (∃ O',TxnAt c w' O' T ∧ Fr w O w' O') ∧ ∃ (V':Nat → List UInt8) (X':Nat → Ino) (L':Nat → Nat → Nat),Grew n (T.view c.D) X L V' X' L' f k ∧ total L' + dat n=n ∧ ∃ p,p ∈ path k ∧ L' f p=0) ∨
  (∃ (O':Nat → Prop) (T':Tn) (X':Nat → Ino) (L':Nat → Nat → Nat) (S':List Nat),e=.returned (.tuple #[.agg (X' f).C,.int .i64 (L' f k:Int),.int .i64 0]) ∧ TxnAt c w' O' T' ∧ Fr w O w' O' ∧ Tn.Ext T T' ∧ T'.H.length ≤ T.H.length + 9 ∧
      Tree0 n (T'.view c.D) X' L' ∧ Grew n (T.view c.D) X L (T'.view c.D) X' L' f k ∧ (∀ p,p ∈ path k → L' f p ≠ 0) ∧ T'.Cov S' ∧ (∀ i,i ∈ S → i ∈ S') ∧ L' f k ∈ S' ∧ S'.length ≤ S.length + absent (L f) (path k))
set_option maxRecDepth 100000 in
set_option maxHeartbeats 3200000 in
theorem add_any (c:Cx)(w:World)(O:Nat → Prop)(T:Tn)(n:Nat)(he:Env c w O T n)(X:Nat → Ino)(L:Nat → Nat → Nat)(h:Tree0 n (T.view c.D) X L)(f k:Nat)(hf:f < 3)(hk:k < 16522)
    (S:List Nat)(hS:T.Cov S)(hbm:∀ k,98 ≤ k → k < ino n → k ∈ S)(hpS:∀ p,p ∈ path k → L f p ≠ 0 → L f p ∈ S)(h96:S.length + absent (L f) (path k) ≤ 96)(hT:T.H.length + 12 ≤ 1000000) :
    Calls Tryz.prog 36 #[.pointer (some ⟨c.t,0,none⟩),geoV n,.agg (X f).C,.int .i64 (k:Int)] w (Added c w O T n X L f k S):=by
  obtain ⟨x,hx⟩:∃ x,X f=x:=⟨_,rfl⟩
  rw [hx]
  unfold Ino.C
  obtain ⟨hb0,i0,i1⟩:=two_new w #[.pointer (some ⟨c.t,0,none⟩)] #[.int .i64 (n:Int),.int .i64 98,.int .i64 (ino n:Int),.int .i64 (dat n:Int),.int .i64 (cnt n:Int)] 36 31
  obtain ⟨W1,hW1⟩:∃ W1,(w.alloc (.cells #[.pointer (some ⟨c.t,0,none⟩)] 36)).alloc (.cells #[.int .i64 (n:Int),.int .i64 98,.int .i64 (ino n:Int),.int .i64 (dat n:Int),.int .i64 (cnt n:Int)] 31)=W1:=⟨_,rfl⟩
  have hz1:W1.heap.size=w.heap.size + 2:=by rw [← hW1]; simp [World.size_alloc]
  rw [hW1] at hb0 i0 i1
  obtain ⟨hb1,i2,i3⟩:=two_new W1 x.C zeroC 44 44
  obtain ⟨W2,hW2⟩:∃ W2,(W1.alloc (.cells x.C 44)).alloc (.cells zeroC 44)=W2:=⟨_,rfl⟩
  have hz2:W2.heap.size=w.heap.size + 4:=by rw [← hW2]; simp [World.size_alloc,hz1]
  rw [hW2] at hb1 i2 i3
  obtain ⟨hb2,i4,i5⟩:=two_new W2 #[.int .i64 0] #[.int .i64 0] 3 25
  obtain ⟨W,hW⟩:∃ W,(W2.alloc (.cells #[.int .i64 0] 3)).alloc (.cells #[.int .i64 0] 25)=W:=⟨_,rfl⟩
  have hz3:W.heap.size=w.heap.size + 6:=by rw [← hW]; simp [World.size_alloc,hz2]
  rw [hW] at hb2 i4 i5
  rw [hz1] at i2 i3
  rw [hz2] at i4 i5
  have hbb:=hb0.trans ((hb1.mono hb0.size).trans (hb2.mono (by omega)))
  have hX:AddB w W c.t n x.C zeroC 0 0:=⟨(i0.below hb1 i0.lt).below hb2 (by omega),(i1.below hb1 i1.lt).below hb2 (by omega),i2.below hb2 (by omega),i3.below hb2 (by omega),i4,i5⟩
  have hWW:(((((w.alloc (.cells #[.pointer (some ⟨c.t,0,none⟩)] 36)).alloc (.cells #[.int .i64 (n:Int),.int .i64 98,.int .i64 (ino n:Int),.int .i64 (dat n:Int),.int .i64 (cnt n:Int)] 31)).alloc (.cells x.C 44)).alloc (.cells zeroC 44)).alloc (.cells #[.int .i64 0] 3)).alloc (.cells #[.int .i64 0] 25)=W:=by rw [hW1,hW2,hW]
  unfold Ino.C zeroC at hWW
  have HX:=Lib.hid hX
  have HBB:=Lib.hid hbb
  have HE0:=Lib.hid (he.later hbb)
  have HG:=Lib.hid (guard_any c W O T HE0.out.tx)
  have ct:W.cell? ⟨w.heap.size,0,none⟩=some (.pointer (some ⟨c.t,0,none⟩)):=hX.bt.cell 0
  have HHE:=Lib.hid he
  have HH:=Lib.hid h
  have HS:=Lib.hid hS
  have HBM:=Lib.hid hbm
  have HPS:=Lib.hid hpS
  have hk1:(0:Int) ≤ (k:Int):=by omega
  have hk2:(k:Int) < 16522:=by omega
  obtain ⟨t,ht⟩:∃ t,c.t=t:=⟨_,rfl⟩
  rw [ht] at HX HG ct hWW ⊢
  have HTT:=Lib.hid ht
  clear hW1 hW2 hW hb0 hb1 hb2 i0 i1 i2 i3 i4 i5 hX hbb hz1 hz2 he h hS hbm hpS ht
  go_enter_defers Tryz.func36,Tryz.ntmps36
  go_wp2_with fail
  go_at_call 64
  refine HG.out.mono ?_
  rintro e w1 ⟨⟨ob,tb,mb,rfl,hgb,g1,g2,g3⟩,hb1⟩
  have hX1:=HX.out.keeps (Keeps.of_below hb1 (S:=fun _ => False)) (fun i h => h.elim)
  have hs1:=hb1.size
  have hs6:=hX1.be.lt
  have hb2:=below_new w1 (.cells #[guardV ob tb mb] 138)
  have iB:=Is.new w1 138 #[guardV ob tb mb]
  have hX2:=hX1.keeps (Keeps.of_below hb2 (S:=fun _ => False)) (fun i h => h.elim)
  have hG2:=hgb.same (fun k hk => hb2.block k (by rcases hk with rfl | rfl | rfl; exact hgb.o.lt; exact hgb.t.lt; exact hgb.m.lt))
  obtain ⟨W2,hW2⟩:∃ W2,w1.alloc (.cells #[guardV ob tb mb] 138)=W2:=⟨_,rfl⟩
  have hz2:W2.heap.size=w1.heap.size + 1:=by rw [← hW2,World.size_alloc]
  rw [hW2] at hb2 iB hX2 hG2
  obtain ⟨x0,x1,x2,x3,x4,x5⟩:=hX2
  have HE2:=Lib.hid ((HE0.out.later hb1).later hb2)
  have HFB2:=Lib.hid (HBB.out.trans ((hb1.trans (hb2.mono hs1)).mono HBB.out.size))
  generalize he5:w.heap.size + 1 + 1 + 1 + 1 + 1=eb
  generalize he4:w.heap.size + 1 + 1 + 1 + 1=nb
  generalize he3:w.heap.size + 1 + 1 + 1=yb
  generalize he2:w.heap.size + 1 + 1=xb
  generalize he1:w.heap.size + 1=gb
  generalize he0:w.heap.size=wb
  rw [show w.heap.size + 5=eb by omega] at x5
  rw [show w.heap.size + 4=nb by omega] at x4
  rw [show w.heap.size + 3=yb by omega] at x3
  rw [show w.heap.size + 2=xb by omega] at x2
  rw [he1] at x1
  rw [he0] at x0
  have d0:W2.cell? ⟨wb,0,none⟩=some (.pointer (some ⟨t,0,none⟩)):=x0.cell 0
  have d10:W2.cell? ⟨gb,0,none⟩=some (.int .i64 (n:Int)):=x1.cell 0
  have d11:W2.cell? ⟨gb,1,none⟩=some (.int .i64 98):=x1.cell 1
  have d12:W2.cell? ⟨gb,2,none⟩=some (.int .i64 (ino n:Int)):=x1.cell 2
  have d13:W2.cell? ⟨gb,3,none⟩=some (.int .i64 (dat n:Int)):=x1.cell 3
  have d14:W2.cell? ⟨gb,4,none⟩=some (.int .i64 (cnt n:Int)):=x1.cell 4
  have d20:W2.cell? ⟨xb,0,none⟩=some (.int .i64 (x.kind:Int)):=x2.cell 0
  have d21:W2.cell? ⟨xb,1,none⟩=some (.int .i64 (x.links:Int)):=x2.cell 1
  have d22:W2.cell? ⟨xb,2,none⟩=some (.int .i64 (x.size:Int)):=x2.cell 2
  have d23:W2.cell? ⟨xb,3,none⟩=some (.int .i64 (x.num 0:Int)):=x2.cell 3
  have d24:W2.cell? ⟨xb,4,none⟩=some (.int .i64 (x.num 1:Int)):=x2.cell 4
  have d25:W2.cell? ⟨xb,5,none⟩=some (.int .i64 (x.num 2:Int)):=x2.cell 5
  have d26:W2.cell? ⟨xb,6,none⟩=some (.int .i64 (x.num 3:Int)):=x2.cell 6
  have d27:W2.cell? ⟨xb,7,none⟩=some (.int .i64 (x.num 4:Int)):=x2.cell 7
  have d28:W2.cell? ⟨xb,8,none⟩=some (.int .i64 (x.num 5:Int)):=x2.cell 8
  have d29:W2.cell? ⟨xb,9,none⟩=some (.int .i64 (x.num 6:Int)):=x2.cell 9
  have d210:W2.cell? ⟨xb,10,none⟩=some (.int .i64 (x.num 7:Int)):=x2.cell 10
  have d211:W2.cell? ⟨xb,11,none⟩=some (.int .i64 (x.num 8:Int)):=x2.cell 11
  have d212:W2.cell? ⟨xb,12,none⟩=some (.int .i64 (x.num 9:Int)):=x2.cell 12
  have d213:W2.cell? ⟨xb,13,none⟩=some (.int .i64 (x.num 10:Int)):=x2.cell 13
  have d214:W2.cell? ⟨xb,14,none⟩=some (.int .i64 (x.num 11:Int)):=x2.cell 14
  have X0:=Lib.hid x0
  have X1:=Lib.hid x1
  have X3:=Lib.hid x3
  have X4:=Lib.hid x4
  have X5:=Lib.hid x5
  have IB:=Lib.hid iB
  have HG2:=Lib.hid hG2
  clear x0 x1 x2 x3 x4 x5 iB hG2 hX1 hgb hb1 hb2 ct
  obtain ⟨hb4,iF,iP⟩:=two_new W2 (fileC t n x) #[.pointer (some ⟨w1.heap.size + 1,0,none⟩)] 142 140
  rw [hz2] at iF iP
  have HB4:=Lib.hid hb4
  have HIF:=Lib.hid iF
  have HIP:=Lib.hid iP
  clear hb4 iF iP
  go_wp2_with fail
  go_at_call 66
  refine (show Calls _ _ _ ((W2.alloc (.cells (fileC t n x) 142)).alloc (.cells #[.pointer (some ⟨w1.heap.size + 1,0,none⟩)] 140)) _ from ?_)
  obtain ⟨F,hF⟩:∃ F,w1.heap.size + 1=F:=⟨_,rfl⟩
  have hF2:w1.heap.size + 1 + 1=F + 1:=by rw [hF]
  rw [hF2]
  rw [hF] at HB4 HIF HIP ⊢
  obtain ⟨W4,hW4⟩:∃ W4,(W2.alloc (.cells (fileC t n x) 142)).alloc (.cells #[.pointer (some ⟨F,0,none⟩)] 140)=W4:=⟨_,rfl⟩
  rw [hW4] at HB4 HIF HIP ⊢
  obtain ⟨G,hG⟩:∃ G,F + 1=G:=⟨_,rfl⟩
  rw [hG] at HIP ⊢
  have hE4:=HE2.out.later HB4.out
  have hF4:FileAt W4 F c.t n (X f):=by rw [hx,HTT.out]; exact HIF.out
  have hB4:HoleB W4 wb gb G c.t n F:=⟨by rw [HTT.out]; exact X0.out.below HB4.out X0.out.lt,X1.out.below HB4.out X1.out.lt,HIP.out⟩
  have hwl:=HHE.out.wd.lt
  have hyl:=X3.out.lt
  have hnl:=X4.out.lt
  have hel:=X5.out.lt
  have hbl:=IB.out.lt
  have hs4:=HB4.out.size
  have hs0:=HFB2.out.size
  refine (walkA_any c W4 O T n hE4 X L HH.out f F k wb gb G hf hk hF4 hB4 (HHE.out.tx.out (by omega)) (HHE.out.tx.out (by omega)) (HHE.out.tx.out (by omega)) (HHE.out.tx.out (by omega)) (by refine ⟨?_,?_,?_,?_⟩ <;> omega) S HS.out HBM.out HPS.out h96 hT).mono ?_
  clear hE4 hF4 hB4 hW4
  rintro e w5 (⟨O5,T5,X5',L5,rfl,hT5,hF5,hx5,hl5,hFl5,hgr5,htot5,hp5⟩ | ⟨O5,T5,X5',L5,S5,rfl,hT5,hF5,hx5,hl5,hFl5,htr5,hgr5,hall5,hcv5,hsub5,hin5,hlen5⟩)
  · have HR5:=Lib.hid (And.intro hgr5 (And.intro htot5 hp5))
    clear hgr5 htot5 hp5
    have hGl:G < W4.heap.size:=HIP.out.lt
    have HST5:=Lib.hid (fun g (hg:g < W4.heap.size) (ho:¬ O g) (hn:¬ (g=F ∨ W4.heap.size ≤ g)) => hF5.block hg ho hn)
    have HFF:=Lib.hid hF5
    have HT5:=Lib.hid hT5
    have HFL5:=Lib.hid hFl5
    have Y0:=Lib.hid (show Is w5 G 140 _ from (hF5.block hGl (HHE.out.tx.out (by omega)) (by omega)).trans HIP.out)
    have Y3:=Lib.hid (show Is w5 yb 44 _ from (hF5.block (by omega) (HHE.out.tx.out (by omega)) (by omega)).trans (X3.out.below HB4.out X3.out.lt))
    have Y4:=Lib.hid (show Is w5 nb 3 _ from (hF5.block (by omega) (HHE.out.tx.out (by omega)) (by omega)).trans (X4.out.below HB4.out X4.out.lt))
    have Y5:=Lib.hid (show Is w5 eb 25 _ from (hF5.block (by omega) (HHE.out.tx.out (by omega)) (by omega)).trans (X5.out.below HB4.out X5.out.lt))
    have YB:=Lib.hid (show Is w5 w1.heap.size 138 _ from (hF5.block (by omega) (HHE.out.tx.out (by omega)) (by omega)).trans (IB.out.below HB4.out IB.out.lt))
    have YG:=Lib.hid (show GuardB w5 ob tb mb t T.H.length by
      refine HG2.out.same (fun k hk => ?_)
      have hkl:k < W2.heap.size:=by rcases hk with rfl | rfl | rfl; exact HG2.out.o.lt; exact HG2.out.t.lt; exact HG2.out.m.lt
      have hkw:w.heap.size ≤ k:=by rcases hk with rfl | rfl | rfl <;> omega
      have hkF:k ≠ F:=by rcases hk with rfl | rfl | rfl <;> omega
      exact (hF5.block (Nat.lt_of_lt_of_le hkl HB4.out.size) (HHE.out.tx.out hkw) (fun e => by rcases e with e | e; exact hkF e; omega)).trans (HB4.out.block k hkl))
    have f4:w5.cell? ⟨nb,0,none⟩=some (.int .i64 0):=Y4.out.cell 0
    have ff4:=Y4.out.free 0
    have f5:w5.cell? ⟨eb,0,none⟩=some (.int .i64 0):=Y5.out.cell 0
    have ff5:=Y5.out.free 0
    have m1:=keeps_set w5 nb 0 (.int .i64 0)
    have m2:=keeps_set (w5.setCell ⟨nb,0,none⟩ (.int .i64 0)) eb 0 (.int .i64 90)
    have Z4:=Lib.hid ((Y4.out.put 0 (.int .i64 0)).other ⟨eb,0,none⟩ (by show nb ≠ eb; omega) (.int .i64 90))
    have Z5:=Lib.hid ((Y5.out.other ⟨nb,0,none⟩ (by show eb ≠ nb; omega) (.int .i64 0)).put 0 (.int .i64 90))
    have m3:Keeps (fun i => i=nb ∨ i=eb) w5 _:=(m1.mono (fun i e => .inl e)).trans (m2.mono (fun i e => .inr e))
    obtain ⟨W6,hW6⟩:∃ W6,(w5.setCell ⟨nb,0,none⟩ (.int .i64 0)).setCell ⟨eb,0,none⟩ (.int .i64 90)=W6:=⟨_,rfl⟩
    rw [hW6] at Z4 Z5 m3
    have Z3:=Lib.hid (Y3.out.keeps m3 (by omega))
    have ZF:=Lib.hid (Is.keeps (show Is w5 F _ _ from HFL5.out) m3 (by omega))
    have g0:W6.cell? ⟨G,0,none⟩=some (.pointer (some ⟨F,0,none⟩)):=(Y0.out.keeps m3 (by omega)).cell 0
    have gx0:W6.cell? ⟨F,6,none⟩=some (.int .i64 ((X5' f).kind:Int)):=ZF.out.cell 6
    have gx1:W6.cell? ⟨F,7,none⟩=some (.int .i64 ((X5' f).links:Int)):=ZF.out.cell 7
    have gx2:W6.cell? ⟨F,8,none⟩=some (.int .i64 ((X5' f).size:Int)):=ZF.out.cell 8
    have gx3:W6.cell? ⟨F,9,none⟩=some (.int .i64 ((X5' f).num 0:Int)):=ZF.out.cell 9
    have gx4:W6.cell? ⟨F,10,none⟩=some (.int .i64 ((X5' f).num 1:Int)):=ZF.out.cell 10
    have gx5:W6.cell? ⟨F,11,none⟩=some (.int .i64 ((X5' f).num 2:Int)):=ZF.out.cell 11
    have gx6:W6.cell? ⟨F,12,none⟩=some (.int .i64 ((X5' f).num 3:Int)):=ZF.out.cell 12
    have gx7:W6.cell? ⟨F,13,none⟩=some (.int .i64 ((X5' f).num 4:Int)):=ZF.out.cell 13
    have gx8:W6.cell? ⟨F,14,none⟩=some (.int .i64 ((X5' f).num 5:Int)):=ZF.out.cell 14
    have gx9:W6.cell? ⟨F,15,none⟩=some (.int .i64 ((X5' f).num 6:Int)):=ZF.out.cell 15
    have gx10:W6.cell? ⟨F,16,none⟩=some (.int .i64 ((X5' f).num 7:Int)):=ZF.out.cell 16
    have gx11:W6.cell? ⟨F,17,none⟩=some (.int .i64 ((X5' f).num 8:Int)):=ZF.out.cell 17
    have gx12:W6.cell? ⟨F,18,none⟩=some (.int .i64 ((X5' f).num 9:Int)):=ZF.out.cell 18
    have gx13:W6.cell? ⟨F,19,none⟩=some (.int .i64 ((X5' f).num 10:Int)):=ZF.out.cell 19
    have gx14:W6.cell? ⟨F,20,none⟩=some (.int .i64 ((X5' f).num 11:Int)):=ZF.out.cell 20
    have g4:W6.cell? ⟨nb,0,none⟩=some (.int .i64 0):=Z4.out.cell 0
    have g5:W6.cell? ⟨eb,0,none⟩=some (.int .i64 90):=Z5.out.cell 0
    clear m1 m2 hF5 hT5 hFl5
    go_wp2_with fail
    have gz0:W6.cell? ⟨yb,0,none⟩=some (.int .i64 0):=Z3.out.cell 0
    have gz1:W6.cell? ⟨yb,1,none⟩=some (.int .i64 0):=Z3.out.cell 1
    have gz2:W6.cell? ⟨yb,2,none⟩=some (.int .i64 0):=Z3.out.cell 2
    have gz3:W6.cell? ⟨yb,3,none⟩=some (.int .i64 0):=Z3.out.cell 3
    have gz4:W6.cell? ⟨yb,4,none⟩=some (.int .i64 0):=Z3.out.cell 4
    have gz5:W6.cell? ⟨yb,5,none⟩=some (.int .i64 0):=Z3.out.cell 5
    have gz6:W6.cell? ⟨yb,6,none⟩=some (.int .i64 0):=Z3.out.cell 6
    have gz7:W6.cell? ⟨yb,7,none⟩=some (.int .i64 0):=Z3.out.cell 7
    have gz8:W6.cell? ⟨yb,8,none⟩=some (.int .i64 0):=Z3.out.cell 8
    have gz9:W6.cell? ⟨yb,9,none⟩=some (.int .i64 0):=Z3.out.cell 9
    have gz10:W6.cell? ⟨yb,10,none⟩=some (.int .i64 0):=Z3.out.cell 10
    have gz11:W6.cell? ⟨yb,11,none⟩=some (.int .i64 0):=Z3.out.cell 11
    have gz12:W6.cell? ⟨yb,12,none⟩=some (.int .i64 0):=Z3.out.cell 12
    have gz13:W6.cell? ⟨yb,13,none⟩=some (.int .i64 0):=Z3.out.cell 13
    have gz14:W6.cell? ⟨yb,14,none⟩=some (.int .i64 0):=Z3.out.cell 14
    have gf0:=Z3.out.free 0
    have gf1:=Z3.out.free 1
    have gf2:=Z3.out.free 2
    have gf3:=Z3.out.free 3
    have gf4:=Z3.out.free 4
    have gf5:=Z3.out.free 5
    have gf6:=Z3.out.free 6
    have gf7:=Z3.out.free 7
    have gf8:=Z3.out.free 8
    have gf9:=Z3.out.free 9
    have gf10:=Z3.out.free 10
    have gf11:=Z3.out.free 11
    have gf12:=Z3.out.free 12
    have gf13:=Z3.out.free 13
    have gf14:=Z3.out.free 14
    have gn4:=Z4.out.free 0
    have gn5:=Z5.out.free 0
    have ne1:nb ≠ yb:=by omega
    have ne2:eb ≠ yb:=by omega
    have ne3:eb ≠ nb:=by omega
    have ne4:yb ≠ nb:=by omega
    have ne5:yb ≠ eb:=by omega
    have ne6:nb ≠ eb:=by omega
    go_region
    go_wp2_with fail
    obtain ⟨W9,hW9,v3,v4,v5,mk⟩:=add_fin W6 yb nb eb (X5' f) 0 90 0 90 Z3.out Z4.out Z5.out (by omega) (by omega) (by omega)
    rw [hW9]
    clear hW9
    have V3:=Lib.hid v3
    have V4:=Lib.hid v4
    have V5:=Lib.hid v5
    have mk2:Keeps (fun i => i=yb ∨ i=nb ∨ i=eb) w5 W9:=(m3.mono (fun i h => .inr h)).trans mk
    clear v3 v4 v5 mk
    have hno:∀ g,w.heap.size ≤ g → g < W4.heap.size → ¬ O5 g:=fun g h1 h2 => HFF.out.out h2 (HHE.out.tx.out h1)
    have VB:W9.cell? ⟨w1.heap.size,0,none⟩=some (guardV ob tb mb):=(YB.out.keeps mk2 (by omega)).cell 0
    have VG:=YG.out.same (fun k hk => mk2.block k (by rcases hk with rfl | rfl | rfl; exact YG.out.o.lt; exact YG.out.t.lt; exact YG.out.m.lt) (by rcases hk with rfl | rfl | rfl <;> omega))
    have hT9:=HT5.out.keeps mk2 (fun i hi => by rcases hi with rfl | rfl | rfl; exact hno _ (by omega) (by omega); exact hno _ (by omega) (by omega); exact hno _ (by omega) (by omega))
    have hF9:FrX (fun k => w.heap.size ≤ k) w O W9 O5:=(((FrX.of_below HFB2.out).trans (FrX.of_below HB4.out)).trans (HFF.out.mono (fun i h => by rcases h with h | h <;> omega))).trans (FrX.of_keeps (mk2.mono (fun i h => by rcases h with h | h | h <;> omega)))
    refine leaves_cons (f:=65) (args := #[.pointer (some ⟨w1.heap.size,0,none⟩),.pointer (some ⟨eb,0,none⟩),.pointer (some ⟨yb,0,none⟩),.pointer (some ⟨nb,0,none⟩)]) (by simp) (by simp [go_sem]) ?_
    refine (add1_err c W9 O5 T5 hT9 (by rw [HHE.out.hN]; have:=(geo_facts HHE.out.hn).2.1; omega) ob tb mb T.H.length w1.heap.size eb yb nb .returning (by rw [HTT.out]; exact VG) hx5.le (by omega) 90 0 (by decide) (X5' f).C rfl VB V5.out V3.out V4.out (hno _ (by omega) (by omega)) (hno _ (by omega) (by omega)) (hno _ (by omega) (by omega)) (by omega) (by omega) (by omega)).mono ?_
    rintro e u' w' ⟨rfl,rfl,hT',hF',r3,r4,r5⟩
    rw [hx5.back] at hT'
    refine ⟨.tuple #[.agg zeroC,.int .i64 0,.int .i64 90],results_add rfl _ _ yb nb eb zeroC 0 90 rfl rfl rfl r3 rfl r4 r5,.inl ⟨rfl,⟨O5,hT',FrX.fr (Fr.refl w O) (hF9.trans (hF'.mono (fun i h => by rcases h with h | h <;> omega))) (fun i h => h)⟩,_,X5',L5,HR5.out.1,HR5.out.2.1,HR5.out.2.2⟩⟩
  · have HR5:=Lib.hid (And.intro htr5 (And.intro hgr5 (And.intro hall5 (And.intro hcv5 (And.intro hsub5 (And.intro hin5 hlen5))))))
    clear htr5 hgr5 hall5 hcv5 hsub5 hin5 hlen5
    have hGl:G < W4.heap.size:=HIP.out.lt
    have HST5:=Lib.hid (fun g (hg:g < W4.heap.size) (ho:¬ O g) (hn:¬ (g=F ∨ W4.heap.size ≤ g)) => hF5.block hg ho hn)
    have HFF:=Lib.hid hF5
    have HT5:=Lib.hid hT5
    have HFL5:=Lib.hid hFl5
    have Y0:=Lib.hid (show Is w5 G 140 _ from (hF5.block hGl (HHE.out.tx.out (by omega)) (by omega)).trans HIP.out)
    have Y3:=Lib.hid (show Is w5 yb 44 _ from (hF5.block (by omega) (HHE.out.tx.out (by omega)) (by omega)).trans (X3.out.below HB4.out X3.out.lt))
    have Y4:=Lib.hid (show Is w5 nb 3 _ from (hF5.block (by omega) (HHE.out.tx.out (by omega)) (by omega)).trans (X4.out.below HB4.out X4.out.lt))
    have Y5:=Lib.hid (show Is w5 eb 25 _ from (hF5.block (by omega) (HHE.out.tx.out (by omega)) (by omega)).trans (X5.out.below HB4.out X5.out.lt))
    have YB:=Lib.hid (show Is w5 w1.heap.size 138 _ from (hF5.block (by omega) (HHE.out.tx.out (by omega)) (by omega)).trans (IB.out.below HB4.out IB.out.lt))
    have YG:=Lib.hid (show GuardB w5 ob tb mb t T.H.length by
      refine HG2.out.same (fun k hk => ?_)
      have hkl:k < W2.heap.size:=by rcases hk with rfl | rfl | rfl; exact HG2.out.o.lt; exact HG2.out.t.lt; exact HG2.out.m.lt
      have hkw:w.heap.size ≤ k:=by rcases hk with rfl | rfl | rfl <;> omega
      have hkF:k ≠ F:=by rcases hk with rfl | rfl | rfl <;> omega
      exact (hF5.block (Nat.lt_of_lt_of_le hkl HB4.out.size) (HHE.out.tx.out hkw) (fun e => by rcases e with e | e; exact hkF e; omega)).trans (HB4.out.block k hkl))
    have f4:w5.cell? ⟨nb,0,none⟩=some (.int .i64 0):=Y4.out.cell 0
    have ff4:=Y4.out.free 0
    have f5:w5.cell? ⟨eb,0,none⟩=some (.int .i64 0):=Y5.out.cell 0
    have ff5:=Y5.out.free 0
    have m1:=keeps_set w5 nb 0 (.int .i64 (L5 f k:Int))
    have m2:=keeps_set (w5.setCell ⟨nb,0,none⟩ (.int .i64 (L5 f k:Int))) eb 0 (.int .i64 0)
    have Z4:=Lib.hid ((Y4.out.put 0 (.int .i64 (L5 f k:Int))).other ⟨eb,0,none⟩ (by show nb ≠ eb; omega) (.int .i64 0))
    have Z5:=Lib.hid ((Y5.out.other ⟨nb,0,none⟩ (by show eb ≠ nb; omega) (.int .i64 (L5 f k:Int))).put 0 (.int .i64 0))
    have m3:Keeps (fun i => i=nb ∨ i=eb) w5 _:=(m1.mono (fun i e => .inl e)).trans (m2.mono (fun i e => .inr e))
    obtain ⟨W6,hW6⟩:∃ W6,(w5.setCell ⟨nb,0,none⟩ (.int .i64 (L5 f k:Int))).setCell ⟨eb,0,none⟩ (.int .i64 0)=W6:=⟨_,rfl⟩
    rw [hW6] at Z4 Z5 m3
    have Z3:=Lib.hid (Y3.out.keeps m3 (by omega))
    have ZF:=Lib.hid (Is.keeps (show Is w5 F _ _ from HFL5.out) m3 (by omega))
    have g0:W6.cell? ⟨G,0,none⟩=some (.pointer (some ⟨F,0,none⟩)):=(Y0.out.keeps m3 (by omega)).cell 0
    have gx0:W6.cell? ⟨F,6,none⟩=some (.int .i64 ((X5' f).kind:Int)):=ZF.out.cell 6
    have gx1:W6.cell? ⟨F,7,none⟩=some (.int .i64 ((X5' f).links:Int)):=ZF.out.cell 7
    have gx2:W6.cell? ⟨F,8,none⟩=some (.int .i64 ((X5' f).size:Int)):=ZF.out.cell 8
    have gx3:W6.cell? ⟨F,9,none⟩=some (.int .i64 ((X5' f).num 0:Int)):=ZF.out.cell 9
    have gx4:W6.cell? ⟨F,10,none⟩=some (.int .i64 ((X5' f).num 1:Int)):=ZF.out.cell 10
    have gx5:W6.cell? ⟨F,11,none⟩=some (.int .i64 ((X5' f).num 2:Int)):=ZF.out.cell 11
    have gx6:W6.cell? ⟨F,12,none⟩=some (.int .i64 ((X5' f).num 3:Int)):=ZF.out.cell 12
    have gx7:W6.cell? ⟨F,13,none⟩=some (.int .i64 ((X5' f).num 4:Int)):=ZF.out.cell 13
    have gx8:W6.cell? ⟨F,14,none⟩=some (.int .i64 ((X5' f).num 5:Int)):=ZF.out.cell 14
    have gx9:W6.cell? ⟨F,15,none⟩=some (.int .i64 ((X5' f).num 6:Int)):=ZF.out.cell 15
    have gx10:W6.cell? ⟨F,16,none⟩=some (.int .i64 ((X5' f).num 7:Int)):=ZF.out.cell 16
    have gx11:W6.cell? ⟨F,17,none⟩=some (.int .i64 ((X5' f).num 8:Int)):=ZF.out.cell 17
    have gx12:W6.cell? ⟨F,18,none⟩=some (.int .i64 ((X5' f).num 9:Int)):=ZF.out.cell 18
    have gx13:W6.cell? ⟨F,19,none⟩=some (.int .i64 ((X5' f).num 10:Int)):=ZF.out.cell 19
    have gx14:W6.cell? ⟨F,20,none⟩=some (.int .i64 ((X5' f).num 11:Int)):=ZF.out.cell 20
    have g4:W6.cell? ⟨nb,0,none⟩=some (.int .i64 (L5 f k:Int)):=Z4.out.cell 0
    have g5:W6.cell? ⟨eb,0,none⟩=some (.int .i64 0):=Z5.out.cell 0
    clear m1 m2 hF5 hT5 hFl5
    go_wp2_with fail
    have gz0:W6.cell? ⟨yb,0,none⟩=some (.int .i64 0):=Z3.out.cell 0
    have gz1:W6.cell? ⟨yb,1,none⟩=some (.int .i64 0):=Z3.out.cell 1
    have gz2:W6.cell? ⟨yb,2,none⟩=some (.int .i64 0):=Z3.out.cell 2
    have gz3:W6.cell? ⟨yb,3,none⟩=some (.int .i64 0):=Z3.out.cell 3
    have gz4:W6.cell? ⟨yb,4,none⟩=some (.int .i64 0):=Z3.out.cell 4
    have gz5:W6.cell? ⟨yb,5,none⟩=some (.int .i64 0):=Z3.out.cell 5
    have gz6:W6.cell? ⟨yb,6,none⟩=some (.int .i64 0):=Z3.out.cell 6
    have gz7:W6.cell? ⟨yb,7,none⟩=some (.int .i64 0):=Z3.out.cell 7
    have gz8:W6.cell? ⟨yb,8,none⟩=some (.int .i64 0):=Z3.out.cell 8
    have gz9:W6.cell? ⟨yb,9,none⟩=some (.int .i64 0):=Z3.out.cell 9
    have gz10:W6.cell? ⟨yb,10,none⟩=some (.int .i64 0):=Z3.out.cell 10
    have gz11:W6.cell? ⟨yb,11,none⟩=some (.int .i64 0):=Z3.out.cell 11
    have gz12:W6.cell? ⟨yb,12,none⟩=some (.int .i64 0):=Z3.out.cell 12
    have gz13:W6.cell? ⟨yb,13,none⟩=some (.int .i64 0):=Z3.out.cell 13
    have gz14:W6.cell? ⟨yb,14,none⟩=some (.int .i64 0):=Z3.out.cell 14
    have gf0:=Z3.out.free 0
    have gf1:=Z3.out.free 1
    have gf2:=Z3.out.free 2
    have gf3:=Z3.out.free 3
    have gf4:=Z3.out.free 4
    have gf5:=Z3.out.free 5
    have gf6:=Z3.out.free 6
    have gf7:=Z3.out.free 7
    have gf8:=Z3.out.free 8
    have gf9:=Z3.out.free 9
    have gf10:=Z3.out.free 10
    have gf11:=Z3.out.free 11
    have gf12:=Z3.out.free 12
    have gf13:=Z3.out.free 13
    have gf14:=Z3.out.free 14
    have gn4:=Z4.out.free 0
    have gn5:=Z5.out.free 0
    have ne1:nb ≠ yb:=by omega
    have ne2:eb ≠ yb:=by omega
    have ne3:eb ≠ nb:=by omega
    have ne4:yb ≠ nb:=by omega
    have ne5:yb ≠ eb:=by omega
    have ne6:nb ≠ eb:=by omega
    go_region
    go_wp2_with fail
    obtain ⟨W9,hW9,v3,v4,v5,mk⟩:=add_fin W6 yb nb eb (X5' f) (L5 f k:Int) 0 (L5 f k:Int) 0 Z3.out Z4.out Z5.out (by omega) (by omega) (by omega)
    rw [hW9]
    clear hW9
    have V3:=Lib.hid v3
    have V4:=Lib.hid v4
    have V5:=Lib.hid v5
    have mk2:Keeps (fun i => i=yb ∨ i=nb ∨ i=eb) w5 W9:=(m3.mono (fun i h => .inr h)).trans mk
    clear v3 v4 v5 mk
    have hno:∀ g,w.heap.size ≤ g → g < W4.heap.size → ¬ O5 g:=fun g h1 h2 => HFF.out.out h2 (HHE.out.tx.out h1)
    have VB:W9.cell? ⟨w1.heap.size,0,none⟩=some (guardV ob tb mb):=(YB.out.keeps mk2 (by omega)).cell 0
    have VG:=YG.out.same (fun k hk => mk2.block k (by rcases hk with rfl | rfl | rfl; exact YG.out.o.lt; exact YG.out.t.lt; exact YG.out.m.lt) (by rcases hk with rfl | rfl | rfl <;> omega))
    have hT9:=HT5.out.keeps mk2 (fun i hi => by rcases hi with rfl | rfl | rfl; exact hno _ (by omega) (by omega); exact hno _ (by omega) (by omega); exact hno _ (by omega) (by omega))
    have hF9:FrX (fun k => w.heap.size ≤ k) w O W9 O5:=(((FrX.of_below HFB2.out).trans (FrX.of_below HB4.out)).trans (HFF.out.mono (fun i h => by rcases h with h | h <;> omega))).trans (FrX.of_keeps (mk2.mono (fun i h => by rcases h with h | h | h <;> omega)))
    refine leaves_cons (f:=65) (args := #[.pointer (some ⟨w1.heap.size,0,none⟩),.pointer (some ⟨eb,0,none⟩),.pointer (some ⟨yb,0,none⟩),.pointer (some ⟨nb,0,none⟩)]) (by simp) (by simp [go_sem]) ?_
    refine (add1_ok W9 ob tb mb t T.H.length w1.heap.size eb yb nb .returning VG VB (V5.out.cell 0)).mono ?_
    rintro e u' w' ⟨rfl,rfl,rfl⟩
    refine ⟨.tuple #[.agg (X5' f).C,.int .i64 (L5 f k:Int),.int .i64 0],results_add rfl _ _ yb nb eb (X5' f).C (L5 f k:Int) 0 rfl rfl rfl V3.out rfl V4.out V5.out,.inr ⟨O5,T5,X5',L5,S5,rfl,hT9,FrX.fr (Fr.refl w O) hF9 (fun i h => h),hx5,hl5,HR5.out.1,HR5.out.2.1,HR5.out.2.2.1,HR5.out.2.2.2.1,HR5.out.2.2.2.2.1,HR5.out.2.2.2.2.2.1,HR5.out.2.2.2.2.2.2⟩⟩
end Go.Proofs.YthkijogloebdoaaGreatDoor
end
