/-
  WholeFiles, the texts Fsb Fsc Iw: lemmas for the proof that three files on one disk are plain rows of bytes. No conditions.
-/
import Derived.Test.YthkijogloebdoaaGreatDoorM10
import Derived.Test.YthkijogloebdoaaGreatDoorM09
import Derived.Deep.OwnRows
import Derived.DeepKeys
set_option linter.unusedVariables false
set_option linter.unusedSimpArgs false
section
namespace Go.Proofs.YthkijogloebdoaaGreatDoor
open Go.RowKit Go.Maps Bt Gp
abbrev geoV (n:Nat):Value:=.agg #[.int .i64 (n:Int),.int .i64 98,.int .i64 (ino n:Int),.int .i64 (dat n:Int),.int .i64 (cnt n:Int)]
theorem Keeps.fr {w w2:World}{O:Nat → Prop}{S:Nat → Prop}(k:Keeps S w w2)(hS:∀ i,S i → w.heap.size ≤ i):Fr w O w2 O:=⟨⟨k.os,k.tape,k.output,k.size,fun i hi hn => k.block i hi (fun s => by have:=hS i s; omega)⟩,fun i h => .inl h⟩
set_option maxRecDepth 100000 in
theorem sbit_any (c:Cx)(w:World)(O:Nat → Prop)(T:Tn)(h:TxnAt c w O T)(n i k r:Nat)(hn:Disk n)(hN:c.N=n)(hi:i < n)(hk:98 + i / 4096=k)(hr:i % 4096=r) :
    Calls Tryz.prog 144 #[.pointer (some ⟨c.t,0,none⟩),geoV n,.int .i64 (i:Int)] w fun e w' =>
      (∃ g cp,e=.returned (.tuple #[.int .i64 (k:Int),.slice (some ⟨g,0,none⟩) 512 cp,.int .i64 (r:Int),.int .i64 0]) ∧ Rw w' g (T.view c.D k) ∧ w.heap.size ≤ g) ∧ Below w.heap.size w w':=by
  have hi9:=ino_lt hn
  obtain ⟨hi1,hi2,hi3⟩:=ino_le hn
  have hkN:k < c.N:=by rw [hN]; omega
  have hki:(98:Int) + (i:Int) / 4096=(k:Int):=by omega
  have hri:(i:Int) % 4096=(r:Int):=by omega
  have HG:=Lib.hid (fun w => geo_bit_ok n (i:Int) w hn (by omega) (by omega))
  rw [hki,hri] at HG
  obtain ⟨hb0,i0⟩:=one_new w #[.int .i64 (n:Int),.int .i64 98,.int .i64 (ino n:Int),.int .i64 (dat n:Int),.int .i64 (cnt n:Int)] 31
  have HB0:=Lib.hid hb0
  have HT:=Lib.hid (h.later hb0)
  have HR:=Lib.hid (fun w O h => tread_any c w O T h k hkN)
  obtain ⟨t,ht⟩:∃ t,c.t=t:=⟨_,rfl⟩
  rw [ht] at HR ⊢
  clear h hn hN hk hr hki hri hi3 i0 hb0 ht hkN
  go_enter Tryz.func144,Tryz.ntmps144
  go_wp2_with (first
    | (go_at_call 160
       refine (HG.out _).mono ?_
       rintro e w1 ⟨rfl,hb1⟩
       have HB1:=Lib.hid (HB0.out.trans (hb1.mono HB0.out.size))
       have HT1:=Lib.hid (HT.out.later hb1)
       clear hb1)
    | (go_at_call 37
       refine (HR.out _ _ HT1.out).mono ?_
       rintro e w2 ⟨⟨g,cp,rfl,hg,hgs,_⟩,hb2⟩
       have HG2:=Lib.hid hg
       have HGS:=Lib.hid hgs
       have HB2:=Lib.hid (HB1.out.trans (hb2.mono HB1.out.size))
       clear hg hgs hb2))
  refine bodyPost_ret (v:=.tuple #[.int .i64 (k:Int),.slice (some ⟨g,0,none⟩) 512 cp,.int .i64 (r:Int),.int .i64 0]) (by simp [results,Tryz.results144,go_sem]) rfl ?_
  exact ⟨⟨g,cp,rfl,HG2.out,Nat.le_trans HB1.out.size HGS.out⟩,HB2.out⟩
set_option maxRecDepth 100000 in
theorem sused_any (c:Cx)(w:World)(O:Nat → Prop)(T:Tn)(h:TxnAt c w O T)(n i k r:Nat)(hn:Disk n)(hN:c.N=n)(hi:i < n)(hk:98 + i / 4096=k)(hr:i % 4096=r) :
    Calls Tryz.prog 146 #[.pointer (some ⟨c.t,0,none⟩),geoV n,.int .i64 (i:Int)] w fun e w' =>
      e=.returned (.tuple #[.bool (bit (T.view c.D k) r),.int .i64 0]) ∧ Below w.heap.size w w':=by
  have hi9:=ino_lt hn
  obtain ⟨hi1,hi2,hi3⟩:=ino_le hn
  have HVL:=Lib.hid (h.view_len (i:=k) (by rw [hN]; omega))
  have hr4:r < 4096:=by omega
  obtain ⟨hb0,i0⟩:=one_new w #[.int .i64 (n:Int),.int .i64 98,.int .i64 (ino n:Int),.int .i64 (dat n:Int),.int .i64 (cnt n:Int)] 31
  have HB0:=Lib.hid hb0
  have HS:=Lib.hid (fun w O h => sbit_any c w O T h n i k r hn hN hi hk hr)
  have HT:=Lib.hid (h.later hb0)
  obtain ⟨t,ht⟩:∃ t,c.t=t:=⟨_,rfl⟩
  rw [ht] at HS ⊢
  have HBE:=Lib.hid (show getV (T.view c.D k) (r:Int)=bit (T.view c.D k) r ∧ getE (T.view c.D k) (r:Int)=0 by
    have hh:has (T.view c.D k) (r:Int)=true:=(has_iff _ _).2 ⟨by omega,by rw [HVL.out]; omega⟩
    unfold getV getE
    rw [hh,if_pos rfl]
    simp)
  clear h hn hN hk hr hi3 i0 hb0 ht
  go_enter Tryz.func146,Tryz.ntmps146
  go_wp2_with (first
    | (go_at_call 144
       refine (HS.out _ _ HT.out).mono ?_
       rintro e w1 ⟨⟨g,cp,rfl,hg,hgs⟩,hb1⟩
       have HG:=Lib.hid hg
       have HB1:=Lib.hid (HB0.out.trans (hb1.mono HB0.out.size))
       clear hb1 hg hgs)
    | (go_at_call 161
       refine (bget_any (some ⟨g,0,none⟩) 512 cp (T.view c.D k) HVL.out (r:Int) _ HG.out.bytes (by decide)).mono ?_
       rintro e w2 ⟨rfl,rfl⟩
       rw [HBE.out.1,HBE.out.2]))
  go_ret2
  exact ⟨rfl,HB1.out⟩
set_option maxRecDepth 100000 in
set_option maxHeartbeats 1600000 in
theorem sset_any (c:Cx)(w:World)(O:Nat → Prop)(T:Tn)(h:TxnAt c w O T)(n i k r:Nat)(on:Bool)(hn:Disk n)(hN:c.N=n)(hi:i < n)(hk:98 + i / 4096=k)(hr:i % 4096=r)
    (S:List Nat)(hS:T.Cov S)(hiS:k ∈ S)(h96:S.length ≤ 96)(hT:T.H.length ≤ 1000000) :
    Calls Tryz.prog 106 #[.pointer (some ⟨c.t,0,none⟩),geoV n,.int .i64 (i:Int),.bool on] w (Wrote c w O T k (Bt.putL (T.view c.D k) (r:Int) on)):=by
  have hi9:=ino_lt hn
  obtain ⟨hi1,hi2,hi3⟩:=ino_le hn
  have HVL:=Lib.hid (h.view_len (i:=k) (by rw [hN]; omega))
  have hr4:r < 4096:=by omega
  obtain ⟨hb0,i0⟩:=one_new w #[.int .i64 (n:Int),.int .i64 98,.int .i64 (ino n:Int),.int .i64 (dat n:Int),.int .i64 (cnt n:Int)] 31
  have HB0:=Lib.hid hb0
  have HOUT:=Lib.hid (fun g hg => h.out (g:=g) hg)
  have HS:=Lib.hid (fun w O h => sbit_any c w O T h n i k r hn hN hi hk hr)
  have HT:=Lib.hid (h.later hb0)
  have HW:=Lib.hid (fun w h A0 c0 l h5 hby hny => twrite_any c w O T h k A0 c0 l (by omega) (by rw [hN]; omega) h5 hby hny S hS hiS h96 hT)
  obtain ⟨t,ht⟩:∃ t,c.t=t:=⟨_,rfl⟩
  rw [ht] at HS HW ⊢
  clear h hn hN hk hr hi3 i0 hb0 ht hS hiS h96
  unfold Wrote
  go_enter Tryz.func106,Tryz.ntmps106
  go_wp2_with (first
    | (go_at_call 144
       refine (HS.out _ _ HT.out).mono ?_
       rintro e w1 ⟨⟨g,cp,rfl,hg,hgs⟩,hb1⟩
       have HG:=Lib.hid hg
       have HB1:=Lib.hid (HB0.out.trans (hb1.mono HB0.out.size))
       have HT1:=Lib.hid (HT.out.later hb1)
       have HNG:=Lib.hid (HOUT.out g (Nat.le_trans HB0.out.size hgs))
       have HGS:=Lib.hid (Nat.le_trans HB0.out.size hgs)
       clear hb1 hg hgs)
    | (go_at_call 145
       refine (bput_any g cp 512 (T.view c.D k) HVL.out r on _ HG.out (by omega) (by decide)).mono ?_
       rintro e w2 ⟨rfl,hg2,hk2⟩
       have HG2:=Lib.hid hg2
       have HF2:=Lib.hid (show Fr w O w2 O from ((Keeps.of_below HB1.out).trans hk2).fr (fun i e => by rw [show i=g from e]; exact HGS.out))
       have HT2:=Lib.hid (HT1.out.keep1 hk2 HNG.out)
       clear hg2 hk2)
    | (go_at_call 38
       refine (HW.out _ HT2.out (some ⟨g,0,none⟩) cp (Bt.putL (T.view c.D k) (r:Int) on) (by rw [Bt.putL_length]; exact HVL.out) HG2.out.bytes (fun b off e => by injection e with e; injection e with e1 e2; subst e1; exact HNG.out)).mono ?_
       rintro e w3 ⟨rfl,O3,hT3,hF3⟩
       have HT3:=Lib.hid hT3
       have HF3:=Lib.hid (HF2.out.trans hF3)
       clear hT3 hF3))
  go_ret
  exact ⟨rfl,O3,HT3.out,HF3.out⟩
set_option maxRecDepth 100000 in
theorem sgive_any (c:Cx)(w:World)(O:Nat → Prop)(T:Tn)(h:TxnAt c w O T)(n i k r:Nat)(hn:Disk n)(hN:c.N=n)(hd:dat n ≤ i)(hi:i < n)(hk:98 + i / 4096=k)(hr:i % 4096=r)(hon:bit (T.view c.D k) r=true)
    (S:List Nat)(hS:T.Cov S)(hiS:k ∈ S)(h96:S.length ≤ 96)(hT:T.H.length ≤ 1000000) :
    Calls Tryz.prog 109 #[.pointer (some ⟨c.t,0,none⟩),geoV n,.int .i64 (i:Int)] w (Wrote c w O T k (Bt.putL (T.view c.D k) (r:Int) false)):=by
  obtain ⟨hb0,i0⟩:=one_new w #[.int .i64 (n:Int),.int .i64 98,.int .i64 (ino n:Int),.int .i64 (dat n:Int),.int .i64 (cnt n:Int)] 31
  have HB0:=Lib.hid hb0
  have HOUT:=Lib.hid (fun g hg => h.out (g:=g) hg)
  have HU:=Lib.hid (fun w O h => sused_any c w O T h n i k r hn hN hi hk hr)
  have HS:=Lib.hid (fun w O h => sset_any c w O T h n i k r false hn hN hi hk hr S hS hiS h96 hT)
  have HT:=Lib.hid (h.later hb0)
  have HI0:=Lib.hid i0
  have HON:=Lib.hid hon
  obtain ⟨W,hW⟩:∃ W,w.alloc (.cells #[.int .i64 (n:Int),.int .i64 98,.int .i64 (ino n:Int),.int .i64 (dat n:Int),.int .i64 (cnt n:Int)] 31)=W:=⟨_,rfl⟩
  rw [hW] at HB0 HT HI0
  have c0:W.cell? ⟨w.heap.size,0,none⟩=some (.int .i64 (n:Int)):=HI0.out.cell 0
  have c1:W.cell? ⟨w.heap.size,1,none⟩=some (.int .i64 98):=HI0.out.cell 1
  have c2:W.cell? ⟨w.heap.size,2,none⟩=some (.int .i64 (ino n:Int)):=HI0.out.cell 2
  have c3:W.cell? ⟨w.heap.size,3,none⟩=some (.int .i64 (dat n:Int)):=HI0.out.cell 3
  have c4:W.cell? ⟨w.heap.size,4,none⟩=some (.int .i64 (cnt n:Int)):=HI0.out.cell 4
  have hd1:(dat n:Int) ≤ (i:Int):=by omega
  have hi1:(i:Int) < (n:Int):=by omega
  obtain ⟨t,ht⟩:∃ t,c.t=t:=⟨_,rfl⟩
  rw [ht] at HU HS ⊢
  clear h hn hN hk hr i0 hb0 ht hS hiS h96 hon hd hi
  unfold Wrote
  go_enter Tryz.func109,Tryz.ntmps109
  go_wp2_with (first
    | (go_at_call 146
       refine (HU.out _ _ HT.out).mono ?_
       rintro e w1 ⟨rfl,hb1⟩
       rw [HON.out]
       have HT1:=Lib.hid (HT.out.later hb1)
       have HB1:=Lib.hid (HB0.out.trans (hb1.mono HB0.out.size))
       have HI1:=Lib.hid (HI0.out.below hb1 HI0.out.lt)
       have d0:w1.cell? ⟨w.heap.size,0,none⟩=some (.int .i64 (n:Int)):=HI1.out.cell 0
       have d1:w1.cell? ⟨w.heap.size,1,none⟩=some (.int .i64 98):=HI1.out.cell 1
       have d2:w1.cell? ⟨w.heap.size,2,none⟩=some (.int .i64 (ino n:Int)):=HI1.out.cell 2
       have d3:w1.cell? ⟨w.heap.size,3,none⟩=some (.int .i64 (dat n:Int)):=HI1.out.cell 3
       have d4:w1.cell? ⟨w.heap.size,4,none⟩=some (.int .i64 (cnt n:Int)):=HI1.out.cell 4
       clear hb1)
    | (go_at_call 106
       refine (HS.out _ _ HT1.out).mono ?_
       rintro e w2 ⟨rfl,O2,hT2,hF2⟩
       have HT2:=Lib.hid hT2
       have HF2:=Lib.hid ((Fr.of_below HB1.out).trans hF2)
       clear hT2 hF2))
  go_ret
  exact ⟨rfl,O2,HT2.out,HF2.out⟩
set_option maxRecDepth 100000 in
theorem sfree_any (c:Cx)(w:World)(O:Nat → Prop)(T:Tn)(h:TxnAt c w O T)(n:Nat)(hn:Disk n)(hN:c.N=n) :
    Calls Tryz.prog 22 #[.pointer (some ⟨c.t,0,none⟩),geoV n] w fun e w' => e=.returned (.tuple #[.int .i64 (freeIn (T.view c.D) n (ino n - 98):Int),.int .i64 0]) ∧ Below w.heap.size w w':=by
  obtain ⟨hb0,i0,i1⟩:=two_new w #[.int .i64 (n:Int),.int .i64 98,.int .i64 (ino n:Int),.int .i64 (dat n:Int),.int .i64 (cnt n:Int)] #[.int .i64 0] 31 3
  obtain ⟨W,hW⟩:∃ W,(w.alloc (.cells #[.int .i64 (n:Int),.int .i64 98,.int .i64 (ino n:Int),.int .i64 (dat n:Int),.int .i64 (cnt n:Int)] 31)).alloc (.cells #[.int .i64 0] 3)=W:=⟨_,rfl⟩
  rw [hW] at hb0 i0 i1
  have cn0:W.cell? ⟨w.heap.size + 1,0,none⟩=some (.int .i64 0):=i1.cell 0
  have fn0:=i1.free 0
  have hb0:=hb0.setCell (p:=⟨w.heap.size + 1,0,none⟩) (by show w.heap.size ≤ w.heap.size + 1; omega) (.int .i64 0)
  have i0:=i0.other ⟨w.heap.size + 1,0,none⟩ (by show w.heap.size ≠ w.heap.size + 1; omega) (.int .i64 0)
  have i1:=i1.put 0 (.int .i64 0)
  obtain ⟨W2,hW2⟩:∃ W2,W.setCell ⟨w.heap.size + 1,0,none⟩ (.int .i64 0)=W2:=⟨_,rfl⟩
  rw [hW2] at hb0 i0 i1
  have hT:=h.later hb0
  have HB0:=Lib.hid hb0
  have HE:=Lib.hid (eachF_any c W2 O T hT n (w.heap.size + 1) w.heap.size hn hN i1 i0 (h.out (by omega)) (by omega))
  have c0:W2.cell? ⟨w.heap.size,0,none⟩=some (.int .i64 (n:Int)):=i0.cell 0
  have c1:W2.cell? ⟨w.heap.size,1,none⟩=some (.int .i64 98):=i0.cell 1
  have c2:W2.cell? ⟨w.heap.size,2,none⟩=some (.int .i64 (ino n:Int)):=i0.cell 2
  have c3:W2.cell? ⟨w.heap.size,3,none⟩=some (.int .i64 (dat n:Int)):=i0.cell 3
  have c4:W2.cell? ⟨w.heap.size,4,none⟩=some (.int .i64 (cnt n:Int)):=i0.cell 4
  clear h hn hN i0 i1 hb0 hT
  obtain ⟨t,ht⟩:∃ t,c.t=t:=⟨_,rfl⟩
  rw [ht] at HE ⊢
  clear ht
  go_enter Tryz.func22,Tryz.ntmps22
  go_wp2_with (go_at_call 46; refine HE.out.mono ?_; rintro e w1 ⟨rfl,hI,hK⟩; have HIn:=Lib.hid hI; have HK:=Lib.hid hK; have cn:=hI.cell 0; have cn:w1.cell? ⟨w.heap.size + 1,0,none⟩=some (.int .i64 (freeIn (T.view c.D) n (ino n - 98):Int)):=cn; clear hI hK)
  go_ret2
  exact ⟨rfl,HB0.out.trans (HK.out.below (by have:=HB0.out.size; omega) (fun i e => by omega))⟩
end Go.Proofs.YthkijogloebdoaaGreatDoor
end
section
namespace Go.Proofs.YthkijogloebdoaaGreatDoor
open Go.RowKit Go.Maps Bt Gp
def nil512:List UInt8:=List.replicate 512 0
theorem nil512_len:nil512.length=512:=by unfold nil512; exact List.length_replicate ..
theorem made_512:madeCells #[(.int .u8 0:Value)] 512=u8s nil512:=by kernel_rfl
theorem run_make512 (w:World):(Instr.makeSlice 28 (.int .i64 512) (.int .i64 512)).run Tryz.prog w=.ok (.slice (some ⟨w.heap.size,0,none⟩) 512 512) (w.alloc (.cells (u8s nil512) 5)):=by
  have:=run_make_row' (P:=Tryz.prog) 28 5 (.int .u8 0) 1 Tryz.underlying28 infoU8 rfl .i64 .i64 512 (by decide) (by decide) w
  rw [made_512] at this
  exact this
set_option maxRecDepth 100000 in
theorem sback_ok (t m p:Nat)(w:World)(hp:w.cell? ⟨p,0,none⟩=some (.int .i64 0)) :
    Calls Tryz.prog 105 #[.pointer (some ⟨t,0,none⟩),.int .i64 (m:Int),.pointer (some ⟨p,0,none⟩)] w fun e w' => e=.returned (.tuple #[]) ∧ w=w':=by
  go_enter Tryz.func105,Tryz.ntmps105
  go_wp2_with fail
  go_end0
  exact ⟨rfl,rfl⟩
set_option maxRecDepth 100000 in
theorem take2_d (t m tb mb p:Nat)(u:FrameMode)(w:World)(ht:w.cell? ⟨tb,0,none⟩=some (.pointer (some ⟨t,0,none⟩)))(hm:w.cell? ⟨mb,0,none⟩=some (.int .i64 (m:Int)))(hp:w.cell? ⟨p,0,none⟩=some (.int .i64 0)) :
    CallsD Tryz.prog 104 #[.pointer (some ⟨tb,0,none⟩),.pointer (some ⟨mb,0,none⟩),.pointer (some ⟨p,0,none⟩)] u w fun e u' w' => u'=u ∧ e=.returned (.tuple #[]) ∧ w=w':=by
  go_enter_d Tryz.func104,Tryz.ntmps104
  go_wp2_with (go_at_call 105; refine (sback_ok t m p _ hp).mono ?_; rintro e w' ⟨rfl,rfl⟩)
  go_end0
  exact ⟨rfl,rfl⟩
theorem Fr.keep {w w2 w3:World}{O O2:Nat → Prop}{S:Nat → Prop}(h:Fr w O w2 O2)(k:Keeps S w2 w3)(hS:∀ i,S i → w.heap.size ≤ i):Fr w O w3 O2 :=
  ⟨⟨k.os.trans h.1.os,k.tape.trans h.1.tape,k.output.trans h.1.output,Nat.le_trans h.1.size k.size,fun i hi hn => (k.block i (Nat.lt_of_lt_of_le hi h.1.size) (fun s => by have:=hS i s; omega)).trans (h.1.block i hi hn)⟩,h.2⟩
theorem Fr.set {w w2:World}{O O2:Nat → Prop}(h:Fr w O w2 O2){g:Nat}(hg:w.heap.size ≤ g)(k:Nat)(v:Value):Fr w O (w2.setCell ⟨g,k,none⟩ v) O2:=h.keep (keeps_set w2 g k v) (fun i e => by rw [show i=g from e]; exact hg)
structure TakeB (w W:World)(t:Nat)(f e:Int)(n:Nat):Prop where
  bt:Is W w.heap.size 36 #[.pointer (some ⟨t,0,none⟩)]
  bg:Is W (w.heap.size + 1) 31 (geoL n)
  be:Is W (w.heap.size + 2) 25 #[.int .i64 e]
  bf:Is W (w.heap.size + 3) 3 #[.int .i64 f]
theorem TakeB.keeps {w W W2:World}{t n:Nat}{f e:Int}{S:Nat → Prop}(h:TakeB w W t f e n)(k:Keeps S W W2)(hS:∀ i,S i → i < w.heap.size ∨ w.heap.size + 4 ≤ i):TakeB w W2 t f e n :=
  ⟨h.bt.keeps k (fun s => by have:=hS _ s; omega),h.bg.keeps k (fun s => by have:=hS _ s; omega),h.be.keeps k (fun s => by have:=hS _ s; omega),h.bf.keeps k (fun s => by have:=hS _ s; omega)⟩
theorem TakeB.putE {w W:World}{t n:Nat}{f e:Int}(h:TakeB w W t f e n)(x:Int):TakeB w (W.setCell ⟨w.heap.size + 2,0,none⟩ (.int .i64 x)) t f x n :=
  ⟨h.bt.other ⟨w.heap.size + 2,0,none⟩ (by show w.heap.size ≠ w.heap.size + 2; omega) _,h.bg.other ⟨w.heap.size + 2,0,none⟩ (by show w.heap.size + 1 ≠ w.heap.size + 2; omega) _,h.be.put 0 _,h.bf.other ⟨w.heap.size + 2,0,none⟩ (by show w.heap.size + 3 ≠ w.heap.size + 2; omega) _⟩
def Took (c:Cx)(w:World)(O:Nat → Prop)(T:Tn)(n:Nat)(e:Ending)(w':World):Prop :=
  (e=.returned (.tuple #[.int .i64 0,.int .i64 90]) ∧ (∀ k,k < ino n - 98 → offs (T.view c.D (98 + k)) (4096 * k) (dat n) n 4096=0) ∧ TxnAt c w' O T ∧ Fr w O w' O) ∨
  ∃ q:Nat,e=.returned (.tuple #[.int .i64 (q:Int),.int .i64 0]) ∧ dat n ≤ q ∧ q < n ∧ bit (T.view c.D (98 + q / 4096)) (q % 4096)=false ∧
    ∃ O',TxnAt c w' O' ((T.put (98 + q / 4096) (Bt.putL (T.view c.D (98 + q / 4096)) ((q % 4096:Nat):Int) true)).put q nil512) ∧ Fr w O w' O'
set_option maxRecDepth 100000 in
set_option maxHeartbeats 3200000 in
theorem stake_any (c:Cx)(w:World)(O:Nat → Prop)(T:Tn)(h:TxnAt c w O T)(n:Nat)(hn:Disk n)(hN:c.N=n)(S:List Nat)(hS:T.Cov S)(hbm:∀ k,98 ≤ k → k < ino n → k ∈ S)(h96:S.length + 1 ≤ 96)(hT:T.H.length + 2 ≤ 1000000) :
    Calls Tryz.prog 68 #[.pointer (some ⟨c.t,0,none⟩),geoV n] w (Took c w O T n):=by
  obtain ⟨hb0,i0,i1⟩:=two_new w #[.pointer (some ⟨c.t,0,none⟩)] #[.int .i64 (n:Int),.int .i64 98,.int .i64 (ino n:Int),.int .i64 (dat n:Int),.int .i64 (cnt n:Int)] 36 31
  obtain ⟨hb1,i2,i3⟩:=two_new ((w.alloc (.cells #[.pointer (some ⟨c.t,0,none⟩)] 36)).alloc (.cells #[.int .i64 (n:Int),.int .i64 98,.int .i64 (ino n:Int),.int .i64 (dat n:Int),.int .i64 (cnt n:Int)] 31)) #[.int .i64 0] #[.int .i64 0] 25 3
  have i0:=i0.below hb1 i0.lt
  have i1:=i1.below hb1 i1.lt
  rw [World.size_alloc,World.size_alloc] at i2 i3
  have hb:=hb0.trans (hb1.mono hb0.size)
  obtain ⟨W,hW⟩:∃ W,(((w.alloc (.cells #[.pointer (some ⟨c.t,0,none⟩)] 36)).alloc (.cells #[.int .i64 (n:Int),.int .i64 98,.int .i64 (ino n:Int),.int .i64 (dat n:Int),.int .i64 (cnt n:Int)] 31)).alloc (.cells #[.int .i64 0] 25)).alloc (.cells #[.int .i64 0] 3)=W:=⟨_,rfl⟩
  rw [hW] at i0 i1 i2 i3 hb
  have hB0:TakeB w W c.t 0 0 n:=⟨i0,i1,i2,i3⟩
  have cn0:W.cell? ⟨w.heap.size + 3,0,none⟩=some (.int .i64 0):=i3.cell 0
  have fn0:=i3.free 0
  have hb2:=hb.setCell (p:=⟨w.heap.size + 3,0,none⟩) (by show w.heap.size ≤ w.heap.size + 3; omega) (.int .i64 0)
  have hB1:TakeB w (W.setCell ⟨w.heap.size + 3,0,none⟩ (.int .i64 0)) c.t 0 0 n :=
    ⟨i0.other ⟨w.heap.size + 3,0,none⟩ (by show w.heap.size ≠ w.heap.size + 3; omega) _,i1.other ⟨w.heap.size + 3,0,none⟩ (by show w.heap.size + 1 ≠ w.heap.size + 3; omega) _,i2.other ⟨w.heap.size + 3,0,none⟩ (by show w.heap.size + 2 ≠ w.heap.size + 3; omega) _,i3.put 0 _⟩
  obtain ⟨W2,hW2⟩:∃ W2,W.setCell ⟨w.heap.size + 3,0,none⟩ (.int .i64 0)=W2:=⟨_,rfl⟩
  rw [hW2] at hb2 hB1
  have HB2:=Lib.hid hb2
  have HBX:=Lib.hid hB1
  have hT2:=h.later hb2
  have HE:=Lib.hid (eachT_any c W2 O T hT2 n (w.heap.size + 3) (w.heap.size + 1) hn hN hB1.bf hB1.bg (h.out (by omega)) (by omega))
  have HT2:=Lib.hid hT2
  have HOUT:=Lib.hid (fun g hg => h.out (g:=g) hg)
  have ct:W2.cell? ⟨w.heap.size,0,none⟩=some (.pointer (some ⟨c.t,0,none⟩)):=hB1.bt.cell 0
  have c0:W2.cell? ⟨w.heap.size + 1,0,none⟩=some (.int .i64 (n:Int)):=hB1.bg.cell 0
  have c1:W2.cell? ⟨w.heap.size + 1,1,none⟩=some (.int .i64 98):=hB1.bg.cell 1
  have c2:W2.cell? ⟨w.heap.size + 1,2,none⟩=some (.int .i64 (ino n:Int)):=hB1.bg.cell 2
  have c3:W2.cell? ⟨w.heap.size + 1,3,none⟩=some (.int .i64 (dat n:Int)):=hB1.bg.cell 3
  have c4:W2.cell? ⟨w.heap.size + 1,4,none⟩=some (.int .i64 (cnt n:Int)):=hB1.bg.cell 4
  have hsz2:=hb2.size
  have HH:=Lib.hid h
  have HNd:=Lib.hid hn
  have HCN:=Lib.hid hN
  have HS:=Lib.hid hS
  have HBM:=Lib.hid hbm
  clear h hn hN i0 i1 i2 i3 hb0 hb1 hb hb2 hB0 hB1 hT2 hS hbm
  obtain ⟨t,ht⟩:∃ t,c.t=t:=⟨_,rfl⟩
  rw [ht] at HE HBX ct hW ⊢
  have HTT:=Lib.hid ht
  clear ht
  unfold Took
  go_enter_defers Tryz.func68,Tryz.ntmps68
  go_wp2_with (first
    | (go_at_call 46
       refine HE.out.mono ?_
       rintro e w1 ⟨rfl,⟨f,hF,hI⟩,hK⟩
       have HF:=Lib.hid hF
       have hX1:TakeB w w1 t f 0 n:=⟨HBX.out.bt.keeps hK (by omega),HBX.out.bg.keeps hK (by omega),HBX.out.be.keeps hK (by omega),hI⟩
       have HX1:=Lib.hid hX1
       have HK1:=Lib.hid hK
       have d0:w1.cell? ⟨w.heap.size + 2,0,none⟩=some (.int .i64 0):=hX1.be.cell 0
       have df:=hX1.be.free 0
       have ce:w1.cell? ⟨w.heap.size + 3,0,none⟩=some (.int .i64 f):=hX1.bf.cell 0
       have dt:w1.cell? ⟨w.heap.size,0,none⟩=some (.pointer (some ⟨t,0,none⟩)):=hX1.bt.cell 0
       clear hF hI hK hX1 ct c0 c1 c2 c3 c4))
  · rename_i hf0
    have hf0:f=0:=by simpa using hf0
    subst hf0
    have hX:=(HX1.out.putE 0).putE 90
    have hfr:Keeps (fun i => w.heap.size ≤ i) w ((w1.setCell ⟨w.heap.size + 2,0,none⟩ (.int .i64 0)).setCell ⟨w.heap.size + 2,0,none⟩ (.int .i64 90)):=(Keeps.of_below HB2.out).trans ((HK1.out.mono (fun i e => by rw [show i=w.heap.size + 3 from e]; omega)).trans (((keeps_set w1 (w.heap.size + 2) 0 _).mono (fun i e => by rw [show i=w.heap.size + 2 from e]; omega)).trans ((keeps_set _ (w.heap.size + 2) 0 _).mono (fun i e => by rw [show i=w.heap.size + 2 from e]; omega))))
    have hT9:TxnAt c _ O T:=HH.out.keeps hfr (fun i hi => HOUT.out i hi)
    have hc5:=hX.be.cell 0
    have hall:∀ k,k < ino n - 98 → offs (T.view c.D (98 + k)) (4096 * k) (dat n) n 4096=0:=by
      rcases HF.out with ⟨_,h⟩ | ⟨q,e,h1,h2,_⟩
      · exact h
      · exfalso; have:=dat_pos n; omega
    refine ⟨.tuple #[.int .i64 0,.int .i64 90],?_,.inl ⟨rfl,hall,hT9,hfr.fr (fun i h => h)⟩⟩
    have hc5:((w1.setCell ⟨w.heap.size + 2,0,none⟩ (.int .i64 0)).setCell ⟨w.heap.size + 2,0,none⟩ (.int .i64 90)).cell? ⟨w.heap.size + 2,0,none⟩=some (.int .i64 90):=hc5
    generalize ((w1.setCell ⟨w.heap.size + 2,0,none⟩ (.int .i64 0)).setCell ⟨w.heap.size + 2,0,none⟩ (.int .i64 90))=w9 at hc5 ⊢
    simp [results,Tryz.f68,go_sem,hc5]
  · rename_i hf0 _ _ _ _
    obtain ⟨q,rfl,hq1,hq2,hq3⟩:∃ q:Nat,f=(q:Int) ∧ dat n ≤ q ∧ q < n ∧ bit (T.view c.D (98 + q / 4096)) (q % 4096)=false:=by
      rcases HF.out with ⟨h0,_⟩ | h
      · exfalso; rw [h0] at hf0; exact absurd hf0 (by decide)
      · exact h
    obtain ⟨hI1,hI2,hI3⟩:=ino_le HNd.out
    have hd98:=dat_pos n
    have HQ3:=Lib.hid hq3
    have hX3:=HX1.out.putE 0
    have hfr:Keeps (fun i => w.heap.size ≤ i) w (w1.setCell ⟨w.heap.size + 2,0,none⟩ (.int .i64 0)):=(Keeps.of_below HB2.out).trans ((HK1.out.mono (fun i e => by rw [show i=w.heap.size + 3 from e]; omega)).trans ((keeps_set w1 (w.heap.size + 2) 0 _).mono (fun i e => by rw [show i=w.heap.size + 2 from e]; omega)))
    obtain ⟨W3,hW3⟩:∃ W3,w1.setCell ⟨w.heap.size + 2,0,none⟩ (.int .i64 0)=W3:=⟨_,rfl⟩
    have hW3':w1.setCell ⟨w.heap.size + 1 + 1,0,none⟩ (.int .i64 0)=W3:=hW3
    rw [hW3] at hX3 hfr
    rw [hW3']
    have hT3:TxnAt c W3 O T:=HH.out.keeps hfr (fun i hi => HOUT.out i hi)
    have hs3:w.heap.size + 4 ≤ W3.heap.size:=by have:=hX3.bf.lt; omega
    have HFR:=Lib.hid hfr
    have HT3:=Lib.hid hT3
    have HX3:=Lib.hid hX3
    have HMK:=Lib.hid (tmark_any c W3 O T hT3)
    rw [HTT.out] at HMK
    have dt3:W3.cell? ⟨w.heap.size,0,none⟩=some (.pointer (some ⟨t,0,none⟩)):=hX3.bt.cell 0
    have de3:W3.cell? ⟨w.heap.size + 2,0,none⟩=some (.int .i64 0):=hX3.be.cell 0
    have fe3:=hX3.be.free 0
    obtain ⟨m,hm⟩:∃ m,T.H.length=m:=⟨_,rfl⟩
    rw [hm] at HMK hT
    have HM:=Lib.hid hm
    have hb4:=below_new W3 (.cells #[.int .i64 0] 3)
    have i4:=Is.new W3 3 #[.int .i64 0]
    have hX4:=hX3.keeps (Keeps.of_below hb4 (S:=fun _ => False)) (fun i h => h.elim)
    obtain ⟨W4,hW4⟩:∃ W4,W3.alloc (.cells #[.int .i64 0] 3)=W4:=⟨_,rfl⟩
    rw [hW4] at hb4 i4 hX4
    have c40:W4.cell? ⟨W3.heap.size,0,none⟩=some (.int .i64 0):=i4.cell 0
    have f40:=i4.free 0
    have k5:=(Keeps.of_below hb4 (S:=fun i => w.heap.size ≤ i)).trans ((keeps_set W4 W3.heap.size 0 (.int .i64 (m:Int))).mono (fun i e => by rw [show i=W3.heap.size from e]; omega))
    have hX5:=hX4.keeps (keeps_set W4 W3.heap.size 0 (.int .i64 (m:Int))) (fun i e => by rw [show i=W3.heap.size from e]; exact .inr hs3)
    have i5:=i4.put 0 (.int .i64 (m:Int))
    obtain ⟨W5,hW5⟩:∃ W5,W4.setCell ⟨W3.heap.size,0,none⟩ (.int .i64 (m:Int))=W5:=⟨_,rfl⟩
    rw [hW5] at k5 hX5 i5
    have e50:W5.cell? ⟨w.heap.size + 2,0,none⟩=some (.int .i64 0):=hX5.be.cell 0
    have fe5:=hX5.be.free 0
    have k6:=k5.trans ((keeps_set W5 (w.heap.size + 2) 0 (.int .i64 0)).mono (fun i e => by rw [show i=w.heap.size + 2 from e]; omega))
    have hX6:=hX5.putE 0
    have i6:=i5.other ⟨w.heap.size + 2,0,none⟩ (by show W3.heap.size ≠ w.heap.size + 2; omega) (.int .i64 0)
    obtain ⟨W6,hW6⟩:∃ W6,W5.setCell ⟨w.heap.size + 2,0,none⟩ (.int .i64 0)=W6:=⟨_,rfl⟩
    have hW6':W5.setCell ⟨w.heap.size + 1 + 1,0,none⟩ (.int .i64 0)=W6:=hW6
    rw [hW6] at k6 hX6 i6
    have hfr6:=hfr.trans k6
    have hT6:TxnAt c W6 O T:=HH.out.keeps hfr6 (fun i hi => HOUT.out i hi)
    have HFR6:=Lib.hid hfr6
    have HX6:=Lib.hid hX6
    have HI6:=Lib.hid i6
    have hk98:98 + q / 4096 < ino n:=by omega
    have HSET:=Lib.hid (sset_any c W6 O T hT6 n q (98 + q / 4096) (q % 4096) true HNd.out HCN.out hq2 rfl rfl S HS.out (HBM.out _ (by omega) hk98) (by omega) (by rw [HM.out]; omega))
    rw [HTT.out] at HSET
    have dt6:W6.cell? ⟨w.heap.size,0,none⟩=some (.pointer (some ⟨t,0,none⟩)):=hX6.bt.cell 0
    have g0:W6.cell? ⟨w.heap.size + 1,0,none⟩=some (.int .i64 (n:Int)):=hX6.bg.cell 0
    have g1:W6.cell? ⟨w.heap.size + 1,1,none⟩=some (.int .i64 98):=hX6.bg.cell 1
    have g2:W6.cell? ⟨w.heap.size + 1,2,none⟩=some (.int .i64 (ino n:Int)):=hX6.bg.cell 2
    have g3:W6.cell? ⟨w.heap.size + 1,3,none⟩=some (.int .i64 (dat n:Int)):=hX6.bg.cell 3
    have g4:W6.cell? ⟨w.heap.size + 1,4,none⟩=some (.int .i64 (cnt n:Int)):=hX6.bg.cell 4
    have de6:W6.cell? ⟨w.heap.size + 2,0,none⟩=some (.int .i64 0):=hX6.be.cell 0
    have df6:W6.cell? ⟨w.heap.size + 3,0,none⟩=some (.int .i64 (q:Int)):=hX6.bf.cell 0
    clear hI3 hf0 hX3 hfr hT3 hb4 i4 hX4 k5 hX5 i5 k6 hX6 i6 hfr6 hT6 hm
    go_upto_region 14 with (first
      | (go_at_call 60
         refine HMK.out.mono ?_
         rintro e w' ⟨rfl,rfl⟩)
      | (go_at_call 106
         refine HSET.out.mono ?_
         rintro e w7 ⟨rfl,O7,hT7,hF7⟩
         have HT7:=Lib.hid hT7
         have HF7:=Lib.hid hF7
         have hX7:TakeB w w7 t (q:Int) 0 n:=HX6.out.keeps hF7.1 (fun i hi => .inl (by
           by_cases hlt:i < w.heap.size
           · exact hlt
           · exact absurd hi (HOUT.out i (by omega))))
         have HX7:=Lib.hid hX7
         have HI7:=Lib.hid (HI6.out.fr hF7 (HOUT.out _ (by omega)))
         have de7:w7.cell? ⟨w.heap.size + 2,0,none⟩=some (.int .i64 0):=hX7.be.cell 0
         have fe7:=hX7.be.free 0
         have dt7:w7.cell? ⟨w.heap.size,0,none⟩=some (.pointer (some ⟨t,0,none⟩)):=hX7.bt.cell 0
         have df7:w7.cell? ⟨w.heap.size + 3,0,none⟩=some (.int .i64 (q:Int)):=hX7.bf.cell 0
         clear hT7 hF7 hX7))
    have hX8:=HX7.out.putE 0
    have hn7:¬ O7 (w.heap.size + 2):=HF7.out.out HX6.out.be.lt (HOUT.out _ (by omega))
    have hT8:=HT7.out.set hn7 0 (.int .i64 0)
    have hI8:=HI7.out.other ⟨w.heap.size + 2,0,none⟩ (by show W3.heap.size ≠ w.heap.size + 2; omega) (.int .i64 0)
    have hF8:Fr w O (w7.setCell ⟨w.heap.size + 2,0,none⟩ (.int .i64 0)) O7:=((HFR6.out.fr (O:=O) (fun i h => h)).trans HF7.out).set (by omega) 0 _
    obtain ⟨W8,hW8⟩:∃ W8,w7.setCell ⟨w.heap.size + 2,0,none⟩ (.int .i64 0)=W8:=⟨_,rfl⟩
    have hW8':w7.setCell ⟨w.heap.size + 1 + 1,0,none⟩ (.int .i64 0)=W8:=hW8
    rw [hW8] at hX8 hT8 hI8 hF8
    rw [hW8']
    have HX8:=Lib.hid hX8
    have HT8:=Lib.hid hT8
    have HI8:=Lib.hid hI8
    have HF8:=Lib.hid hF8
    have dt8:W8.cell? ⟨w.heap.size,0,none⟩=some (.pointer (some ⟨t,0,none⟩)):=hX8.bt.cell 0
    have df8:W8.cell? ⟨w.heap.size + 3,0,none⟩=some (.int .i64 (q:Int)):=hX8.bf.cell 0
    have hs8:w.heap.size + 4 ≤ W8.heap.size:=by have:=hX8.bf.lt; omega
    have hs6:w.heap.size + 4 ≤ W6.heap.size:=by have:=HX6.out.bf.lt; omega
    have H7F:=Lib.hid (show ∀ i,O7 i → i < w.heap.size ∨ w.heap.size + 4 ≤ i from fun i hi => by
      rcases HF7.out.2 i hi with q | q
      · left
        by_cases hlt:i < w.heap.size
        · exact hlt
        · exact absurd q (HOUT.out i (by omega))
      · right; omega)
    have HM7:=Lib.hid (show ¬ O7 W3.heap.size from HF7.out.out HI6.out.lt (HOUT.out _ (by omega)))
    clear hX8 hT8 hI8 hF8 hn7 dt7 df7 de7 fe7 hW8
    go_cut [] from 33 to 36 (fun wx => ∃ O9,TxnAt c wx O9 ((T.put (98 + q / 4096) (Bt.putL (T.view c.D (98 + q / 4096)) ((q % 4096:Nat):Int) true)).put q nil512) ∧ TakeB w wx t (q:Int) 0 n ∧ Is wx W3.heap.size 3 #[.int .i64 (m:Int)] ∧ Fr w O wx O9 ∧ ¬ O9 (w.heap.size + 2))
    case first =>
      have hmk:=run_make512
      obtain ⟨hbz,hiz⟩:=one_new W8 (u8s nil512) 5
      have hTz:TxnAt c (W8.alloc (.cells (u8s nil512) 5)).drew O7 (T.put (98 + q / 4096) (Bt.putL (T.view c.D (98 + q / 4096)) ((q % 4096:Nat):Int) true)):=HT8.out.later hbz.drew
      have hcov:(T.put (98 + q / 4096) (Bt.putL (T.view c.D (98 + q / 4096)) ((q % 4096:Nat):Int) true)).Cov (q :: S):=((HS.out.mono (fun i hi => List.mem_cons_of_mem _ hi)).put (List.mem_cons_of_mem _ (HBM.out _ (by omega) hk98)) _)
      have hwr:=twrite_any c _ O7 _ hTz q (some ⟨W8.heap.size,0,none⟩) 512 nil512 (by omega) (by rw [HCN.out]; exact hq2) nil512_len (Bytes.of_is hiz) (fun g off e ho => by
        injection e with e
        injection e with e1 e2
        subst e1
        have:=HT8.out.lt _ ho
        omega) (q :: S) hcov (List.mem_cons_self ..) (by rw [List.length_cons]; omega) (by rw [Tn.put_len,HM.out]; omega)
      rw [HTT.out] at hwr
      have HWR:=Lib.hid hwr
      have HBZ:=Lib.hid hbz
      have dt8a:=fun o => ((below_new W8 o).cell (p:=⟨w.heap.size,0,none⟩) (by show w.heap.size < W8.heap.size; omega)).trans dt8
      have df8a:=fun o => ((below_new W8 o).cell (p:=⟨w.heap.size + 3,0,none⟩) (by show w.heap.size + 3 < W8.heap.size; omega)).trans df8
      clear hwr hbz hiz hTz hcov
      go_region_with (first
        | (go_at_call 38
           refine HWR.out.mono ?_
           rintro e w9 ⟨rfl,O9,hT9,hF9⟩
           have HT9:=Lib.hid hT9
           have HF9:=Lib.hid (show Fr W8 O7 w9 O9 from (Fr.of_below HBZ.out.drew).trans hF9)
           have hX9:TakeB w w9 t (q:Int) 0 n:=HX8.out.keeps HF9.out.1 (H7F.out)
           have HX9:=Lib.hid hX9
           have de9:w9.cell? ⟨w.heap.size + 2,0,none⟩=some (.int .i64 0):=hX9.be.cell 0
           have fe9:=hX9.be.free 0
           clear hT9 hF9 hX9))
      all_goals go_wp2_with fail
      all_goals go_meet
      all_goals exact ⟨O9,HT9.out.set (HF9.out.out (by show w.heap.size + 2 < W8.heap.size; omega) (fun ho => by have:=H7F.out _ ho; omega)) 0 _,HX9.out.putE 0,(HI8.out.fr HF9.out HM7.out).other ⟨w.heap.size + 2,0,none⟩ (by show W3.heap.size ≠ w.heap.size + 2; omega) _,(HF8.out.trans HF9.out).set (by omega) 0 _,HF9.out.out (by show w.heap.size + 2 < W8.heap.size; omega) (fun ho => by have:=H7F.out _ ho; omega)⟩
    case rest =>
      obtain ⟨O9,hT9,hX9,hI9,hF9,hn9⟩:=hcut
      have de9:wc.cell? ⟨w.heap.size + 2,0,none⟩=some (.int .i64 0):=hX9.be.cell 0
      have fe9:=hX9.be.free 0
      have df9:wc.cell? ⟨w.heap.size + 3,0,none⟩=some (.int .i64 (q:Int)):=hX9.bf.cell 0
      have HT9:=Lib.hid hT9
      have HX9:=Lib.hid hX9
      have HI9:=Lib.hid hI9
      have HF9:=Lib.hid hF9
      clear hT9 hX9 hI9 hF9
      go_wp2_with fail
      have hX10:=HX9.out.putE 0
      have hI10:=HI9.out.other ⟨w.heap.size + 2,0,none⟩ (by show W3.heap.size ≠ w.heap.size + 2; omega) (.int .i64 0)
      have hT10:=HT9.out.set hn9 0 (.int .i64 0)
      have hF10:=HF9.out.set (g:=w.heap.size + 2) (by omega) 0 (.int .i64 0)
      have e1:(wc.setCell ⟨w.heap.size + 2,0,none⟩ (.int .i64 0)).cell? ⟨w.heap.size,0,none⟩=some (.pointer (some ⟨t,0,none⟩)):=hX10.bt.cell 0
      have e2:(wc.setCell ⟨w.heap.size + 2,0,none⟩ (.int .i64 0)).cell? ⟨w.heap.size + 2,0,none⟩=some (.int .i64 0):=hX10.be.cell 0
      have e3:(wc.setCell ⟨w.heap.size + 2,0,none⟩ (.int .i64 0)).cell? ⟨W3.heap.size,0,none⟩=some (.int .i64 (m:Int)):=Is.cell hI10 0
      refine leaves_cons (f:=104) (args := #[.pointer (some ⟨w.heap.size,0,none⟩),.pointer (some ⟨W3.heap.size,0,none⟩),.pointer (some ⟨w.heap.size + 2,0,none⟩)]) (by simp) (by simp [go_sem]) ?_
      refine (take2_d t m w.heap.size W3.heap.size (w.heap.size + 2) .returning _ e1 e3 e2).mono ?_
      rintro e u' w'' ⟨rfl,rfl,rfl⟩
      refine ⟨.tuple #[.int .i64 (q:Int),.int .i64 0],?_,.inr ⟨q,rfl,hq1,hq2,HQ3.out,O9,hT10,hF10⟩⟩
      generalize (wc.setCell ⟨w.heap.size + 2,0,none⟩ (.int .i64 0))=w10 at e2 ⊢
      simp [results,Tryz.f68,go_sem,e2]
end Go.Proofs.YthkijogloebdoaaGreatDoor
end
section
namespace Go.Proofs.YthkijogloebdoaaGreatDoor
open Go.RowKit Rec
def numsC (x:Ino):Array Value := #[.int .i64 (x.num 0:Int),.int .i64 (x.num 1:Int),.int .i64 (x.num 2:Int),.int .i64 (x.num 3:Int),.int .i64 (x.num 4:Int),.int .i64 (x.num 5:Int),.int .i64 (x.num 6:Int),.int .i64 (x.num 7:Int),.int .i64 (x.num 8:Int),.int .i64 (x.num 9:Int),.int .i64 (x.num 10:Int),.int .i64 (x.num 11:Int)]
def nums10 (x:Ino)(a b:Int):Array Value := #[.int .i64 (x.num 0:Int),.int .i64 (x.num 1:Int),.int .i64 (x.num 2:Int),.int .i64 (x.num 3:Int),.int .i64 (x.num 4:Int),.int .i64 (x.num 5:Int),.int .i64 (x.num 6:Int),.int .i64 (x.num 7:Int),.int .i64 (x.num 8:Int),.int .i64 (x.num 9:Int),.int .i64 a,.int .i64 b]
def zero12:Array Value := #[.int .i64 0,.int .i64 0,.int .i64 0,.int .i64 0,.int .i64 0,.int .i64 0,.int .i64 0,.int .i64 0,.int .i64 0,.int .i64 0,.int .i64 0,.int .i64 0]
theorem numsC_one (x:Ino):(numsC x).all (·.oneCell')=true:=by simp [numsC,Value.oneCell']
theorem inoC_one (x:Ino):x.C.all (·.oneCell')=true:=by simp [Ino.C,Value.oneCell']
theorem size12:(Tryz.prog.info? 124).map (·.size)=some 12:=by kernel_rfl
theorem size15:(Tryz.prog.info? 44).map (·.size)=some 15:=by kernel_rfl
theorem sizeI:(Tryz.prog.info? 3).map (·.size)=some 1:=by kernel_rfl
theorem run_within (v lo hi:Int)(w:World):Calls Tryz.prog 52 #[.int .i64 v,.int .i64 lo,.int .i64 hi] w fun e w' => e=.returned (.bool (decide (lo ≤ v) && decide (v ≤ hi))) ∧ w=w':=by
  by_cases h1:lo ≤ v
  · by_cases h2:v ≤ hi
    · rw [decide_eq_true h1,decide_eq_true h2]
      go_enter Tryz.func52,Tryz.ntmps52
      go_wp2_with fail
      go_ret
      exact ⟨rfl,rfl⟩
    · rw [decide_eq_true h1,decide_eq_false h2]
      have h2:hi < v:=by omega
      go_enter Tryz.func52,Tryz.ntmps52
      go_wp2_with fail
      go_ret
      exact ⟨rfl,rfl⟩
  · rw [decide_eq_false h1]
    have h1:v < lo:=by omega
    go_enter Tryz.func52,Tryz.ntmps52
    go_wp2_with fail
    go_ret
    exact ⟨rfl,rfl⟩
set_option maxRecDepth 100000 in
set_option maxHeartbeats 1600000 in
theorem numbers_any (x:Ino)(w:World):Calls Tryz.prog 51 #[.agg x.C] w fun e w' => e=.returned (.agg (numsC x)) ∧ Below w.heap.size w w':=by
  obtain ⟨hb0,i0⟩:=one_new w x.C 44
  obtain ⟨hb1,i1,i2⟩:=two_new (w.alloc (.cells x.C 44)) zero12 zero12 124 124
  obtain ⟨W,hW⟩:∃ W,((w.alloc (.cells x.C 44)).alloc (.cells zero12 124)).alloc (.cells zero12 124)=W:=⟨_,rfl⟩
  have i0:=i0.below hb1 i0.lt
  have hb:=hb0.trans (hb1.mono hb0.size)
  rw [hW] at i0 i1 i2 hb
  rw [World.size_alloc] at i1 i2
  have hcp:∀ ty,(Builtin.copy_ #[39,39] ty #[.slice (some ⟨w.heap.size + 2,0,none⟩) 12 12,.slice (some ⟨w.heap.size,3,none⟩) 10 10]).run Tryz.prog W.drew=.ok (.int .i64 10) (W.drew.setRow (w.heap.size + 2) (nums10 x 0 0)):=fun ty => by
    have h:=run_copy_row (P:=Tryz.prog) (ty:=ty) W.drew 39 39 3 (w.heap.size + 2) 0 12 12 ⟨w.heap.size,3,none⟩ 10 10 zero12 124 ((nums10 x 0 0).toList.take 10) Tryz.underlying39 sizeI i2 rfl
      (fun j v hj => by
        have hj10:j < 10:=by have:=(List.getElem?_eq_some_iff.1 hj).1; simpa [nums10] using this
        have hc:=i0.cell (3 + j)
        have hadd:(⟨w.heap.size,3,none⟩:Addr).add j=⟨w.heap.size,3 + j,none⟩:=by unfold Addr.add; split <;> simp_all
        rw [hadd]
        show W.cell? ⟨w.heap.size,3 + j,none⟩=some v
        rw [hc]
        unfold nums10 at hj
        unfold Ino.C
        match j,hj10 with
        | 0,_ => exact hj
        | 1,_ => exact hj
        | 2,_ => exact hj
        | 3,_ => exact hj
        | 4,_ => exact hj
        | 5,_ => exact hj
        | 6,_ => exact hj
        | 7,_ => exact hj
        | 8,_ => exact hj
        | 9,_ => exact hj) (by show 0 + 10 ≤ 12; omega) (by intro v hv; simp [nums10] at hv; rcases hv with rfl | rfl | rfl | rfl | rfl | rfl | rfl | rfl | rfl | rfl <;> rfl)
    exact h
  have j2:Is (W.drew.setRow (w.heap.size + 2) (nums10 x 0 0)) (w.heap.size + 2) 124 (nums10 x 0 0):=setRow_heap W.drew (w.heap.size + 2) _ _ _ _ i2
  have j0:Is (W.drew.setRow (w.heap.size + 2) (nums10 x 0 0)) w.heap.size 44 x.C:=(setRow_other W.drew (w.heap.size + 2) w.heap.size _ (by omega)).trans i0
  have j1:Is (W.drew.setRow (w.heap.size + 2) (nums10 x 0 0)) (w.heap.size + 1) 124 zero12:=(setRow_other W.drew (w.heap.size + 2) (w.heap.size + 1) _ (by omega)).trans i1
  have hb3:Below w.heap.size w (W.drew.setRow (w.heap.size + 2) (nums10 x 0 0)):=⟨hb.os,hb.tape,hb.output,Nat.le_trans hb.size (by show W.heap.size ≤ (W.heap.modify _ _).size; simp),fun k hk => (setRow_other W.drew (w.heap.size + 2) k _ (by omega)).trans (hb.block k hk)⟩
  obtain ⟨W3,hW3⟩:∃ W3,W.drew.setRow (w.heap.size + 2) (nums10 x 0 0)=W3:=⟨_,rfl⟩
  rw [hW3] at j0 j1 j2 hb3
  simp only [hW3] at hcp
  have d13:W3.cell? ⟨w.heap.size,13,none⟩=some (.int .i64 (x.num 10:Int)):=j0.cell 13
  have d14:W3.cell? ⟨w.heap.size,14,none⟩=some (.int .i64 (x.num 11:Int)):=j0.cell 14
  have d2:W3.cell? ⟨w.heap.size + 2,10,none⟩=some (.int .i64 0):=j2.cell 10
  have d3:W3.cell? ⟨w.heap.size + 2,11,none⟩=some (.int .i64 0):=j2.cell 11
  have f2:∀ k,W3.frozen? ⟨w.heap.size + 2,k,none⟩=false:=fun k => j2.free k
  have k2:Is ((W3.setCell ⟨w.heap.size + 2,10,none⟩ (.int .i64 (x.num 10:Int))).setCell ⟨w.heap.size + 2,11,none⟩ (.int .i64 (x.num 11:Int))) (w.heap.size + 2) 124 (numsC x):=(j2.put 10 _).put 11 _
  have k1:=(j1.other ⟨w.heap.size + 2,10,none⟩ (by show w.heap.size + 1 ≠ w.heap.size + 2; omega) (.int .i64 (x.num 10:Int))).other ⟨w.heap.size + 2,11,none⟩ (by show w.heap.size + 1 ≠ w.heap.size + 2; omega) (.int .i64 (x.num 11:Int))
  have hb5:=(hb3.setCell (p:=⟨w.heap.size + 2,10,none⟩) (by show w.heap.size ≤ w.heap.size + 2; omega) (.int .i64 (x.num 10:Int))).setCell (p:=⟨w.heap.size + 2,11,none⟩) (by show w.heap.size ≤ w.heap.size + 2; omega) (.int .i64 (x.num 11:Int))
  obtain ⟨W5,hW5⟩:∃ W5,(W3.setCell ⟨w.heap.size + 2,10,none⟩ (.int .i64 (x.num 10:Int))).setCell ⟨w.heap.size + 2,11,none⟩ (.int .i64 (x.num 11:Int))=W5:=⟨_,rfl⟩
  rw [hW5] at k1 k2 hb5
  have HK2:=Lib.hid k2
  have HK1:=Lib.hid k1
  have HB5:=Lib.hid hb5
  clear i0 i1 i2 hb hb0 hb1 j0 j1 j2 hb3 k1 k2 hb5
  unfold Ino.C zero12 at hW
  unfold Ino.C
  go_enter Tryz.func51,Tryz.ntmps51
  go_wp2_with fail
  go_region
  go_wp2_with (first
    | (refine wpList_load_row rfl 124 (.tmp 3) rfl (w.heap.size + 2) rfl 124 (numsC x) (0,0) _ HK2.out Tryz.underlying124 rfl size12 ?_)
    | (refine wpList_store_row rfl 124 (.tmp 2) (.tmp 14) rfl (w.heap.size + 1) (numsC x) rfl rfl 124 zero12 HK1.out size12 rfl (numsC_one x) ?_))
  refine bodyPost_ret (results_cell_row (P:=Tryz.prog) rfl _ _ (w.heap.size + 1) 124 (numsC x) (0,0) _ rfl (setRow_heap W5 (w.heap.size + 1) _ _ _ _ HK1.out) Tryz.underlying124 rfl size12) rfl ?_
  exact ⟨rfl,⟨HB5.out.os,HB5.out.tape,HB5.out.output,Nat.le_trans HB5.out.size (by show W5.heap.size ≤ (W5.heap.modify _ _).size; simp),fun k hk => (setRow_other W5 (w.heap.size + 1) k _ (by omega)).trans (HB5.out.block k hk)⟩⟩
theorem run_index12 (w:World)(x:Ino)(k:Nat)(hk:k < 12):(Instr.index 124 (.agg (numsC x)) (.int .i64 (k:Int))).run Tryz.prog w=.ok (.int .i64 (x.num k:Int)) w:=by
  have hs:(sizeOf 3).run Tryz.prog w=.ok 1 w:=by simp [go_sem]
  unfold numsC
  match k,hk with
  | 0,_ => simp [Instr.index,go_sem,hs]
  | 1,_ => simp [Instr.index,go_sem,hs]
  | 2,_ => simp [Instr.index,go_sem,hs]
  | 3,_ => simp [Instr.index,go_sem,hs]
  | 4,_ => simp [Instr.index,go_sem,hs]
  | 5,_ => simp [Instr.index,go_sem,hs]
  | 6,_ => simp [Instr.index,go_sem,hs]
  | 7,_ => simp [Instr.index,go_sem,hs]
  | 8,_ => simp [Instr.index,go_sem,hs]
  | 9,_ => simp [Instr.index,go_sem,hs]
  | 10,_ => simp [Instr.index,go_sem,hs]
  | 11,_ => simp [Instr.index,go_sem,hs]
def zeroC:Array Value := #[.int .i64 0,.int .i64 0,.int .i64 0,.int .i64 0,.int .i64 0,.int .i64 0,.int .i64 0,.int .i64 0,.int .i64 0,.int .i64 0,.int .i64 0,.int .i64 0,.int .i64 0,.int .i64 0,.int .i64 0]
theorem ino_key:Tryz.prog.keyTypeAt 3 44=true:=by kernel_rfl
theorem lits_any (v:Nat → Int)(h0:∀ k,0 ≤ v k)(h1:∀ k,v k ≤ 9223372036854775807) :
    Tryz.prog.keyLits 4 44 [.int .i64 (v 0),.int .i64 (v 1),.int .i64 (v 2),.int .i64 (v 3),.int .i64 (v 4),.int .i64 (v 5),.int .i64 (v 6),.int .i64 (v 7),.int .i64 (v 8),.int .i64 (v 9),.int .i64 (v 10),.int .i64 (v 11),.int .i64 (v 12),.int .i64 (v 13),.int .i64 (v 14)] =
      some [.int .i64 (v 0),.int .i64 (v 1),.int .i64 (v 2),.int .i64 (v 3),.int .i64 (v 4),.int .i64 (v 5),.int .i64 (v 6),.int .i64 (v 7),.int .i64 (v 8),.int .i64 (v 9),.int .i64 (v 10),.int .i64 (v 11),.int .i64 (v 12),.int .i64 (v 13),.int .i64 (v 14)]:=by
  have hw:∀ k,(Lit.int .i64 (v k)).wf=true:=fun k => wf_i64 _ (by have:=h0 k; omega) (h1 k)
  have e44:Tryz.prog.cellsOf 44=15:=by kernel_rfl
  have e42:Tryz.prog.cellsOf 42=10:=by kernel_rfl
  have e3:Tryz.prog.cellsOf 3=1:=by kernel_rfl
  simp [Program.keyLits,Tryz.underlying44,Tryz.underlying42,Tryz.underlying3,e44,e42,e3,hw,List.range,List.range.loop]
def Ino.v (x:Ino):Nat → Int
  | 0 => (x.kind:Int)
  | 1 => (x.links:Int)
  | 2 => (x.size:Int)
  | k + 3 => ((if k < 12 then x.num k else 0:Nat):Int)
set_option maxRecDepth 100000 in
theorem run_equal_ino (x:Ino)(h:x.Ok)(w:World):(Op.equalIn 10000 44 (.agg x.C) (.agg zeroC)).run Tryz.prog w=.ok (x.kind == 0) w:=by
  have hk:x.kind ≤ 2:=by have:=h.sort; omega
  have hv0:∀ k,0 ≤ x.v k:=fun k => by
    match k with
    | 0 => exact Int.natCast_nonneg _
    | 1 => exact Int.natCast_nonneg _
    | 2 => exact Int.natCast_nonneg _
    | k + 3 => exact Int.natCast_nonneg _
  have hv1:∀ k,x.v k ≤ 9223372036854775807:=fun k => by
    match k with
    | 0 => show (x.kind:Int) ≤ _; omega
    | 1 => show (x.links:Int) ≤ _; have:=h.links; omega
    | 2 => show (x.size:Int) ≤ _; have:=h.size; omega
    | k + 3 =>
      show (((if k < 12 then x.num k else 0:Nat):Nat):Int) ≤ _
      split
      · rename_i hk12; have:=h.nums k hk12; omega
      · omega
  have e44:Tryz.prog.cellsOf 44=15:=by kernel_rfl
  have la:=lits_any x.v hv0 hv1
  have lz:=lits_any (fun _ => 0) (fun _ => Int.le_refl _) (fun _ => by decide)
  obtain ⟨r,h1,h2⟩:=run_equalIn_deep (P:=Tryz.prog) 9997 3 44 ino_key w 4 4 (.agg x.C) (.agg zeroC) _ _ (by unfold Value.formed; rw [Tryz.underlying44,e44]; rfl) (by unfold Value.formed; rw [Tryz.underlying44,e44]; rfl) la lz
  rw [show (10000:Nat)=9997 + 3 from rfl,h1]
  congr 1
  rw [Bool.eq_iff_iff,h2,beq_iff_eq]
  constructor
  · intro e
    injection e with e _
    injection e with _ e
    have e:(x.kind:Int)=0:=e
    omega
  · intro e
    rcases h.sort with ⟨_,hl,hs,hn⟩ | hs | ⟨hs,_⟩
    · have a0:x.v 0=0:=by show (x.kind:Int)=0; omega
      have a1:x.v 1=0:=by show (x.links:Int)=0; omega
      have a2:x.v 2=0:=by show (x.size:Int)=0; omega
      have an:∀ k,k < 12 → x.v (k + 3)=0:=fun k hk => by show (((if k < 12 then x.num k else 0:Nat):Nat):Int)=0; rw [if_pos hk,hn k hk]; rfl
      rw [a0,a1,a2,an 0 (by omega),an 1 (by omega),an 2 (by omega),an 3 (by omega),an 4 (by omega),an 5 (by omega),an 6 (by omega),an 7 (by omega),an 8 (by omega),an 9 (by omega),an 10 (by omega),an 11 (by omega)]
    · omega
    · omega
theorem wpList_eq_ino {ops:Array Oper}{rest:List Oper}{o:Oper}{a:Act}{w:World}{Q:Exit → Act → World → Prop}(hgd:o.guard=none)(x y:Operand)(t:TypeId)(ho:o.op=.binOp .eql 44 x y t)
    (u v:Array Value)(r:Bool)(hx:a.eval x=.agg u)(hy:a.eval y=.agg v)(heq:(Op.equalIn 10000 44 (.agg u) (.agg v)).run Tryz.prog w=.ok r w)
    (h:wpList Tryz.prog ops Q rest (a.put o.dst (.bool r)) w):wpList Tryz.prog ops Q (o :: rest) a w:=by
  refine wpList_plain hgd fun K hK => ?_
  have hrun:(execOp a.eval o).run Tryz.prog w=.ok (.value (.bool r)) w:=by
    simp [execOp,ho,hx,hy,binOp,eqGuard,Op.equal,Result.andThen]
    rw [show Op.maxDepth=10000 from rfl,heq]
  unfold Oper.wp
  rw [hrun]
  exact hK _ _ h
set_option maxRecDepth 100000 in
set_option maxHeartbeats 1600000 in
theorem may_any (x:Ino)(h:x.Ok)(w:World):Calls Tryz.prog 26 #[.agg x.C] w fun e w' => e=.returned (.bool true) ∧ Below w.heap.size w w':=by
  obtain ⟨hb0,i0⟩:=one_new w x.C 44
  obtain ⟨W,hW⟩:∃ W,w.alloc (.cells x.C 44)=W:=⟨_,rfl⟩
  rw [hW] at hb0 i0
  have HB0:=Lib.hid hb0
  have HI0:=Lib.hid i0
  have HO:=Lib.hid h
  have hk:x.kind ≤ 2:=by have:=h.sort; omega
  clear hb0 i0 h
  go_enter Tryz.func26,Tryz.ntmps26
  go_wp2_with (first
    | (refine wpList_load_row rfl 44 (.tmp 1) rfl w.heap.size rfl 44 x.C (0,0) _ HI0.out Tryz.underlying44 rfl size15 ?_)
    | (go_at_call 51; refine (numbers_any x _).mono ?_; rintro e w1 ⟨rfl,hb1⟩; have HB1:=Lib.hid hb1; clear hb1))
  go_loopw [7] (fun i wr => ∃ k:Nat,k ≤ 12 ∧ i=.int .i64 k ∧ Below w.heap.size w wr ∧ Is wr w.heap.size 44 x.C) (fun i _ => 12 - (intOf i).toNat)
  case atStart => exact ⟨0,Nat.zero_le _,rfl,HB0.out.trans (HB1.out.mono HB0.out.size),HI0.out.below HB1.out HI0.out.lt⟩
  case round =>
    obtain ⟨k,hk12,rfl,hB,hI⟩:=hrel
    have HB:=Lib.hid hB
    have HI:=Lib.hid hI
    have ck:wr.cell? ⟨w.heap.size,0,none⟩=some (.int .i64 (x.kind:Int)):=hI.cell 0
    have cl:wr.cell? ⟨w.heap.size,1,none⟩=some (.int .i64 (x.links:Int)):=hI.cell 1
    have cs:wr.cell? ⟨w.heap.size,2,none⟩=some (.int .i64 (x.size:Int)):=hI.cell 2
    clear hB hI
    by_cases hlt:k < 12
    · have hix:=run_index12 wr x k hlt
      have hnum:=HO.out.nums k hlt
      have hW:=Lib.hid (run_within (x.num k:Int) 0 4294967295 wr)
      rw [show (decide ((0:Int) ≤ (x.num k:Int)) && decide ((x.num k:Int) ≤ 4294967295))=true by rw [decide_eq_true (by omega),decide_eq_true (by omega)]; rfl] at hW
      clear hnum
      go_wp2_with (first
        | (go_at_call 52; refine hW.out.mono ?_; rintro e w' ⟨rfl,rfl⟩))
      go_roundw
      case rel => exact ⟨k + 1,by omega,by go_num,HB.out,HI.out⟩
      case measure => simp [intOf]; omega
    · obtain rfl:k=12:=by omega
      have heq:=run_equal_ino x HO.out wr
      have hl0:=HO.out.links
      have hs0:=HO.out.size
      have c1:=run_within (x.links:Int) 0 1000 wr
      rw [show (decide ((0:Int) ≤ (x.links:Int)) && decide ((x.links:Int) ≤ 1000))=true by rw [decide_eq_true (by omega),decide_eq_true (by omega)]; rfl] at c1
      have c2:=run_within (x.size:Int) 0 8459264 wr
      rw [show (decide ((0:Int) ≤ (x.size:Int)) && decide ((x.size:Int) ≤ 8459264))=true by rw [decide_eq_true (by omega),decide_eq_true (by omega)]; rfl] at c2
      have C1:=Lib.hid c1
      have C2:=Lib.hid c2
      rcases HO.out.sort with ⟨h0,hl,hs,hn⟩ | h1 | ⟨h2,hl,hs⟩
      · rw [h0] at ck heq
        have heq:(Op.equalIn 10000 44 (.agg x.C) (.agg zeroC)).run Tryz.prog wr=.ok true wr:=heq
        have HEQ:=Lib.hid heq
        clear c1 c2 hl0 hs0 hl hs cl cs hlt heq
        go_wp2_with (first
          | (refine wpList_load_row rfl 44 (.tmp 1) rfl w.heap.size rfl 44 x.C (0,0) _ HI.out Tryz.underlying44 rfl size15 ?_)
          | (refine wpList_eq_ino rfl (.tmp 18) (.tmp 19) _ rfl x.C zeroC true rfl rfl HEQ.out ?_))
        go_ret
        exact ⟨rfl,HB.out⟩
      · rw [h1] at ck
        clear c1 c2 hl0 hs0 heq hlt
        go_wp2_with (first
          | (go_at_call 52; with_reducible refine C1.out.mono ?_; rintro e w' ⟨rfl,rfl⟩)
          | (go_at_call 52; with_reducible refine C2.out.mono ?_; rintro e w' ⟨rfl,rfl⟩))
        go_ret
        exact ⟨rfl,HB.out⟩
      · rw [h2] at ck
        rw [hs] at cs
        have c3:=run_within (x.links:Int) 2 65535 wr
        rw [show (decide ((2:Int) ≤ (x.links:Int)) && decide ((x.links:Int) ≤ 65535))=true by rw [decide_eq_true (by omega),decide_eq_true (by omega)]; rfl] at c3
        have c4:=run_within 0 0 8459264 wr
        rw [show (decide ((0:Int) ≤ 0) && decide ((0:Int) ≤ 8459264))=true from rfl] at c4
        have C3:=Lib.hid c3
        have C4:=Lib.hid c4
        clear c1 c2 c3 c4 hl0 hs0 heq hlt hl hs
        go_wp2_with (first
          | (go_at_call 52; with_reducible refine C3.out.mono ?_; rintro e w' ⟨rfl,rfl⟩)
          | (go_at_call 52; with_reducible refine C4.out.mono ?_; rintro e w' ⟨rfl,rfl⟩))
        go_ret
        exact ⟨rfl,HB.out⟩
end Go.Proofs.YthkijogloebdoaaGreatDoor
end
