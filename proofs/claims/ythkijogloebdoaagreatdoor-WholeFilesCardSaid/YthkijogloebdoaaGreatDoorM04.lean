/-
  WholeFiles, the texts QDw4 QDw5 QCl QDw6: lemmas for the proof that three files on one disk are plain rows of bytes. No conditions.
-/
import Derived.Test.YthkijogloebdoaaGreatDoorM03
import Derived.Deep.RegionHeld3
import Derived.Laws.EntriesVeiled
import Derived.Great.BuildSlice
import Derived.Deep.CutRange
set_option linter.unusedVariables false
set_option linter.unusedSimpArgs false
section
namespace Go.Proofs.YthkijogloebdoaaGreatDoor
open Go.RowKit
theorem KeepAt.at_ {w:World}{base:Nat}{K:Option Addr}{l:List Bool}(h:KeepAt w base K l){k:Nat}(hk:k < l.length):∃ b off,K=some ⟨b,off,none⟩ ∧ w.cell? ⟨b,off + k,none⟩=some (.bool l[k]):=by
  rcases h with rfl | ⟨b,off,rfl,_,hc⟩
  · simp at hk
  · exact ⟨b,off,rfl,hc k hk⟩
theorem DiskAt.a_ne {w:World}{base a d:Nat}{D:Dk}(h:DiskAt w base a d D):a ≠ d ∧ base ≤ a ∧ ∃ cur,Is w a 72 cur:=by
  obtain ⟨hO,hd,cA,P,cp,K,ck,wr,fl,T,tn,ct,tc,hI,hA,hP,hK,hT,hn⟩:=h
  obtain ⟨hb,cur,hi⟩:=hA.typed a rfl
  refine ⟨fun e => ?_,hb,cur,hi⟩
  rw [← e] at hI
  have h6:=hi.symm.trans hI
  injection h6 with h6
  injection h6 with _ h6
  exact absurd h6 (by decide)
theorem ne_a {w:World}{a:Nat}(hA:∃ cur,Is w a 72 cur){t:TypeId}{g:Nat}(ht:t ≠ 72)(hg:∃ cur,Is w g t cur):some g ≠ some a:=fun e => by
  injection e with e
  subst e
  obtain ⟨cur,hi⟩:=hA
  obtain ⟨cur2,hi2⟩:=hg
  have h6:=hi2.symm.trans hi
  injection h6 with h6
  injection h6 with _ h6
  exact ht h6
theorem setC_cell (w:World)(g o:Nat)(vs:List Value)(b i:Nat)(h:b ≠ g):(w.setCells g o vs).cell? ⟨b,i,none⟩=w.cell? ⟨b,i,none⟩:=World.cell?_of_block (a:=⟨b,i,none⟩) (heap_setCells_other g vs w o b h)
set_option maxRecDepth 100000 in
set_option maxHeartbeats 3200000 in
theorem dcut_any (base a d:Nat)(D:Dk)(Kp:Option Addr)(kc:Nat)(l:List Bool)(w:World)(h:DiskAt w base a d D)(hk:KeepAt w base Kp l)(hl:l.length ≤ 9223372036854775807) :
    Calls Tryz.prog 164 #[.pointer (some ⟨d,0,none⟩),.slice Kp l.length kc] w fun e w' => e=.returned (.tuple #[]) ∧ DiskAt w' base a d (D.cut l) ∧ KT (some a) base diskT w w':=by
  obtain ⟨hane,hab,hisA⟩:=h.a_ne
  have HNE:=Lib.hid hane
  have HIA:=Lib.hid hisA
  have HKp:=Lib.hid hk
  obtain ⟨hO,hd,cA,P,cp,K,ck,wrt,flt,T,tn,ct,tc,hI,hA,hP,hK,hT,hn⟩:=h
  obtain ⟨c0,c1,c2,c3,c4,c5,c6,c7⟩:=dcells hI
  have HO:=Lib.hid hO
  have HP:=Lib.hid hP
  have HI:=Lib.hid hI
  have HA:=Lib.hid hA
  have HK:=Lib.hid hK
  have HT:=Lib.hid hT
  have hN:D.lasts.length ≤ 16384:=hO.2.1
  have hpl:D.pend.length ≤ 9223372036854775807:=by have:=hP.cap_le; simp only [maxLen] at this; omega
  obtain ⟨m,hm,hml,hmp⟩:=min_two l.length D.pend.length
  have hmm:m=min l.length D.pend.length:=by
    split at hm <;> omega
  have HMM:=Lib.hid hmm
  clear hO hA hP hK hT hI hk hane hisA hmm
  go_enter Tryz.func164,Tryz.ntmps164
  go_wp2_with (refine wpList_min2 rfl _ _ _ rfl (l.length:Int) (D.pend.length:Int) rfl rfl (m:Int) hm ?_)
  clear hm
  go_loopw [14] (fun i' wr => ∃ k:Nat,k ≤ m ∧ i'=.int .i64 k ∧ Own wr base 72 512 (some ⟨a,0,none⟩) D.lasts.length cA (secC (Dk.kept D.lasts D.pend l k)) ∧ KT (some a) base [] w wr) (fun i' _ => m - (intOf i').toNat)
  case atStart => exact ⟨0,Nat.zero_le _,rfl,HA.out,KT.refl _ _ _ _⟩
  case round =>
    obtain ⟨k,hk,rfl,hOw,hKT⟩:=hrel
    have HOw:=Lib.hid hOw
    have HKT:=Lib.hid hKT
    have hIr:=HI.out.kt hKT (.inr ⟨ne_a HIA.out (by decide) ⟨_,HI.out⟩,by simp⟩)
    have hPr:=HP.out.kt hKT (by simp) (fun g hg => ne_a HIA.out (by decide) (HP.out.typed g hg).2)
    have hKr:=HKp.out.kt hKT (by simp) (fun b e ⟨cs,t,f,q1,q2⟩ => by
      injection e with e
      subst e
      obtain ⟨cur,hi⟩:=HIA.out
      rw [show w.heap[a]? = _ from hi] at q1
      injection q1 with q1
      injection q1 with _ q1
      simp at q2
      rw [q2] at q1
      exact absurd q1 (by decide))
    obtain ⟨r0,r1,r2,r3,r4,r5,r6,r7⟩:=dcells hIr
    have HIr:=Lib.hid hIr
    have HPr:=Lib.hid hPr
    have HKr:=Lib.hid hKr
    have hsr:=hKT.size
    clear hOw hKT hIr hPr hKr r2 r3 r4 r5 r6 r7
    by_cases hlt:k < m
    · have hk0:(k:Int) < (m:Int):=by omega
      have hk1:(0:Int) ≤ (k:Int):=by omega
      have hkp:k < D.pend.length:=by omega
      have hkl:k < l.length:=by omega
      have hkp0:(k:Int) < (D.pend.length:Int):=by omega
      have hkl0:(k:Int) < (l.length:Int):=by omega
      obtain ⟨gp,hgp,_,_⟩:=HPr.out.form (by omega)
      subst hgp
      obtain ⟨bk,bo,rfl,hcb⟩:=HKr.out.at_ hkl
      obtain ⟨hrg,hl513⟩:=pen_range HO.out HPr.out hkp
      have hx:=HO.out.2.2.2.1 _ (List.getElem_mem hkp)
      have harm:∀ w8,Is w8 wr.heap.size 189 (penCell D.pend[k]).toArray → w8.cell? ⟨wr.heap.size,0,none⟩=some (.int .i64 (D.pend[k].1:Int)) ∧ w8.rangeAt wr.heap.size 1 (cellsOf8 D.pend[k].2):=fun w8 h1 => ⟨h1.cell 0,fun j v hv => by rw [h1.cell (1 + j)]; simp [penCell,Nat.add_comm 1 j]; exact hv⟩
      have h1c:(penCell D.pend[k]).toArray.all (·.oneCell')=true:=all_oneCell_toArray (penCell_one _)
      have hget:l.getD k false=l[k]:=by rw [List.getD_eq_getElem?_getD,List.getElem?_eq_getElem hkl]; rfl
      have hyes:=Dk.kept_yes (l:=D.lasts) (p:=D.pend) (keep:=l) (k:=k) hkp
      have hno:=Dk.kept_no (l:=D.lasts) (p:=D.pend) (keep:=l) (k:=k)
      rw [hget] at hyes hno
      obtain ⟨pc,hpe⟩:∃ pc,penCell D.pend[k]=pc:=⟨_,rfl⟩
      obtain ⟨xi,hxi⟩:∃ xi,D.pend[k].1=xi:=⟨_,rfl⟩
      obtain ⟨xb,hxb⟩:∃ xb,D.pend[k].2=xb:=⟨_,rfl⟩
      obtain ⟨lk,hlk⟩:∃ lk,l[k]=lk:=⟨_,rfl⟩
      rw [hpe] at hrg hl513 harm h1c
      rw [hxi,hxb] at harm hyes hx
      rw [hlk] at hcb hyes hno
      have H1C:=Lib.hid h1c
      have HARM:=Lib.hid harm
      have HRG:=Lib.hid hrg
      have HL:=Lib.hid hl513
      have HY:=Lib.hid hyes
      have HN:=Lib.hid hno
      have HX:=Lib.hid hx
      have hcbb:=block_lt_of_cell hcb
      have r0b:=block_lt_of_cell r0
      clear hrg hl513 hpe harm h1c hlt hxi hxb hlk hyes hno hx hget hkp hkl
      cases lk with
      | false =>
        go_wp2_with (first
          | (refine wpList_load_mid rfl 189 (.tmp 22) (by rfl) gp (k * 513) (by rfl) _ _ HRG.out Tryz.underlying189 rfl (by rw [HL.out]; exact infoPen) ?_)
          | (refine wpList_store_row rfl 189 (.tmp 5) (.tmp 23) rfl wr.heap.size pc.toArray (by rfl) (by rfl) 189 _ (Is.new wr _ _) (by rw [List.size_toArray,HL.out]; exact infoPen) (Tryz.zeroCells189_size.trans (show 513=pc.toArray.size by rw [List.size_toArray,HL.out])) H1C.out ?_
             have q3:=below_setRow (below_new wr (.cells Tryz.zeroCells189 189)) (Nat.le_refl _) pc.toArray
             generalize (World.setRow (wr.alloc (.cells Tryz.zeroCells189 189)) wr.heap.size pc.toArray)=w8 at q3 ⊢
             have Q3:=Lib.hid q3
             have hcb8:w8.cell? ⟨bk,bo + k,none⟩=some (.bool false):=(q3.cell (p:=⟨bk,bo + k,none⟩) hcbb).trans hcb
             clear q3))
        go_roundw
        case rel => exact ⟨k + 1,by omega,by go_num,by rw [HN.out (by trivial)]; exact HOw.out.later Q3.out,HKT.out.trans (KT.of_below Q3.out (Nat.le_refl _))⟩
        case measure => simp [intOf]; omega
      | true =>
        go_wp2_with (first
          | (refine wpList_load_mid rfl 189 (.tmp 22) (by rfl) gp (k * 513) (by rfl) _ _ HRG.out Tryz.underlying189 rfl (by rw [HL.out]; exact infoPen) ?_)
          | (refine wpList_store_row rfl 189 (.tmp 5) (.tmp 23) rfl wr.heap.size pc.toArray (by rfl) (by rfl) 189 _ (Is.new wr _ _) (by rw [List.size_toArray,HL.out]; exact infoPen) (Tryz.zeroCells189_size.trans (show 513=pc.toArray.size by rw [List.size_toArray,HL.out])) H1C.out ?_
             obtain ⟨q1,q2⟩:=HARM.out _ ((Is.new wr 189 Tryz.zeroCells189).row pc.toArray)
             have q3:=below_setRow (below_new wr (.cells Tryz.zeroCells189 189)) (Nat.le_refl _) pc.toArray
             generalize (World.setRow (wr.alloc (.cells Tryz.zeroCells189 189)) wr.heap.size pc.toArray)=w8 at q1 q2 q3 ⊢
             have Q2:=Lib.hid q2
             have Q3:=Lib.hid q3
             have hcb8:w8.cell? ⟨bk,bo + k,none⟩=some (.bool true):=(q3.cell (p:=⟨bk,bo + k,none⟩) hcbb).trans hcb
             have r08:w8.cell? ⟨d,0,none⟩=some (.slice (some ⟨a,0,none⟩) D.lasts.length cA):=(q3.cell (p:=⟨d,0,none⟩) r0b).trans r0
             clear q2 q3))
        have hxi0:(0:Int) ≤ (xi:Int):=by omega
        have hxi1:(xi:Int) < (D.lasts.length:Int):=by have:=HX.out.1; omega
        have q2:=Q2.out
        have hOw8:=HOw.out.later Q3.out
        have hth:w8.there a (xi * 512) 512:=hOw8.there _ _ (by have:=HX.out.1; omega)
        have hu:=Tryz.underlying72
        have hcl:(cellsOf8 xb).length=512:=by rw [cellsOf8_length]; exact HX.out.2
        have hi:(Tryz.prog.info? 72).map (·.size)=some (cellsOf8 xb).length:=by rw [hcl]; exact infoSec
        have h1:=cellsOf8_one xb
        have HOw8:=Lib.hid hOw8
        have hda:d ≠ a:=fun e => HNE.out e.symm
        have hga:wr.heap.size ≠ a:=by have:=HOw.out.lt a rfl; omega
        clear hOw8
        go_region_held3 (fun w' => w'.cell? ⟨d,0,none⟩=some (.slice (some ⟨a,0,none⟩) D.lasts.length cA) ∧ w'.cell? ⟨wr.heap.size,0,none⟩=some (.int .i64 (xi:Int)) ∧ w'.rangeAt wr.heap.size 1 (cellsOf8 xb) ∧ w'.there a (xi * 512) 512) (first | go_keep_ranges | (go_split_ands; refine ⟨?_,?_,?_,?_⟩; exact (setC_cell _ _ _ _ _ _ hda).trans (by assumption); exact (setC_cell _ _ _ _ _ _ hga).trans (by assumption); exact World.rangeAt_setCells_apart (by assumption) _ _ _ (.inl hga); exact World.there_setCells (by assumption) _ _ _)) (fail)
        have HOq:=Lib.hid (show Own (w8.drew.setCells a (xi * 512) (cellsOf8 xb)) base 72 512 (some ⟨a,0,none⟩) D.lasts.length cA (secC (Dk.kept D.lasts D.pend l (k + 1))) from by
          rw [HY.out (by trivial)]
          have:=(show Own w8.drew base 72 512 (some ⟨a,0,none⟩) D.lasts.length cA (secC (Dk.kept D.lasts D.pend l k)) from HOw8.out).puts (cellsOf8 xb) (xi * 512)
          have e:setList (secC (Dk.kept D.lasts D.pend l k)) (xi * 512) (cellsOf8 xb)=secC ((Dk.kept D.lasts D.pend l k).set xi xb) :=
            flat_set cellsOf8 512 _ (cell8_512 (Dk.kept_512 _ _ _ HO.out.2.2.1 (fun x hx => (HO.out.2.2.2.1 x hx).2) k)) xi (by rw [Dk.kept_length]; exact HX.out.1) xb (by rw [cellsOf8_length]; exact HX.out.2)
          rw [e] at this
          exact this)
        have HKq:=Lib.hid (show KT (some a) base [] w (w8.drew.setCells a (xi * 512) (cellsOf8 xb)) from by
          obtain ⟨_,cur,hi8⟩:=HOw8.out.typed a rfl
          exact (HKT.out.trans (KT.of_below Q3.out (Nat.le_refl _))).trans ((KT.drew w8).trans (KT.setCells (w:=w8.drew) hi8 hab (.inl rfl) (cellsOf8 xb))))
        clear hu hi h1 hcl q2 hth
        go_wp2_with fail
        go_roundw
        case rel => exact ⟨k + 1,by omega,by go_num,HOq.out,HKq.out⟩
        case measure => simp [intOf]; omega
    · obtain rfl:m=k:=by omega
      have e1:=HIr.out.cell 1
      have e2:=HIr.out.cell 2
      have e3:=HIr.out.cell 3
      have e4:=HIr.out.cell 4
      have f1:=HIr.out.free 1
      have f2:=HIr.out.free 2
      have f3:=HIr.out.free 3
      have f4:=HIr.out.free 4
      go_wp2_with fail
      go_end0
      have h1:=HIr.out.put 1 (.slice none 0 0)
      have h2:=h1.put 3 (.slice none 0 0)
      have h3:=h2.put 2 (.int .i64 0)
      have h4:=h3.put 4 (.bool true)
      have k1:=KT.setCell (a:=some a) (i:=1) HIr.out hd (.inr (show 70 ∈ diskT by simp [diskT])) (.slice none 0 0)
      have k2:=KT.setCell (a:=some a) (i:=3) h1 hd (.inr (show 70 ∈ diskT by simp [diskT])) (.slice none 0 0)
      have k3:=KT.setCell (a:=some a) (i:=2) h2 hd (.inr (show 70 ∈ diskT by simp [diskT])) (.int .i64 0)
      have k4:=KT.setCell (a:=some a) (i:=4) h3 hd (.inr (show 70 ∈ diskT by simp [diskT])) (.bool true)
      have hK4:=((k1.trans k2).trans k3).trans k4
      have hcutl:(D.cut l).lasts.length=D.lasts.length:=Dk.kept_length _ _ _ _
      refine ⟨rfl,⟨HO.out.cut l,hd,cA,none,0,none,0,wrt,flt,T,tn,ct,tc,?_,?_,Own.nil _ _ _ _,.inl rfl,?_,hn⟩,(HKT.out.mono (fun t ht => by cases ht)).trans hK4⟩
      · rw [hcutl]; exact h4
      · rw [hcutl]
        have e:secC (D.cut l).lasts=secC (Dk.kept D.lasts D.pend l m):=by rw [HMM.out]; rfl
        rw [e]
        have o1:=HOw.out.keeps (S:=fun i => i=d) (w2:=(((wr.setCell ⟨d,1,none⟩ (.slice none 0 0)).setCell ⟨d,3,none⟩ (.slice none 0 0)).setCell ⟨d,2,none⟩ (.int .i64 0)).setCell ⟨d,4,none⟩ (.bool true))
          ⟨rfl,rfl,rfl,hK4.size,fun i _ hi => (heap_setCell_other _ ⟨d,4,none⟩ i _ hi).trans ((heap_setCell_other _ ⟨d,2,none⟩ i _ hi).trans ((heap_setCell_other _ ⟨d,3,none⟩ i _ hi).trans (heap_setCell_other _ ⟨d,1,none⟩ i _ hi)))⟩
          (fun i hi e => HNE.out (by injection hi with hi; injection hi with hi; omega))
        exact o1
      · exact (HT.out.kt HKT.out (by simp) (fun g hg => ne_a HIA.out (by decide) (HT.out.typed g hg).2)).keeps (S:=fun i => i=d)
          ⟨rfl,rfl,rfl,hK4.size,fun i _ hi => (heap_setCell_other _ ⟨d,4,none⟩ i _ hi).trans ((heap_setCell_other _ ⟨d,2,none⟩ i _ hi).trans ((heap_setCell_other _ ⟨d,3,none⟩ i _ hi).trans (heap_setCell_other _ ⟨d,1,none⟩ i _ hi)))⟩
          (fun i hi e => by
            obtain ⟨_,cur,h5⟩:=HT.out.typed i hi
            rw [e] at h5
            have h6:=h5.symm.trans HI.out
            injection h6 with h6
            injection h6 with _ h6
            exact absurd h6 (by decide))
end Go.Proofs.YthkijogloebdoaaGreatDoor
end
section
namespace Go.Proofs.YthkijogloebdoaaGreatDoor
open Go.RowKit
theorem underFn:∃ p r v,Tryz.prog.underlying 1=some (.func p r v):=⟨#[],#[],false,by kernel_rfl⟩
theorem run_fneq_in (w:World)(d:Nat)(f:Fn)(r c:Array Value):(Op.equalIn (d + 1) 1 (.func f r c) .nilFunc).run Tryz.prog w=.ok false w:=by
  obtain ⟨p,r',v,hu⟩:=underFn
  simp [Op.equalIn,hu]
theorem run_fneq_in0 (w:World)(d:Nat):(Op.equalIn (d + 1) 1 .nilFunc .nilFunc).run Tryz.prog w=.ok true w:=by
  obtain ⟨p,r',v,hu⟩:=underFn
  simp [Op.equalIn,hu]
theorem run_fneq (w:World)(f:Fn)(r c:Array Value):(binOp .neq 1 (.func f r c) .nilFunc).run Tryz.prog w=.ok (.bool true) w:=by
  have h:=run_fneq_in w 9999 f r c
  show (do pure (.bool (!(← Op.equal 1 (.func f r c) .nilFunc))):Sem Value).run Tryz.prog w=_
  rw [Sem.run_bind]
  show ((Op.equalIn (9999 + 1) 1 (.func f r c) .nilFunc).run Tryz.prog w).andThen _=_
  rw [h]
  rfl
theorem run_fneq0 (w:World):(binOp .neq 1 .nilFunc .nilFunc).run Tryz.prog w=.ok (.bool false) w:=by
  have h:=run_fneq_in0 w 9999
  show (do pure (.bool (!(← Op.equal 1 .nilFunc .nilFunc))):Sem Value).run Tryz.prog w=_
  rw [Sem.run_bind]
  show ((Op.equalIn (9999 + 1) 1 .nilFunc .nilFunc).run Tryz.prog w).andThen _=_
  rw [h]
  rfl
attribute [local go_sem] run_fneq run_fneq0
def Dk.less (D:Dk):Dk := { D with left:=D.left - 1 }
theorem diskAt_put {w:World}{base a d:Nat}{D:Dk}(hd:base ≤ d){cs:Array Value}(hI:Is w d 70 cs)(i:Nat)(u:Value) :
    KT (some a) base diskT w (w.setCell ⟨d,i,none⟩ u) ∧ Is (w.setCell ⟨d,i,none⟩ u) d 70 (cs.setIfInBounds i u) :=
  ⟨KT.setCell hI hd (.inr (by simp [diskT])) u,hI.put i u⟩
theorem Own.putD {w:World}{base k n cap d:Nat}{t:TypeId}{A:Option Addr}{cs:List Value}{ds:Array Value}(h:Own w base t k A n cap cs)(hI:Is w d 70 ds)(ht:t ≠ 70)(i:Nat)(u:Value):Own (w.setCell ⟨d,i,none⟩ u) base t k A n cap cs :=
  h.kept fun g hg => heap_setCell_other w ⟨d,i,none⟩ g u (fun e => by
    have e:g=d:=e
    subst e
    obtain ⟨_,cur,hi⟩:=h.typed g hg
    have h6:=hi.symm.trans hI
    injection h6 with h6
    injection h6 with _ h6
    exact ht h6)
theorem KeepAt.putD {w:World}{base d:Nat}{K:Option Addr}{l:List Bool}{ds:Array Value}(h:KeepAt w base K l)(hI:Is w d 70 ds)(hd:base ≤ d)(i:Nat)(u:Value):KeepAt (w.setCell ⟨d,i,none⟩ u) base K l :=
  h.kt (KT.setCell (a:=some d) (Ts := []) hI hd (.inl rfl) u) (by simp) (fun b e ⟨cs,t,f,h1,h2⟩ => by
    injection e with e
    subst e
    rw [show w.heap[d]? = _ from hI] at h1
    injection h1 with h1
    injection h1 with _ h1
    simp at h2
    rw [h2] at h1
    exact absurd h1 (by decide))
theorem left_stored {w:World}{base a d:Nat}{D:Dk}(h:DiskAt w base a d D)(v:Nat)(hv:v ≤ 9223372036854775807):DiskAt (w.setCell ⟨d,2,none⟩ (.int .i64 (v:Int))) base a d { D with left:=v }:=by
  obtain ⟨hO,hd,cA,P,cp,K,ck,wrt,flt,T,tn,ct,tc,hI,hA,hP,hK,hT,hn⟩:=h
  exact ⟨⟨hO.1,hO.2.1,hO.2.2.1,hO.2.2.2.1,hO.2.2.2.2.1,hv,hO.2.2.2.2.2.2⟩,hd,cA,P,cp,K,ck,wrt,flt,T,tn,ct,tc,hI.put 2 (.int .i64 (v:Int)),hA.putD hI (by decide) _ _,hP.putD hI (by decide) _ _,hK.putD hI hd _ _,hT.putD hI (by decide) _ _,hn⟩
theorem DiskAt.kt1 {w:World}{base a d:Nat}{D:Dk}(h:DiskAt w base a d D)(i:Nat)(u:Value):KT (some a) base diskT w (w.setCell ⟨d,i,none⟩ u):=by
  obtain ⟨hO,hd,cA,P,cp,K,ck,wrt,flt,T,tn,ct,tc,hI,hA,hP,hK,hT,hn⟩:=h
  exact (diskAt_put (D:=D) hd hI i u).1
theorem Dk.less_zero {D:Dk}(h:D.left=0):D.less=D:=by cases D; simp only [Dk.less] at *; simp [h]
theorem DiskAt.keeps {w:World}{base a d:Nat}{D:Dk}(h:DiskAt w base a d D):∃ K ck,w.cell? ⟨d,3,none⟩=some (.slice K D.keep.length ck) ∧ KeepAt w base K D.keep:=by
  obtain ⟨hO,hd,cA,P,cp,K,ck,wrt,flt,T,tn,ct,tc,hI,hA,hP,hK,hT,hn⟩:=h
  exact ⟨K,ck,hI.cell 3,hK⟩
theorem DiskAt.cell2 {w:World}{base a d:Nat}{D:Dk}(h:DiskAt w base a d D):w.cell? ⟨d,2,none⟩=some (.int .i64 (D.left:Int)) ∧ w.frozen? ⟨d,2,none⟩=false:=by
  obtain ⟨hO,hd,cA,P,cp,K,ck,wrt,flt,T,tn,ct,tc,hI,hA,hP,hK,hT,hn⟩:=h
  exact ⟨hI.cell 2,hI.free 2⟩
set_option maxHeartbeats 1600000 in
set_option maxRecDepth 100000 in
theorem dstep_cut (base a d:Nat)(D:Dk)(done:Value)(w:World)(h:DiskAt w base a d D)(h1:D.left=1) :
    Calls Tryz.prog 152 #[.pointer (some ⟨d,0,none⟩),done] w fun e w' => e=.returned (.int .i64 30) ∧ DiskAt w' base a d (D.cut D.keep) ∧ KT (some a) base diskT w w':=by
  obtain ⟨c2,f2⟩:=h.cell2
  rw [h1,show ((1:Nat):Int)=1 from rfl] at c2
  have hl:=left_stored h 0 (by decide)
  obtain ⟨K,ck,c3,hK⟩:=hl.keeps
  have HL:=Lib.hid hl
  have HK:=Lib.hid hK
  have HKT:=Lib.hid (h.kt1 2 (.int .i64 ((0:Nat):Int)))
  have HO:=Lib.hid h.1
  rw [show ((0:Nat):Int)=0 from rfl] at c3 HL HK HKT
  have c2':(w.setCell ⟨d,2,none⟩ (.int .i64 0)).cell? ⟨d,2,none⟩=some (.int .i64 0):=World.cell?_setCell_same' _ _ _ (by rw [c2]; rfl)
  clear h hl hK h1
  go_enter Tryz.func152,Tryz.ntmps152
  go_wp2_with (go_at_call 164; refine (dcut_any base a d _ K ck D.keep _ HL.out HK.out HO.out.2.2.2.2.2.2).mono ?_; rintro e w2 ⟨rfl,hD2,hk2⟩; have HD2:=Lib.hid hD2; have HK2:=Lib.hid hk2; clear hD2 hk2)
  go_ret
  exact ⟨rfl,HD2.out,HKT.out.trans HK2.out⟩
set_option maxHeartbeats 1600000 in
set_option maxRecDepth 100000 in
theorem dstep_nil (base a d:Nat)(D:Dk)(w:World)(h:DiskAt w base a d D)(h1:D.left ≠ 1) :
    Calls Tryz.prog 152 #[.pointer (some ⟨d,0,none⟩),.nilFunc] w fun e w' => e=.returned (.int .i64 0) ∧ DiskAt w' base a d D.less ∧ KT (some a) base diskT w w':=by
  obtain ⟨c2,f2⟩:=h.cell2
  have hlm:=h.1.2.2.2.2.2.1
  by_cases h0:D.left=0
  · have HF:=Lib.hid (show DiskAt w base a d D.less by rw [Dk.less_zero h0]; exact h)
    rw [h0,show ((0:Nat):Int)=0 from rfl] at c2
    clear h h0 h1 hlm
    go_enter Tryz.func152,Tryz.ntmps152
    go_wp2_with fail
    go_ret
    exact ⟨rfl,HF.out,KT.refl _ _ _ _⟩
  · obtain ⟨v,hv⟩:∃ v,D.left=v + 1:=⟨D.left - 1,by omega⟩
    have HF:=Lib.hid (show DiskAt (w.setCell ⟨d,2,none⟩ (.int .i64 (v:Int))) base a d D.less by have:=left_stored h v (by omega); rw [show D.less = { D with left:=v } by unfold Dk.less; rw [hv]; rfl]; exact this)
    have HKT:=Lib.hid (h.kt1 2 (.int .i64 (v:Int)))
    have hv0:(v:Int) ≤ 9223372036854775806:=by omega
    have hv1:((v:Int) == 0)=false:=by rw [beq_eq_false_iff_ne]; omega
    rw [hv,show ((v + 1:Nat):Int)=(v:Int) + 1 by omega] at c2
    have c2':(w.setCell ⟨d,2,none⟩ (.int .i64 (v:Int))).cell? ⟨d,2,none⟩=some (.int .i64 (v:Int)):=World.cell?_setCell_same' _ _ _ (by rw [c2]; rfl)
    have hpos:(0:Int) < (v:Int) + 1:=by omega
    clear h h0 h1 hlm hv
    go_enter Tryz.func152,Tryz.ntmps152
    go_wp2_with fail
    go_ret
    exact ⟨rfl,HF.out,HKT.out⟩
set_option maxHeartbeats 1600000 in
set_option maxRecDepth 100000 in
theorem dstep_fn (base a d bx:Nat)(D:Dk)(w:World)(h:DiskAt w base a d D)(h1:D.left ≠ 1)(R:World → Prop)
    (hf:∀ W,DiskAt W base a d D.less → KT (some a) base diskT w W → Calls Tryz.prog 153 #[.pointer (some ⟨bx,0,none⟩)] W fun e W' => e=.returned (.tuple #[]) ∧ R W') :
    Calls Tryz.prog 152 #[.pointer (some ⟨d,0,none⟩),.func (.func 153) #[] #[.pointer (some ⟨bx,0,none⟩)]] w fun e w' => e=.returned (.int .i64 0) ∧ R w':=by
  obtain ⟨c2,f2⟩:=h.cell2
  have hlm:=h.1.2.2.2.2.2.1
  by_cases h0:D.left=0
  · have HF:=Lib.hid (hf w (by rw [Dk.less_zero h0]; exact h) (KT.refl _ _ _ _))
    rw [h0,show ((0:Nat):Int)=0 from rfl] at c2
    clear h h0 h1 hlm hf
    go_enter Tryz.func152,Tryz.ntmps152
    go_wp2_with (go_at_call 153; refine HF.out.mono ?_; rintro e w2 ⟨rfl,hr⟩; have HR:=Lib.hid hr; clear hr)
    go_ret
    exact ⟨rfl,HR.out⟩
  · obtain ⟨v,hv⟩:∃ v,D.left=v + 1:=⟨D.left - 1,by omega⟩
    have HF:=Lib.hid (hf (w.setCell ⟨d,2,none⟩ (.int .i64 (v:Int))) (by have:=left_stored h v (by omega); rw [show D.less = { D with left:=v } by unfold Dk.less; rw [hv]; rfl]; exact this) (h.kt1 2 (.int .i64 (v:Int))))
    have hv0:(v:Int) ≤ 9223372036854775806:=by omega
    have hv1:((v:Int) == 0)=false:=by rw [beq_eq_false_iff_ne]; omega
    rw [hv,show ((v + 1:Nat):Int)=(v:Int) + 1 by omega] at c2
    have c2':(w.setCell ⟨d,2,none⟩ (.int .i64 (v:Int))).cell? ⟨d,2,none⟩=some (.int .i64 (v:Int)):=World.cell?_setCell_same' _ _ _ (by rw [c2]; rfl)
    have hpos:(0:Int) < (v:Int) + 1:=by omega
    clear h h0 h1 hlm hv hf
    go_enter Tryz.func152,Tryz.ntmps152
    go_wp2_with (go_at_call 153; refine HF.out.mono ?_; rintro e w2 ⟨rfl,hr⟩; have HR:=Lib.hid hr; clear hr)
    go_ret
    exact ⟨rfl,HR.out⟩
end Go.Proofs.YthkijogloebdoaaGreatDoor
end
section
namespace Go.Proofs.YthkijogloebdoaaGreatDoor
open Go.RowKit
def penSem (u v:Value):Sem Next:=do let r ← Instr.build 189 #[(0,u),(1,v)]; pure (.value r)
def bslSem (v:Value):Sem Next:=do let r ← Instr.buildSlice 66 1 #[(0,v)]; pure (.value r)
theorem exec_pen (ρ:Operand → Value) d (x y:Operand) ty pos af g :
    execOp ρ { dst:=d,op:=.build 189 #[(0,x),(1,y)],type:=ty,pos:=pos,after:=af,guard:=g }=penSem (ρ x) (ρ y):=by
  simp [execOp,penSem]
theorem exec_bsl (ρ:Operand → Value) d (x:Operand) ty pos af g :
    execOp ρ { dst:=d,op:=.buildSlice 66 1 #[(0,x)],type:=ty,pos:=pos,after:=af,guard:=g }=bslSem (ρ x):=by
  simp [execOp,bslSem]
theorem infoPenZ:∃ i z,Tryz.prog.info? 189=some i ∧ i.zero=some z ∧ i.size=513 ∧ i.bytes=520 ∧ z.cells.size=513:=by
  cases h:Tryz.prog.info? 189 with
  | none => exact absurd (show (Tryz.prog.info? 189).isSome=true by kernel_rfl) (by rw [h]; decide)
  | some i =>
    have h1:(Tryz.prog.info? 189).map (fun i => (i.size,i.bytes,(i.zero.map fun z => z.cells.size)))=some (513,520,some 513):=by kernel_rfl
    rw [h] at h1
    simp only [Option.map_some,Option.some.injEq,Prod.mk.injEq] at h1
    obtain ⟨a1,a2,a3⟩:=h1
    cases hz:i.zero with
    | none => rw [hz] at a3; cases a3
    | some z =>
      rw [hz] at a3
      simp only [Option.map_some,Option.some.injEq] at a3
      exact ⟨i,z,rfl,hz,a1,a2,a3⟩
theorem pen_fields:∃ fs:Array Field,Tryz.prog.underlying 189=some (.struct fs) ∧ fs.toList.mapM (fun f => (Tryz.prog.info? f.type).map fun i => (f.offset,i.size))=some [(0,1),(1,512)]:=⟨_,Tryz.underlying189,by kernel_rfl⟩
set_option maxRecDepth 100000 in
theorem pen_built (i:Int)(c:List Value)(hc:c.length=512):Tryz.prog.built 189 [(0,.int .i64 i),(1,.agg c.toArray)]=some (Value.int .i64 i :: c).toArray:=by
  obtain ⟨i0,z,hi0,hz,h1,h2,h3⟩:=infoPenZ
  obtain ⟨fs,hu,hp⟩:=pen_fields
  unfold Program.built
  simp only [hi0,hu,hz,hp]
  have hs1:(Value.int .i64 i).cells=#[.int .i64 i]:=rfl
  have hs2:(Value.agg c.toArray).cells=c.toArray:=rfl
  simp only [Instr.fill,List.getElem?_toArray,List.getElem?_cons_zero,List.getElem?_cons_succ,hs1,hs2,List.size_toArray,hc,List.length_cons,List.length_nil]
  obtain ⟨a1,a2⟩:=Great.foldl_set 0 [.int .i64 i] 0 z.cells
  rw [← Array.foldl_toList,Array.toList_zipIdx,← Array.foldl_toList,Array.toList_zipIdx]
  simp only [List.toList_toArray]
  generalize (List.foldl (fun cs (x:Value × Nat) => cs.setIfInBounds (0 + x.2) x.1) z.cells ([Value.int .i64 i].zipIdx))=C1 at a1 a2 ⊢
  obtain ⟨b1,b2⟩:=Great.foldl_set 1 c 0 C1
  generalize (List.foldl (fun cs (x:Value × Nat) => cs.setIfInBounds (1 + x.2) x.1) C1 (c.zipIdx))=C2 at b1 b2 ⊢
  rw [h3] at a1
  rw [a1] at b1
  have hno1:¬ ((decide (0 + 1 ≠ 1) || decide (0 + (0 + 1) > z.cells.size))=true):=by rw [h3]; simp
  have hno2:¬ ((decide (512 ≠ 512) || decide (1 + 512 > C1.size))=true):=by rw [a1]; simp
  rw [if_neg hno1,if_neg hno2]
  congr 1
  refine Array.ext_getElem? fun k => ?_
  rw [b2 k,a1]
  by_cases hk:k=0
  · subst hk
    rw [if_neg (by omega),a2 0,if_pos ⟨by omega,by simp,by rw [h3]; omega⟩]
    rfl
  · by_cases hk2:k < 513
    · rw [if_pos ⟨by omega,by omega,hk2⟩]
      obtain ⟨q,rfl⟩:∃ q,k=q + 1:=⟨k - 1,by omega⟩
      simp
    · rw [if_neg (by omega),a2 k,if_neg (by rw [h3]; omega),Array.getElem?_eq_none (by omega),Array.getElem?_eq_none (by simp; omega)]
theorem pen_run (w:World)(i:Int)(c:List Value)(hc:c.length=512):(penSem (.int .i64 i) (.agg c.toArray)).run Tryz.prog w=.ok (.value (.agg (Value.int .i64 i :: c).toArray)) w:=by
  have h:=run_build (P:=Tryz.prog) w 189 #[(0,.int .i64 i),(1,.agg c.toArray)] _ (pen_built i c hc)
  unfold penSem
  rw [Sem.run_bind,h]
  rfl
set_option maxRecDepth 100000 in
theorem bsl_run (w:World)(pc:List Value)(hc:pc.length=513):(bslSem (.agg pc.toArray)).run Tryz.prog w=.ok (.value (.slice (some ⟨w.heap.size,0,none⟩) 1 1)) (w.alloc (.cells pc.toArray 189)):=by
  obtain ⟨i0,z,hi0,hz,h1,h2,h3⟩:=infoPenZ
  have hf:=Great.fill_whole (s:=513) (by decide) [.agg pc.toArray] ((Array.range (1 * 513)).map (z.cells[· % z.cells.size]!)) (fun v hv => by simp at hv; subst hv; show pc.toArray.size=513; simp [hc]) (by simp)
  have e:([Value.agg pc.toArray].flatMap fun v => v.cells.toList).toArray=pc.toArray:=by simp [Value.cells]
  rw [e] at hf
  have h:=run_buildSlice (P:=Tryz.prog) w 66 189 1 #[(0,.agg pc.toArray)] pc.toArray i0 z Tryz.underlying66 hi0 hz (by rw [h1]; decide) (by rw [h1]; decide) (by rw [h1]; exact hf)
  unfold bslSem
  rw [Sem.run_bind,h]
  rfl
end Go.Proofs.YthkijogloebdoaaGreatDoor
namespace Go.Proofs.YthkijogloebdoaaGreatDoor
open Go.RowKit
theorem run_snil8_in (w:World)(d:Nat)(ad:Addr)(n c:Nat):(Op.equalIn (d + 1) 28 (.slice (some ad) n c) (.slice none 0 0)).run Tryz.prog w=.ok false w:=by
  simp [Op.equalIn,run_underlying Tryz.underlying28]
theorem run_snil8_in0 (w:World)(d:Nat):(Op.equalIn (d + 1) 28 (.slice none 0 0) (.slice none 0 0)).run Tryz.prog w=.ok true w:=by
  simp [Op.equalIn,run_underlying Tryz.underlying28]
theorem run_snil8 (w:World)(ad:Addr)(n c:Nat):(binOp .eql 28 (.slice (some ad) n c) (.slice none 0 0)).run Tryz.prog w=.ok (.bool false) w:=by
  have h:=run_snil8_in w 9999 ad n c
  show (do pure (.bool (← Op.equal 28 (.slice (some ad) n c) (.slice none 0 0))):Sem Value).run Tryz.prog w=_
  rw [Sem.run_bind]
  show ((Op.equalIn (9999 + 1) 28 (.slice (some ad) n c) (.slice none 0 0)).run Tryz.prog w).andThen _=_
  rw [h]
  rfl
theorem run_snil80 (w:World):(binOp .eql 28 (.slice none 0 0) (.slice none 0 0)).run Tryz.prog w=.ok (.bool true) w:=by
  have h:=run_snil8_in0 w 9999
  show (do pure (.bool (← Op.equal 28 (.slice none 0 0) (.slice none 0 0))):Sem Value).run Tryz.prog w=_
  rw [Sem.run_bind]
  show ((Op.equalIn (9999 + 1) 28 (.slice none 0 0) (.slice none 0 0)).run Tryz.prog w).andThen _=_
  rw [h]
  rfl
theorem run_snilb_in (w:World)(d:Nat)(ad:Addr)(n c:Nat):(Op.equalIn (d + 1) 67 (.slice (some ad) n c) (.slice none 0 0)).run Tryz.prog w=.ok false w:=by
  simp [Op.equalIn,run_underlying Tryz.underlying67]
theorem run_snilb_in0 (w:World)(d:Nat):(Op.equalIn (d + 1) 67 (.slice none 0 0) (.slice none 0 0)).run Tryz.prog w=.ok true w:=by
  simp [Op.equalIn,run_underlying Tryz.underlying67]
theorem run_snilb (w:World)(ad:Addr)(n c:Nat):(binOp .eql 67 (.slice (some ad) n c) (.slice none 0 0)).run Tryz.prog w=.ok (.bool false) w:=by
  have h:=run_snilb_in w 9999 ad n c
  show (do pure (.bool (← Op.equal 67 (.slice (some ad) n c) (.slice none 0 0))):Sem Value).run Tryz.prog w=_
  rw [Sem.run_bind]
  show ((Op.equalIn (9999 + 1) 67 (.slice (some ad) n c) (.slice none 0 0)).run Tryz.prog w).andThen _=_
  rw [h]
  rfl
theorem run_snilb0 (w:World):(binOp .eql 67 (.slice none 0 0) (.slice none 0 0)).run Tryz.prog w=.ok (.bool true) w:=by
  have h:=run_snilb_in0 w 9999
  show (do pure (.bool (← Op.equal 67 (.slice none 0 0) (.slice none 0 0))):Sem Value).run Tryz.prog w=_
  rw [Sem.run_bind]
  show ((Op.equalIn (9999 + 1) 67 (.slice none 0 0) (.slice none 0 0)).run Tryz.prog w).andThen _=_
  rw [h]
  rfl
attribute [local go_sem] run_snil8 run_snil80 run_snilb run_snilb0
set_option maxRecDepth 100000 in
set_option maxHeartbeats 800000 in
theorem clone8_any (A:Option Addr)(len cap:Nat)(l:List UInt8)(hl:l.length=len)(w:World)(hb:Bytes w A l)(hc:A=none → cap=0)(hA:A ≠ none)(hm:len ≤ 140737488355328) :
    Calls Tryz.prog 71 #[.slice A len cap] w fun e w' => (∃ A2 c2,e=.returned (.slice A2 len c2) ∧ Mine w' w.heap.size A2 c2 l) ∧ Below w.heap.size w w':=by
  obtain ⟨ad,rfl⟩:=Option.ne_none_iff_exists'.1 hA
  have HB:=Lib.hid hb
  have HL:=Lib.hid hl
  clear hb hl hA hc
  go_enter Tryz.func71,Tryz.ntmps71
  go_wp2_with (at_builtin
               refine wpList_append_u8 rfl (.tmp 5) (.tmp 6) rfl w.heap.size (some ⟨w.heap.size,0,none⟩) 0 [] (by rfl) (Mine.empty w (Nat.le_refl _)) (some ad) cap l (by rw [HL.out]; rfl) (fun h => by cases h) (HB.out.later (below_new w _)) (by rw [HL.out]; simp; omega) (by simp) ?_
               intro A2 c2 w2 hm2 hg2 hb2
               rw [show (([]:List UInt8) ++ l).length=len from HL.out]
               have HM2:=Lib.hid (show Mine w2 w.heap.size A2 c2 l from hm2)
               have HB2:=Lib.hid ((below_new w (.cells #[] 5)).trans hb2))
  go_ret
  exact ⟨⟨A2,c2,rfl,HM2.out⟩,HB2.out⟩
set_option maxRecDepth 100000 in
set_option maxHeartbeats 800000 in
theorem bclone_any (A:Option Addr)(len cap:Nat)(l:List UInt8)(hl:l.length=len)(w:World)(hb:Bytes w A l)(hc:A=none → cap=0)(hA:A ≠ none)(hm:len ≤ 140737488355328) :
    Calls Tryz.prog 149 #[.slice A len cap] w fun e w' => (∃ A2 c2,e=.returned (.slice A2 len c2) ∧ Mine w' w.heap.size A2 c2 l) ∧ Below w.heap.size w w':=by
  obtain ⟨ad,rfl⟩:=Option.ne_none_iff_exists'.1 hA
  have HB:=Lib.hid hb
  have HL:=Lib.hid hl
  clear hb hl hA hc
  go_enter Tryz.func149,Tryz.ntmps149
  go_wp2_with (at_builtin
               refine wpList_append_u8 rfl (.tmp 5) (.tmp 6) rfl w.heap.size (some ⟨w.heap.size,0,none⟩) 0 [] (by rfl) (Mine.empty w (Nat.le_refl _)) (some ad) cap l (by rw [HL.out]; rfl) (fun h => by cases h) (HB.out.later (below_new w _)) (by rw [HL.out]; simp; omega) (by simp) ?_
               intro A2 c2 w2 hm2 hg2 hb2
               rw [show (([]:List UInt8) ++ l).length=len from HL.out]
               have HM2:=Lib.hid (show Mine w2 w.heap.size A2 c2 l from hm2)
               have HB2:=Lib.hid ((below_new w (.cells #[] 5)).trans hb2))
  go_ret
  exact ⟨⟨A2,c2,rfl,HM2.out⟩,HB2.out⟩
theorem own_form {w:World}{base n k:Nat}{t:TypeId}{v:Value}{cs:List Value}(h:w.ownsRow base t k v n cs):∃ A c,v=.slice A n c ∧ Own w base t k A n c cs:=by
  rcases h.2 with ⟨hv,h0⟩ | ⟨g,cap,cur,hv,_⟩
  · exact ⟨none,0,by rw [hv,h0],by subst hv; subst h0; exact h⟩
  · exact ⟨_,cap,hv,by subst hv; exact h⟩
end Go.Proofs.YthkijogloebdoaaGreatDoor
end
section
namespace Go.Proofs.YthkijogloebdoaaGreatDoor
open Go.RowKit
def Buf (w:World)(base:Nat)(a:Option Nat)(A:Option Addr)(l:List UInt8):Prop :=
  l=[] ∨ ∃ g off cs t f,A=some ⟨g,off,none⟩ ∧ w.heap[g]? = some (.cells cs t f) ∧ (g < base ∨ (some g ≠ a ∧ t ∈ [5,72])) ∧ ∀ k (h:k < l.length),w.cell? ⟨g,off + k,none⟩=some (.int .u8 (n8 l[k]))
theorem Buf.bytes {w:World}{base:Nat}{a:Option Nat}{A:Option Addr}{l:List UInt8}(h:Buf w base a A l):Bytes w A l:=by
  rcases h with h | ⟨g,off,cs,t,f,rfl,_,_,hc⟩
  · exact .inl h
  · exact .inr ⟨g,off,rfl,hc⟩
theorem Buf.kt {w w2:World}{base:Nat}{a:Option Nat}{A:Option Addr}{l:List UInt8}{Ts:List TypeId}(h:Buf w base a A l)(k:KT a base Ts w w2)(h1:5 ∉ Ts)(h2:72 ∉ Ts):Buf w2 base a A l:=by
  rcases h with h | ⟨g,off,cs,t,f,rfl,hg,hs,hc⟩
  · exact .inl h
  · have hlt:g < w.heap.size:=(Array.getElem?_eq_some_iff.1 hg).1
    have e:w2.heap[g]? = w.heap[g]?:=k.block g hlt (hs.imp id fun ⟨h3,h4⟩ => ⟨h3,fun ⟨cs',t',f',h5,h6⟩ => by
      rw [hg] at h5
      injection h5 with h5
      injection h5 with _ h5
      subst h5
      simp at h4
      rcases h4 with h4 | h4
      · rw [h4] at h6; exact h1 h6
      · rw [h4] at h6; exact h2 h6⟩)
    exact .inr ⟨g,off,cs,t,f,rfl,e.trans hg,hs,fun i hi => (World.cell?_of_block (a:=⟨g,off + i,none⟩) e).trans (hc i hi)⟩
def DiskRaw (w:World)(base a d:Nat)(D:Dk):Prop :=
  base ≤ d ∧ ∃ (cA:Nat) (P:Option Addr) (cp:Nat) (K:Option Addr) (ck:Nat) (wr fl:Int) (T:Option Addr) (tn ct:Nat) (tc:List Value),
    Is w d 70 #[.slice (some ⟨a,0,none⟩) D.lasts.length cA,.slice P D.pend.length cp,.int .i64 (D.left:Int),.slice K D.keep.length ck,.bool D.down,.int .i64 wr,.int .i64 fl,.slice T tn ct] ∧
    Own w base 72 512 (some ⟨a,0,none⟩) D.lasts.length cA (secC D.lasts) ∧ Own w base 189 513 P D.pend.length cp (penC D.pend) ∧ KeepAt w base K D.keep ∧
    Own w base 225 3 T tn ct tc ∧ tn ≤ D.n
theorem DiskRaw.at_ {w:World}{base a d:Nat}{D:Dk}(h:DiskRaw w base a d D)(hO:D.Ok):DiskAt w base a d D:=⟨hO,h⟩
theorem diskT_ne {t:TypeId}(h:t ∈ [72,4,5]):t ∉ diskT:=by
  simp at h
  rcases h with h | h | h <;> subst h <;> simp [diskT]
theorem grown_kt {w W w1:World}{base k n cap:Nat}{t:TypeId}{A:Option Addr}{cs:List Value}(s:Option Nat)(hb:Below w.heap.size w W)(h:Own W base t k A n cap cs)(hg:W.grownBy w1 (Value.slice A n cap).ownBlock):KT s base [t] w w1 :=
  (KT.of_below hb (Nat.le_refl _)).trans (KT.of_grown h (Nat.le_refl _) (by simp) hg)
theorem KeepAt.kt0 {w w2:World}{base:Nat}{K:Option Addr}{l:List Bool}{Ts:List TypeId}(h:KeepAt w base K l)(k:KT none base Ts w w2)(ht:4 ∉ Ts):KeepAt w2 base K l:=h.kt k ht (fun b e => by cases e)
theorem Own.kt0 {w w2:World}{base k n cap:Nat}{t:TypeId}{A:Option Addr}{cs:List Value}{Ts:List TypeId}(h:Own w base t k A n cap cs)(q:KT none base Ts w w2)(ht:t ∉ Ts):Own w2 base t k A n cap cs:=h.kt q ht (fun g _ e => by cases e)
theorem Is.kt0 {w w2:World}{base g:Nat}{t:TypeId}{cs:Array Value}{Ts:List TypeId}(h:Is w g t cs)(q:KT none base Ts w w2)(ht:t ∉ Ts):Is w2 g t cs:=h.kt q (.inr ⟨(fun e => by cases e),ht⟩)
theorem pended_at {w W w1:World}{base a d i gg cap2 cp:Nat}{D:Dk}{P:Option Addr}{b:List UInt8}(hb:Below w.heap.size w W)(h:DiskRaw w base a d D)(hc1:w.cell? ⟨d,1,none⟩=some (.slice P D.pend.length cp))
    (hown1:w1.ownsRow base 189 513 (.slice (some ⟨gg,0,none⟩) (D.pend.length + 1) cap2) (D.pend.length + 1) (penC D.pend ++ penCell (i,b)))(hgrow:W.grownBy w1 (Value.slice P D.pend.length cp).ownBlock) :
    DiskRaw (w1.setCell ⟨d,1,none⟩ (.slice (some ⟨gg,0,none⟩) (D.pend.length + 1) cap2)) base a d { D with pend:=D.pend ++ [(i,b)] } ∧ KT (some a) base diskT w (w1.setCell ⟨d,1,none⟩ (.slice (some ⟨gg,0,none⟩) (D.pend.length + 1) cap2)):=by
  obtain ⟨hd,cA,P',cp',K,ck,wr,fl,T,tn,ct,tc,hI,hA,hP,hK,hT,hn⟩:=h
  have e:=hI.cell 1
  rw [hc1] at e
  simp at e
  obtain ⟨rfl,rfl⟩:=e
  have hPW:=hP.later hb
  have k0:=grown_kt none hb hPW hgrow
  have ka:=grown_kt (some a) hb hPW hgrow
  have hI1:=hI.kt0 k0 (by simp)
  have hl:(D.pend ++ [(i,b)]).length=D.pend.length + 1:=by simp
  have hpc:penC (D.pend ++ [(i,b)])=penC D.pend ++ penCell (i,b):=by unfold penC; rw [List.flatMap_append]; simp
  refine ⟨⟨hd,cA,some ⟨gg,0,none⟩,cap2,K,ck,wr,fl,T,tn,ct,tc,?_,?_,?_,?_,?_,hn⟩,(ka.mono (fun t ht => by simp at ht; subst ht; simp [diskT])).trans (KT.setCell hI1 hd (.inr (by simp [diskT])) _)⟩
  · show Is _ d _ #[_,.slice (some ⟨gg,0,none⟩) (D.pend ++ [(i,b)]).length cap2,_,_,_,_,_,_]
    rw [hl]
    exact hI1.put 1 _
  · exact (hA.kt0 k0 (by simp)).putD hI1 (by decide) _ _
  · show Own _ base _ 513 _ (D.pend ++ [(i,b)]).length cap2 (penC (D.pend ++ [(i,b)]))
    rw [hl,hpc]
    exact (show Own w1 base _ 513 _ _ cap2 _ from hown1).putD hI1 (by decide) _ _
  · exact (hK.kt0 k0 (by simp)).putD hI1 hd _ _
  · exact (hT.kt0 k0 (by simp)).putD hI1 (by decide) _ _
theorem taped_at {w W w1:World}{base a d gg cap2 tn ct:Nat}{D:Dk}{T:Option Addr}{tc news:List Value}(hb:Below w.heap.size w W)(h:DiskRaw w base a d D)(hc7:w.cell? ⟨d,7,none⟩=some (.slice T tn ct))(hT0:Own w base 225 3 T tn ct tc)(htn:tn ≤ D.n)
    (hown1:w1.ownsRow base 225 3 (.slice (some ⟨gg,0,none⟩) (tn + 1) cap2) (tn + 1) news)(hgrow:W.grownBy w1 (Value.slice T tn ct).ownBlock) :
    DiskRaw (w1.setCell ⟨d,7,none⟩ (.slice (some ⟨gg,0,none⟩) (tn + 1) cap2)) base a d { D with n:=D.n + 1 } ∧ KT (some a) base diskT w (w1.setCell ⟨d,7,none⟩ (.slice (some ⟨gg,0,none⟩) (tn + 1) cap2)):=by
  obtain ⟨hd,cA,P,cp,K,ck,wr,fl,T',tn',ct',tc',hI,hA,hP,hK,hT,hn⟩:=h
  have k0:=grown_kt none hb (hT0.later hb) hgrow
  have ka:=grown_kt (some a) hb (hT0.later hb) hgrow
  have hI1:=hI.kt0 k0 (by simp)
  refine ⟨⟨hd,cA,P,cp,K,ck,wr,fl,some ⟨gg,0,none⟩,tn + 1,cap2,news,hI1.put 7 _,?_,?_,?_,?_,by show tn + 1 ≤ D.n + 1; omega⟩,(ka.mono (fun t ht => by simp at ht; subst ht; simp [diskT])).trans (KT.setCell hI1 hd (.inr (by simp [diskT])) _)⟩
  · exact (hA.kt0 k0 (by simp)).putD hI1 (by decide) _ _
  · exact (hP.kt0 k0 (by simp)).putD hI1 (by decide) _ _
  · exact (hK.kt0 k0 (by simp)).putD hI1 hd _ _
  · exact (show Own w1 base _ 3 _ _ cap2 _ from hown1).putD hI1 (by decide) _ _
theorem wr_stored {w:World}{base a d:Nat}{D:Dk}(h:DiskAt w base a d D)(v:Int):DiskAt (w.setCell ⟨d,5,none⟩ (.int .i64 v)) base a d D:=by
  obtain ⟨hO,hd,cA,P,cp,K,ck,wrt,flt,T,tn,ct,tc,hI,hA,hP,hK,hT,hn⟩:=h
  exact ⟨hO,hd,cA,P,cp,K,ck,v,flt,T,tn,ct,tc,hI.put 5 (.int .i64 v),hA.putD hI (by decide) _ _,hP.putD hI (by decide) _ _,hK.putD hI hd _ _,hT.putD hI (by decide) _ _,hn⟩
theorem fl_stored {w:World}{base a d:Nat}{D:Dk}(h:DiskAt w base a d D)(v:Int):DiskAt (w.setCell ⟨d,6,none⟩ (.int .i64 v)) base a d D:=by
  obtain ⟨hO,hd,cA,P,cp,K,ck,wrt,flt,T,tn,ct,tc,hI,hA,hP,hK,hT,hn⟩:=h
  exact ⟨hO,hd,cA,P,cp,K,ck,wrt,v,T,tn,ct,tc,hI.put 6 (.int .i64 v),hA.putD hI (by decide) _ _,hP.putD hI (by decide) _ _,hK.putD hI hd _ _,hT.putD hI (by decide) _ _,hn⟩
theorem infoAct:(Tryz.prog.info? 225).map (fun i => (i.zero,i.size,i.bytes))=some (some (.agg #[.int .i64 0,.int .i64 0,.slice none 0 0]),3,40):=by kernel_rfl
theorem run_arrayAt512 (w:World)(b o c:Nat):(Instr.arrayAt 72 (.slice (some ⟨b,o,none⟩) 512 c)).run Tryz.prog w=.ok (.pointer (some ⟨b,o,none⟩)) w:=by
  simp [Instr.arrayAt,run_underlying Tryz.underlying72,Sem.run_bind]
attribute [local go_sem] run_arrayAt512
def secLoad (p:Value):Sem Next:=do let r ← Instr.loadAt 72 p; pure (.value r)
theorem exec_secLoad (ρ:Operand → Value) d (x:Operand) ty pos af g :
    execOp ρ { dst:=d,op:=.load 72 x,type:=ty,pos:=pos,after:=af,guard:=g }=secLoad (ρ x):=by
  simp [execOp,secLoad]
theorem secLoad_run {w:World}{b o:Nat}{cs:List Value}(h:w.rangeAt b o cs)(hl:cs.length=512):(secLoad (.pointer (some ⟨b,o,none⟩))).run Tryz.prog w=.ok (.value (.agg cs.toArray)) w:=by
  unfold secLoad
  rw [Sem.run_bind,run_loadAt_mid w b o 72 cs _ h Tryz.underlying72 rfl (by rw [hl]; exact infoSec)]
  rfl
theorem ex_at_zero {o:Oper}{l:List Oper}{h:0 < (o :: l).toArray.size} {ρ:Operand → Value}:execOp ρ ((o :: l).toArray[0]'h)=execOp ρ o:=rfl
theorem ex_at_succ {o:Oper}{l:List Oper}{n:Nat}{h:n + 1 < (o :: l).toArray.size} {ρ:Operand → Value}:execOp ρ ((o :: l).toArray[n + 1]'h)=execOp ρ (l.toArray[n]'(by simpa using h)):=rfl
attribute [local go_sem ↓] ex_at_zero ex_at_succ exec_pen exec_bsl exec_secLoad
set_option maxRecDepth 100000 in
set_option maxHeartbeats 1600000 in
theorem dwrite_any (base a d:Nat)(D:Dk)(i:Nat)(Bp:Option Addr)(bc:Nat)(b:List UInt8)(w:World)(h:DiskAt w base a d D)(hdn:D.down=false)(hi:i < D.lasts.length)(hb5:b.length=512)(hb:Buf w base (some a) Bp b)(hbw:base ≤ w.heap.size)
    (hn0:D.n ≤ 1000000) :
    Calls Tryz.prog 119 #[.pointer (some ⟨d,0,none⟩),.int .i64 (i:Int),.slice Bp 512 bc] w fun e w' => e=.returned (.int .i64 D.err) ∧ DiskAt w' base a d (D.write i b) ∧ KT (some a) base diskT w w':=by
  have HD:=Lib.hid h
  obtain ⟨hane,hab,hisA⟩:=h.a_ne
  obtain ⟨hO,hd,cA,P,cp,K,ck,wrt,flt,T,tn,ct,tc,hI,hA,hP,hK,hT,hn⟩:=h
  obtain ⟨c0,c1,c2,c3,c4,c5,c6,c7⟩:=dcells hI
  obtain ⟨i0,z0,hi0,hz0,hz1,hz2,hz3⟩:=infoPenZ
  have hp0:D.pend.length ≤ 1000000:=by have:=hO.2.2.2.2.1; omega
  rcases hb with rfl | ⟨bb,bo,bcs,bt,bf,rfl,hbg,hbs,hbc⟩
  · simp at hb5
  have hrange:w.rangeAt bb bo (cellsOf8 b):=fun j v hv => by
    have hj:=(List.getElem?_eq_some_iff.1 hv).1
    rw [cellsOf8_length] at hj
    rw [hbc j hj,← hv,cellsOf8_at b j hj]
  have f1:=hI.free 1
  have HBC:=Lib.hid hbc
  have hl0:(cellsOf8 b).length=512:=by rw [cellsOf8_length]; exact hb5
  have HO:=Lib.hid hO
  have HP:=Lib.hid hP
  have HI:=Lib.hid hI
  have HA:=Lib.hid hA
  have HK:=Lib.hid hK
  have HT:=Lib.hid hT
  have HIx:=Lib.hid hi
  have HL0:=Lib.hid hl0
  have HB5:=Lib.hid hb5
  have hi1:(0:Int) ≤ (i:Int):=by omega
  have hi2:(i:Int) < (D.lasts.length:Int):=by omega
  rw [hdn] at c4
  have H0:=Lib.hid hi0
  have HZ0:=Lib.hid hz0
  have HZ1:=Lib.hid hz1
  have HZ2:=Lib.hid hz2
  have HZ3:=Lib.hid hz3
  have r1:=hrange
  clear hO hA hP hK hT hI hi hi0 hz0 hz1 hz2 hz3 hl0 hb5 hbc c0 c2 c3 c5 c6 hdn hisA hrange
  go_enter Tryz.func119,Tryz.ntmps119
  go_upto_region 7 with (go_at_call 108; refine (dhas_any base a d D i _ HD.out).mono ?_; rintro e w' ⟨rfl,rfl⟩; rw [decide_eq_true ⟨hi1,hi2⟩])
  go_cut [6] from 21 to 34 (fun s6 wx => s6=.int .i64 0 ∧ (w.heap.size ≤ wx.heap.size ∧ DiskRaw wx base a d { D with pend:=D.pend ++ [(i,b)] }) ∧ KT (some a) base diskT w wx)
  case first =>
    have hcl:(cellsOf8 b).length=512:=HL0.out
    have hld:(secLoad (.pointer (some ⟨bb,bo,none⟩))).run Tryz.prog w=.ok (.value (.agg (cellsOf8 b).toArray)) w:=secLoad_run r1 hcl
    have hld2:(secLoad (.pointer (some ⟨bb,bo,none⟩))).run Tryz.prog w.drew=.ok (.value (.agg (cellsOf8 b).toArray)) w.drew:=secLoad_run (w:=w.drew) r1 hcl
    obtain ⟨pc,hpc⟩:∃ pc,penCell (i,b)=pc:=⟨_,rfl⟩
    have hpen:∀ w,(penSem (.int .i64 (i:Int)) (.agg (cellsOf8 b).toArray)).run Tryz.prog w=.ok (.value (.agg pc.toArray)) w:=fun w => by rw [← hpc]; exact pen_run w i _ hcl
    have hpl:pc.length=513:=by rw [← hpc]; simp [penCell,hcl]
    have hbsl:∀ w,(bslSem (.agg pc.toArray)).run Tryz.prog w=.ok (.value (.slice (some ⟨w.heap.size,0,none⟩) 1 1)) (w.alloc (.cells pc.toArray 189)):=fun w => bsl_run w pc hpl
    have HPC:=Lib.hid hpc
    have H1P:=Lib.hid (show ∀ u ∈ pc,u.oneCell'=true by rw [← hpc]; exact penCell_one (i,b))
    have HOA:=Lib.hid (HP.out.later (below_new w (.cells pc.toArray 189)))
    have HDP:=Lib.hid (show some d ≠ (Value.slice P D.pend.length cp).ownBlock from fun e => by
      rcases HP.out.shape with h0 | ⟨g,h0⟩
      · rw [h0] at e; cases e
      · obtain ⟨_,cur,hi5⟩:=HP.out.typed g h0
        rw [h0] at e
        injection e with e
        have e:d=g:=e
        subst e
        have h6:=hi5.symm.trans HI.out
        injection h6 with h6
        injection h6 with _ h6
        exact absurd h6 (by decide))
    have HPL:=Lib.hid hpl
    clear hpc hpl
    have c1a:(w.alloc (.cells pc.toArray 189)).cell? ⟨d,1,none⟩=some (.slice P D.pend.length cp):=((below_new w (.cells pc.toArray 189)).cell (p:=⟨d,1,none⟩) HI.out.lt).trans c1
    clear hcl r1
    go_region_law (refine step_append_lies _ (by rfl) _ _ _ (by rfl) base 189 i0 z0 513 520 Tryz.underlying66 H0.out HZ0.out HZ1.out HZ2.out HZ3.out (by omega) (.slice P D.pend.length cp) D.pend.length (penC D.pend) (by simp [Act.eval,Act.put]) (show World.ownsRow (w.alloc (.cells pc.toArray 189)).drew base 189 513 (.slice P D.pend.length cp) D.pend.length (penC D.pend) from HOA.out) ⟨w.heap.size,0,none⟩ 1 1 pc (by simp [Act.eval,Act.put]) (by rw [HPL.out]) (by have:=World.news_of_block (w:=w.alloc (.cells pc.toArray 189)) (B:=w.heap.size) (cs:=pc.toArray) (t:=189) (fr:=(0,0)) (heap_alloc_new w _); exact this) H1P.out (by omega) (by simp only [maxLen]; omega) (by omega) (by simp; omega) (w.heap.size + 1) (by simp) ?_
                   intro gg cap2 w1 hown1 hgrow hat hlt
                   have hd1:d < (w.alloc (.cells pc.toArray 189)).heap.size:=by simp; have:=HI.out.lt; omega
                   have c1':w1.cell? ⟨d,1,none⟩=some (.slice P D.pend.length cp):=(hgrow.cell_far ⟨d,1,none⟩ hd1 HDP.out).trans ((below_new w _).cell (p:=⟨d,1,none⟩) HI.out.lt |>.trans c1)
                   have f1':w1.frozen? ⟨d,1,none⟩=false:=(hgrow.frozen_far ⟨d,1,none⟩ hd1 HDP.out).trans (((below_new w _).frozen (p:=⟨d,1,none⟩) HI.out.lt).trans f1))
    all_goals (have hgrow':World.grownBy (w.alloc (.cells pc.toArray 189)).drew w1 (Value.slice P D.pend.length cp).ownBlock:=hgrow)
    all_goals (have hown1':World.ownsRow w1 base 189 513 (.slice (some ⟨gg,0,none⟩) (D.pend.length + 1) cap2) (D.pend.length + 1) (penC D.pend ++ penCell (i,b)):=by rw [HPC.out]; exact hown1)
    all_goals (obtain ⟨fin1,fin2⟩:=pended_at (below_new w (.cells pc.toArray 189)).drew HD.out.2 c1 hown1' hgrow')
    all_goals go_wp2_with fail
    all_goals go_meet
    all_goals exact ⟨rfl,⟨fin2.size,fin1⟩,fin2⟩
  case rest =>
    obtain ⟨rfl,⟨hsz,hraw⟩,hkt⟩:=hcut
    have HRAW:=Lib.hid hraw
    have HKT:=Lib.hid hkt
    obtain ⟨hd',cA',P',cp',K',ck',wr',fl',T',tn',ct',tc',hI',hA',hP',hK',hT',hn'⟩:=hraw
    have c7':=hI'.cell 7
    have f7':=hI'.free 7
    have HIc:=Lib.hid hI'
    have HTc:=Lib.hid hT'
    have hn0':tn' ≤ 1000000:=by have hn':tn' ≤ D.n:=hn'; omega
    have HNc:=Lib.hid (show tn' ≤ D.n from hn')
    have HBB:=Lib.hid (show Buf w base (some a) (some ⟨bb,bo,none⟩) b from .inr ⟨bb,bo,bcs,bt,bf,rfl,hbg,hbs,HBC.out⟩)
    have HBw:=Lib.hid ((HBB.out.kt HKT.out (diskT_ne (by simp)) (diskT_ne (by simp))).bytes)
    clear hI' hA' hP' hK' hT' hn' hkt hbg
    go_upto_region 8 with fail
    go_cut [6] from 35 to 47 (fun s6 wx => s6=.int .i64 0 ∧ DiskRaw wx base a d { D with pend:=D.pend ++ [(i,b)],n:=D.n + 1 } ∧ KT (some a) base diskT wc wx)
    case first =>
      obtain ⟨i1,hi1',hy0,hy1,hy2⟩:=info_parts infoAct
      have HI1:=Lib.hid hi1'
      have HY0:=Lib.hid hy0
      have HY1:=Lib.hid hy1
      have HY2:=Lib.hid hy2
      have HDT:=Lib.hid (show some d ≠ (Value.slice T' tn' ct').ownBlock from fun e => by
        rcases HTc.out.shape with h0 | ⟨g,h0⟩
        · rw [h0] at e; cases e
        · obtain ⟨_,cur,hi5⟩:=HTc.out.typed g h0
          rw [h0] at e
          injection e with e
          have e:d=g:=e
          subst e
          have h6:=hi5.symm.trans HIc.out
          injection h6 with h6
          injection h6 with _ h6
          exact absurd h6 (by decide))
      clear hi1' hy0 hy1 hy2 hbs
      go_region_law (first
        | (go_simp; go_at_call 71
           refine (clone8_any (some ⟨bb,bo,none⟩) 512 bc b HB5.out _ (by exact HBw.out) (fun h => by cases h) (by simp) (by decide)).mono ?_
           rintro e w5 ⟨⟨A5,c5,rfl,hM5⟩,hb5'⟩
           have hbc5:Below wc.heap.size wc w5:=⟨hb5'.os,hb5'.tape,hb5'.output,hb5'.size,hb5'.block⟩
           have c75:w5.cell? ⟨d,7,none⟩=some (.slice T' tn' ct'):=(hbc5.cell (p:=⟨d,7,none⟩) HIc.out.lt).trans c7'
           have c76:(w5.alloc (.cells #[.int .i64 1,.int .i64 (i:Int),.slice A5 512 c5] 225)).cell? ⟨d,7,none⟩=some (.slice T' tn' ct'):=((below_new w5 (.cells #[.int .i64 1,.int .i64 (i:Int),.slice A5 512 c5] 225)).cell (p:=⟨d,7,none⟩) (block_lt_of_cell c75)).trans c75)
        | (refine step_append_lies _ (by rfl) _ _ _ (by rfl) base 225 i1 (.agg #[.int .i64 0,.int .i64 0,.slice none 0 0]) 3 40 Tryz.underlying68 HI1.out HY0.out HY1.out HY2.out rfl (by omega) (.slice T' tn' ct') tn' tc' (by simp [Act.eval,Act.put]) (by exact (HTc.out.later hbc5).later (below_new w5 (.cells #[.int .i64 1,.int .i64 (i:Int),.slice A5 512 c5] 225))) ⟨w5.heap.size,0,none⟩ 1 1 [.int .i64 1,.int .i64 (i:Int),.slice A5 512 c5] (by simp [Act.eval,Act.put]) (by rfl) (by have:=World.news_of_block (w:=w5.alloc (.cells #[.int .i64 1,.int .i64 (i:Int),.slice A5 512 c5] 225)) (B:=w5.heap.size) (cs := #[.int .i64 1,.int .i64 (i:Int),.slice A5 512 c5]) (t:=225) (fr:=(0,0)) (heap_alloc_new w5 _); exact this) (by simp [Value.oneCell']) (by omega) (by simp only [maxLen]; omega) (by omega) (by simp; have:=hbc5.size; omega) (w5.heap.size + 1) (by simp) ?_
           intro gg cap2 w1 hown1 hgrow hat hlt
           have hdl:d < (w5.alloc (.cells #[.int .i64 1,.int .i64 (i:Int),.slice A5 512 c5] 225)).heap.size:=by rw [World.size_alloc]; have q:d < w5.heap.size:=block_lt_of_cell c75; omega
           have c1':w1.cell? ⟨d,7,none⟩=some (.slice T' tn' ct'):=(hgrow.cell_far ⟨d,7,none⟩ hdl HDT.out).trans c76
           have f1':w1.frozen? ⟨d,7,none⟩=false:=(hgrow.frozen_far ⟨d,7,none⟩ hdl HDT.out).trans (((below_new w5 _).frozen (p:=⟨d,7,none⟩) (block_lt_of_cell c75)).trans ((hbc5.frozen (p:=⟨d,7,none⟩) HIc.out.lt).trans f7'))))
      all_goals (have hgrow':World.grownBy (w5.alloc (.cells #[.int .i64 1,.int .i64 (i:Int),.slice A5 512 c5] 225)) w1 (Value.slice T' tn' ct').ownBlock:=hgrow)
      all_goals (obtain ⟨fin1,fin2⟩:=taped_at (hbc5.trans ((below_new w5 (.cells #[.int .i64 1,.int .i64 (i:Int),.slice A5 512 c5] 225)).mono hbc5.size)) HRAW.out c7' HTc.out HNc.out hown1 hgrow')
      all_goals go_wp2_with fail
      all_goals go_meet
      all_goals exact ⟨rfl,fin1,fin2⟩
    case rest =>
      obtain ⟨rfl,hraw,hkt⟩:=hcut
      have HOK:=Lib.hid (HO.out.pended HIx.out HB5.out)
      have HDc:=Lib.hid (hraw.at_ HOK.out)
      have HK2:=Lib.hid hkt
      obtain ⟨_,cA2,P2,cp2,K2,ck2,wr2,fl2,T2,tn2,ct2,tc2,hI2,_⟩:=hraw
      have c5:=hI2.cell 5
      have f5:=hI2.free 5
      clear hI2 hkt
      obtain ⟨lf,hlf⟩:∃ lf,D.left=lf:=⟨_,rfl⟩
      by_cases h1:lf=1
      · have HW := Lib.hid (show D.write i b=({ D with pend:=D.pend ++ [(i,b)],n:=D.n + 1 }:Dk).cut D.keep from by unfold Dk.write; rw [if_pos (by rw [hlf]; exact h1)])
        have HE:=Lib.hid (show D.err=30 from by unfold Dk.err; rw [if_pos (by rw [hlf]; exact h1)])
        have HL1:=Lib.hid (show ({ D with pend:=D.pend ++ [(i,b)],n:=D.n + 1 }:Dk).left=1 from by show D.left=1; rw [hlf]; exact h1)
        clear h1 hlf
        go_wp2_with (go_at_call 152
                     refine (dstep_cut base a d _ .nilFunc _ (wr_stored HDc.out _) HL1.out).mono ?_
                     rintro e w9 ⟨rfl,hD9,hk9⟩
                     have HD9:=Lib.hid hD9
                     have HK9:=Lib.hid hk9
                     clear hD9 hk9)
        go_ret
        exact ⟨by rw [HE.out]; rfl,by rw [HW.out]; exact HD9.out,((HKT.out.trans HK2.out).trans (DiskAt.kt1 HDc.out 5 _)).trans HK9.out⟩
      · have HW := Lib.hid (show D.write i b=({ D with pend:=D.pend ++ [(i,b)],n:=D.n + 1 }:Dk).less from by unfold Dk.write; rw [if_neg (by rw [hlf]; exact h1)]; rfl)
        have HE:=Lib.hid (show D.err=0 from by unfold Dk.err; rw [if_neg (by rw [hlf]; exact h1)])
        have HL1:=Lib.hid (show ({ D with pend:=D.pend ++ [(i,b)],n:=D.n + 1 }:Dk).left ≠ 1 from by show D.left ≠ 1; rw [hlf]; exact h1)
        clear h1 hlf
        go_wp2_with (go_at_call 152
                     refine (dstep_nil base a d _ _ (wr_stored HDc.out _) HL1.out).mono ?_
                     rintro e w9 ⟨rfl,hD9,hk9⟩
                     have HD9:=Lib.hid hD9
                     have HK9:=Lib.hid hk9
                     clear hD9 hk9)
        go_ret
        exact ⟨by rw [HE.out]; rfl,by rw [HW.out]; exact HD9.out,((HKT.out.trans HK2.out).trans (DiskAt.kt1 HDc.out 5 _)).trans HK9.out⟩
end Go.Proofs.YthkijogloebdoaaGreatDoor
end
