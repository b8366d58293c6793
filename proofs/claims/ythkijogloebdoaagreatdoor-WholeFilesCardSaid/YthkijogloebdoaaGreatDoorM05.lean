/-
  WholeFiles, the texts QDw7 QDw8 Wp QWs3: lemmas for the proof that three files on one disk are plain rows of bytes. No conditions.
-/
import Derived.Test.YthkijogloebdoaaGreatDoorM04
import Derived.Test.YthkijogloebdoaaGreatDoorM03
set_option linter.unusedVariables false
set_option linter.unusedSimpArgs false
section
namespace Go.Proofs.YthkijogloebdoaaGreatDoor
open Go.RowKit
attribute [local go_sem ↓] ex_at_zero ex_at_succ exec_pen exec_bsl exec_secLoad
def Dk.flushed (D:Dk):Dk := { D with lasts:=Dk.puts D.lasts D.pend,pend := [],n:=D.n + 1 }
theorem puts_next (D:Dk)(k:Nat)(hk:k < D.pend.length):Dk.puts D.lasts (D.pend.take (k + 1))=(Dk.puts D.lasts (D.pend.take k)).set D.pend[k].1 D.pend[k].2:=by
  rw [take_snoc D.pend k hk,Dk.puts_snoc]
theorem puts_take_512 {D:Dk}(h:D.Ok)(k:Nat):(∀ b ∈ Dk.puts D.lasts (D.pend.take k),b.length=512) ∧ (Dk.puts D.lasts (D.pend.take k)).length=D.lasts.length :=
  ⟨Dk.puts_512 _ _ h.2.2.1 (fun x hx => (h.2.2.2.1 x (List.mem_of_mem_take hx)).2),Dk.puts_length _ _⟩
theorem Dk.Ok.flushed {D:Dk}(h:D.Ok):D.flushed.Ok:=by
  obtain ⟨h1,h2,h3,h4,h5,h6⟩:=h
  refine ⟨?_,?_,Dk.puts_512 _ _ h3 (fun x hx => (h4 x hx).2),(fun x hx => by cases hx),Nat.zero_le _,h6⟩
  · show 1 ≤ (Dk.puts D.lasts D.pend).length; rw [Dk.puts_length]; exact h1
  · show (Dk.puts D.lasts D.pend).length ≤ _; rw [Dk.puts_length]; exact h2
theorem is_ne {w:World}{g h:Nat}{t u:TypeId}{cs ds:Array Value}(hg:Is w g t cs)(hh:Is w h u ds)(hn:t ≠ u):g ≠ h:=fun e => by
  subst e
  have h6:=hg.symm.trans hh
  injection h6 with h6
  injection h6 with _ h6
  exact hn h6
set_option maxRecDepth 100000 in
set_option maxHeartbeats 3200000 in
theorem dflush1_any (base a d bx:Nat)(D:Dk)(w:World)(h:DiskAt w base a d D)(hbx:Is w bx 24 #[.pointer (some ⟨d,0,none⟩)])(hn0:D.n ≤ 1000000) :
    Calls Tryz.prog 153 #[.pointer (some ⟨bx,0,none⟩)] w fun e w' => e=.returned (.tuple #[]) ∧ DiskAt w' base a d D.flushed ∧ KT (some a) base diskT w w':=by
  obtain ⟨hane,hab,hisA⟩:=h.a_ne
  have HNE:=Lib.hid hane
  have HIA:=Lib.hid hisA
  have HB:=Lib.hid hbx
  have HN0:=Lib.hid hn0
  have HD:=Lib.hid h
  obtain ⟨hO,hd,cA,P,cp,K,ck,wrt,flt,T,tn,ct,tc,hI,hA,hP,hK,hT,hn⟩:=h
  obtain ⟨c0,c1,c2,c3,c4,c5,c6,c7⟩:=dcells hI
  have hbd:bx ≠ d:=is_ne hbx hI (by decide)
  have hba:bx ≠ a:=by obtain ⟨cur,hi⟩:=hisA; exact is_ne hbx hi (by decide)
  have HBD:=Lib.hid hbd
  have HBA:=Lib.hid hba
  have b0:=hbx.cell 0
  have HO:=Lib.hid hO
  have HP:=Lib.hid hP
  have HI:=Lib.hid hI
  have HA:=Lib.hid hA
  have HK:=Lib.hid hK
  have HT:=Lib.hid hT
  have HTN:=Lib.hid hn
  have hpl:D.pend.length ≤ 1000000:=by have:=hO.2.2.2.2.1; omega
  clear hO hA hP hK hT hI hane hisA hn hbd hba hbx hn0 c2 c3 c4 c5 c6
  go_enter Tryz.func153,Tryz.ntmps153
  go_wp2_with fail
  go_loopw [8] (fun i' wr => ∃ k:Nat,k ≤ D.pend.length ∧ i'=.int .i64 k ∧ Own wr base 72 512 (some ⟨a,0,none⟩) D.lasts.length cA (secC (Dk.puts D.lasts (D.pend.take k))) ∧ KT (some a) base [] w wr) (fun i' _ => D.pend.length - (intOf i').toNat)
  case atStart => exact ⟨0,Nat.zero_le _,rfl,HA.out,KT.refl _ _ _ _⟩
  case round =>
    obtain ⟨k,hk,rfl,hOw,hKT⟩:=hrel
    have HOw:=Lib.hid hOw
    have HKT:=Lib.hid hKT
    have hIr:=HI.out.kt hKT (.inr ⟨ne_a HIA.out (by decide) ⟨_,HI.out⟩,by simp⟩)
    have hBr:=HB.out.kt hKT (.inr ⟨ne_a HIA.out (by decide) ⟨_,HB.out⟩,by simp⟩)
    have hPr:=HP.out.kt hKT (by simp) (fun g hg => ne_a HIA.out (by decide) (HP.out.typed g hg).2)
    obtain ⟨r0,r1,r2,r3,r4,r5,r6,r7⟩:=dcells hIr
    have rb:=hBr.cell 0
    have HIr:=Lib.hid hIr
    have HPr:=Lib.hid hPr
    have HBr:=Lib.hid hBr
    have hsr:=hKT.size
    by_cases hlt:k < D.pend.length
    · clear hOw hKT hIr hPr hBr r2 r3 r4 r5 r6 r7
      have hk0:(k:Int) < (D.pend.length:Int):=by omega
      have hk1:(0:Int) ≤ (k:Int):=by omega
      obtain ⟨gp,hgp,_,_⟩:=HPr.out.form (by omega)
      subst hgp
      obtain ⟨hrg,hl513⟩:=pen_range HO.out HPr.out hlt
      have hx:=HO.out.2.2.2.1 _ (List.getElem_mem hlt)
      have harm:∀ w8,Is w8 wr.heap.size 189 (penCell D.pend[k]).toArray → w8.cell? ⟨wr.heap.size,0,none⟩=some (.int .i64 (D.pend[k].1:Int)) ∧ w8.rangeAt wr.heap.size 1 (cellsOf8 D.pend[k].2):=fun w8 h1 => ⟨h1.cell 0,fun j v hv => by rw [h1.cell (1 + j)]; simp [penCell,Nat.add_comm 1 j]; exact hv⟩
      have h1c:(penCell D.pend[k]).toArray.all (·.oneCell')=true:=all_oneCell_toArray (penCell_one _)
      have hyes:=puts_next D k hlt
      obtain ⟨pc,hpe⟩:∃ pc,penCell D.pend[k]=pc:=⟨_,rfl⟩
      obtain ⟨xi,hxi⟩:∃ xi,D.pend[k].1=xi:=⟨_,rfl⟩
      obtain ⟨xb,hxb⟩:∃ xb,D.pend[k].2=xb:=⟨_,rfl⟩
      rw [hpe] at hrg hl513 harm h1c
      rw [hxi,hxb] at harm hyes hx
      have H1C:=Lib.hid h1c
      have HARM:=Lib.hid harm
      have HRG:=Lib.hid hrg
      have HL:=Lib.hid hl513
      have HY:=Lib.hid hyes
      have HX:=Lib.hid hx
      have r0b:=block_lt_of_cell r0
      have rbb:=block_lt_of_cell rb
      clear hrg hl513 hpe harm h1c hlt hxi hxb hyes hx
      go_wp2_with (first
          | (refine wpList_load_mid rfl 189 (.tmp 10) (by rfl) gp (k * 513) (by rfl) _ _ HRG.out Tryz.underlying189 rfl (by rw [HL.out]; exact infoPen) ?_)
          | (refine wpList_store_row rfl 189 (.tmp 2) (.tmp 11) rfl wr.heap.size pc.toArray (by rfl) (by rfl) 189 _ (Is.new wr _ _) (by rw [List.size_toArray,HL.out]; exact infoPen) (Tryz.zeroCells189_size.trans (show 513=pc.toArray.size by rw [List.size_toArray,HL.out])) H1C.out ?_
             obtain ⟨q1,q2⟩:=HARM.out _ ((Is.new wr 189 Tryz.zeroCells189).row pc.toArray)
             have q3:=below_setRow (below_new wr (.cells Tryz.zeroCells189 189)) (Nat.le_refl _) pc.toArray
             generalize (World.setRow (wr.alloc (.cells Tryz.zeroCells189 189)) wr.heap.size pc.toArray)=w8 at q1 q2 q3 ⊢
             have Q2:=Lib.hid q2
             have Q3:=Lib.hid q3
             have rb8:w8.cell? ⟨bx,0,none⟩=some (.pointer (some ⟨d,0,none⟩)):=(q3.cell (p:=⟨bx,0,none⟩) rbb).trans rb
             have r08:w8.cell? ⟨d,0,none⟩=some (.slice (some ⟨a,0,none⟩) D.lasts.length cA):=(q3.cell (p:=⟨d,0,none⟩) r0b).trans r0
             clear q2 q3))
      have hxi0:(0:Int) ≤ (xi:Int):=by omega
      have hxi1:(xi:Int) < (D.lasts.length:Int):=by have:=HX.out.1; omega
      have q2:=Q2.out
      have hOw8:=HOw.out.later Q3.out
      have hth:w8.there a (xi * 512) 512:=hOw8.there _ _ (by have:=HX.out.1; omega)
      have hu:=Tryz.underlying72
      have hcl:(cellsOf8 xb).length=512:=by rw [cellsOf8_length]; exact HX.out.2
      have hi:(Tryz.prog.info? 72).map (·.size)=some (cellsOf8 xb).length:=by rw [hcl]; exact infoSec
      have h1:=cellsOf8_one xb
      have HOw8:=Lib.hid hOw8
      have hda:d ≠ a:=fun e => HNE.out e.symm
      have hba:bx ≠ a:=HBA.out
      have hga:wr.heap.size ≠ a:=by have:=HOw.out.lt a rfl; omega
      clear hOw8
      go_region_held3 (fun w' => w'.cell? ⟨d,0,none⟩=some (.slice (some ⟨a,0,none⟩) D.lasts.length cA) ∧ w'.cell? ⟨bx,0,none⟩=some (.pointer (some ⟨d,0,none⟩)) ∧ w'.cell? ⟨wr.heap.size,0,none⟩=some (.int .i64 (xi:Int)) ∧ w'.rangeAt wr.heap.size 1 (cellsOf8 xb) ∧ w'.there a (xi * 512) 512) (first | go_keep_ranges | (go_split_ands; refine ⟨?_,?_,?_,?_,?_⟩; exact (setC_cell _ _ _ _ _ _ hda).trans (by assumption); exact (setC_cell _ _ _ _ _ _ hba).trans (by assumption); exact (setC_cell _ _ _ _ _ _ hga).trans (by assumption); exact World.rangeAt_setCells_apart (by assumption) _ _ _ (.inl hga); exact World.there_setCells (by assumption) _ _ _)) (fail)
      have HOq:=Lib.hid (show Own (w8.drew.setCells a (xi * 512) (cellsOf8 xb)) base 72 512 (some ⟨a,0,none⟩) D.lasts.length cA (secC (Dk.puts D.lasts (D.pend.take (k + 1)))) from by
        rw [HY.out]
        have:=(show Own w8.drew base 72 512 (some ⟨a,0,none⟩) D.lasts.length cA (secC (Dk.puts D.lasts (D.pend.take k))) from HOw8.out).puts (cellsOf8 xb) (xi * 512)
        have e:setList (secC (Dk.puts D.lasts (D.pend.take k))) (xi * 512) (cellsOf8 xb)=secC ((Dk.puts D.lasts (D.pend.take k)).set xi xb) :=
          flat_set cellsOf8 512 _ (cell8_512 (puts_take_512 HO.out k).1) xi (by rw [(puts_take_512 HO.out k).2]; exact HX.out.1) xb (by rw [cellsOf8_length]; exact HX.out.2)
        rw [e] at this
        exact this)
      have HKq:=Lib.hid (show KT (some a) base [] w (w8.drew.setCells a (xi * 512) (cellsOf8 xb)) from by
        obtain ⟨_,cur,hi8⟩:=HOw8.out.typed a rfl
        exact (HKT.out.trans (KT.of_below Q3.out (Nat.le_refl _))).trans ((KT.drew w8).trans (KT.setCells (w:=w8.drew) hi8 hab (.inl rfl) (cellsOf8 xb))))
      clear hu hi h1 hcl q2 hth
      go_wp2_with fail
      go_roundw
      case rel => exact ⟨k + 1,by omega,by go_num,HOq.out,HKq.out⟩
      case measure => simp [intOf]; omega
    · obtain rfl:D.pend.length=k:=by omega
      have hKr:=HK.out.kt hKT (by simp) (fun b e ⟨cs,t,f,q1,q2⟩ => by
        injection e with e
        subst e
        obtain ⟨cur,hi⟩:=HIA.out
        rw [show w.heap[a]? = _ from hi] at q1
        injection q1 with q1
        injection q1 with _ q1
        simp at q2
        rw [q2] at q1
        exact absurd q1 (by decide))
      have hTr:=HT.out.kt hKT (by simp) (fun g hg => ne_a HIA.out (by decide) (HT.out.typed g hg).2)
      have e1:=hIr.free 1
      have hall:D.pend.take D.pend.length=D.pend:=List.take_length
      rw [hall] at hOw
      have hI1:=hIr.put 1 (.slice none 0 0)
      have k1:=KT.setCell (a:=some a) (i:=1) hIr hd (.inr (show 70 ∈ diskT by simp [diskT])) (.slice none 0 0)
      have hraw:DiskRaw (wr.setCell ⟨d,1,none⟩ (.slice none 0 0)) base a d { D with lasts:=Dk.puts D.lasts D.pend,pend := [] }:=by
        refine ⟨hd,cA,none,0,K,ck,wrt,flt,T,tn,ct,tc,?_,?_,Own.nil _ _ _ _,hKr.putD hIr hd _ _,hTr.putD hIr (by decide) _ _,HTN.out⟩
        · show Is _ d _ #[.slice (some ⟨a,0,none⟩) (Dk.puts D.lasts D.pend).length cA,_,_,_,_,_,_,_]
          rw [Dk.puts_length]; exact hI1
        · show Own _ base _ 512 _ (Dk.puts D.lasts D.pend).length cA _
          rw [Dk.puts_length]; exact hOw.putD hIr (by decide) _ _
      have hk2:KT (some a) base diskT w (wr.setCell ⟨d,1,none⟩ (.slice none 0 0)):=(hKT.mono (fun t ht => by cases ht)).trans k1
      have hB2:=hBr.kt (KT.setCell (a:=some d) (i:=1) (Ts := []) hIr hd (.inl rfl) (.slice none 0 0)) (.inr ⟨(fun e => HBD.out (by injection e)),by simp⟩)
      have HRAW:=Lib.hid hraw
      have HK2:=Lib.hid hk2
      have HB2:=Lib.hid hB2
      have rb2:=hB2.cell 0
      have c7':=hI1.cell 7
      have f7':=hI1.free 7
      have HI1:=Lib.hid hI1
      have HT1:=Lib.hid (hTr.putD hIr (by decide) 1 (.slice none 0 0))
      clear hOw hKT hIr hPr hBr hKr hTr hI1 k1 hraw hk2 hB2 r2 r3 r4 r5 r6 r7 r0
      go_upto_region 6 with fail
      generalize (wr.setCell ⟨d,1,none⟩ (.slice none 0 0))=wd at *
      obtain ⟨i1,hi1',hy0,hy1,hy2⟩:=info_parts infoAct
      have HI1':=Lib.hid hi1'
      have HY0:=Lib.hid hy0
      have HY1:=Lib.hid hy1
      have HY2:=Lib.hid hy2
      have HDT:=Lib.hid (show some d ≠ (Value.slice T tn ct).ownBlock from fun e => by
        rcases HT1.out.shape with h0 | ⟨g,h0⟩
        · rw [h0] at e; cases e
        · obtain ⟨_,cur,hi5⟩:=HT1.out.typed g h0
          rw [h0] at e
          injection e with e
          have e:d=g:=e
          subst e
          have h6:=hi5.symm.trans HI1.out
          injection h6 with h6
          injection h6 with _ h6
          exact absurd h6 (by decide))
      have HBT:=Lib.hid (show some bx ≠ (Value.slice T tn ct).ownBlock from fun e => by
        rcases HT1.out.shape with h0 | ⟨g,h0⟩
        · rw [h0] at e; cases e
        · obtain ⟨_,cur,hi5⟩:=HT1.out.typed g h0
          rw [h0] at e
          injection e with e
          have e:bx=g:=e
          subst e
          exact is_ne hi5 HB2.out (by decide) rfl)
      have htn:tn ≤ 1000000:=by have:=HTN.out; have:=HN0.out; omega
      have c76:(wd.alloc (.cells #[.int .i64 2,.int .i64 0,.slice none 0 0] 225)).cell? ⟨d,7,none⟩=some (.slice T tn ct):=((below_new wd (.cells #[.int .i64 2,.int .i64 0,.slice none 0 0] 225)).cell (p:=⟨d,7,none⟩) HI1.out.lt).trans c7'
      have cb6:(wd.alloc (.cells #[.int .i64 2,.int .i64 0,.slice none 0 0] 225)).cell? ⟨bx,0,none⟩=some (.pointer (some ⟨d,0,none⟩)):=((below_new wd (.cells #[.int .i64 2,.int .i64 0,.slice none 0 0] 225)).cell (p:=⟨bx,0,none⟩) HB2.out.lt).trans rb2
      have HOA:=Lib.hid (HT1.out.later (below_new wd (.cells #[.int .i64 2,.int .i64 0,.slice none 0 0] 225)))
      have hbs:base ≤ wd.heap.size:=by have q:d < wd.heap.size:=HI1.out.lt; omega
      clear hi1' hy0 hy1 hy2
      go_region_law (
           refine step_append_lies _ (by rfl) _ _ _ (by rfl) base 225 i1 (.agg #[.int .i64 0,.int .i64 0,.slice none 0 0]) 3 40 Tryz.underlying68 HI1'.out HY0.out HY1.out HY2.out rfl (by omega) (.slice T tn ct) tn tc (by simp [Act.eval,Act.put]) (show World.ownsRow (wd.alloc (.cells #[.int .i64 2,.int .i64 0,.slice none 0 0] 225)).drew base 225 3 (.slice T tn ct) tn tc from HOA.out) ⟨wd.heap.size,0,none⟩ 1 1 [.int .i64 2,.int .i64 0,.slice none 0 0] (by simp [Act.eval,Act.put]) (by rfl) (by have:=World.news_of_block (w:=wd.alloc (.cells #[.int .i64 2,.int .i64 0,.slice none 0 0] 225)) (B:=wd.heap.size) (cs := #[.int .i64 2,.int .i64 0,.slice none 0 0]) (t:=225) (fr:=(0,0)) (heap_alloc_new wd _); exact this) (by simp [Value.oneCell']) (by omega) (by simp only [maxLen]; omega) (by omega) (by simp; omega) (wd.heap.size + 1) (by simp) ?_
           intro gg cap2 w1 hown1 hgrow hat hlt
           have hdl:d < (wd.alloc (.cells #[.int .i64 2,.int .i64 0,.slice none 0 0] 225)).heap.size:=by rw [World.size_alloc]; have q:d < wd.heap.size:=HI1.out.lt; omega
           have hbl:bx < (wd.alloc (.cells #[.int .i64 2,.int .i64 0,.slice none 0 0] 225)).heap.size:=by rw [World.size_alloc]; have q:bx < wd.heap.size:=HB2.out.lt; omega
           have c1':w1.cell? ⟨d,7,none⟩=some (.slice T tn ct):=(hgrow.cell_far ⟨d,7,none⟩ hdl HDT.out).trans c76
           have cb':w1.cell? ⟨bx,0,none⟩=some (.pointer (some ⟨d,0,none⟩)):=(hgrow.cell_far ⟨bx,0,none⟩ hbl HBT.out).trans cb6
           have f1':w1.frozen? ⟨d,7,none⟩=false:=(hgrow.frozen_far ⟨d,7,none⟩ hdl HDT.out).trans (((below_new wd _).frozen (p:=⟨d,7,none⟩) HI1.out.lt).trans f7'))
      all_goals (have hgrow':World.grownBy (wd.alloc (.cells #[.int .i64 2,.int .i64 0,.slice none 0 0] 225)).drew w1 (Value.slice T tn ct).ownBlock:=hgrow)
      all_goals (obtain ⟨fin1,fin2⟩:=taped_at (below_new wd (.cells #[.int .i64 2,.int .i64 0,.slice none 0 0] 225)).drew HRAW.out c7' HT1.out HTN.out hown1 hgrow')
      all_goals go_wp2_with fail
      all_goals go_end0
      all_goals exact ⟨rfl,fin1.at_ HO.out.flushed,HK2.out.trans fin2⟩
end Go.Proofs.YthkijogloebdoaaGreatDoor
end
section
namespace Go.Proofs.YthkijogloebdoaaGreatDoor
open Go.RowKit
set_option maxRecDepth 100000 in
set_option maxHeartbeats 3200000 in
theorem dflush_any (base a d:Nat)(D:Dk)(w:World)(h:DiskAt w base a d D)(hdn:D.down=false)(hbw:base ≤ w.heap.size)(hn0:D.n ≤ 1000000) :
    Calls Tryz.prog 121 #[.pointer (some ⟨d,0,none⟩)] w fun e w' => e=.returned (.int .i64 D.err) ∧ DiskAt w' base a d D.flush ∧ KT (some a) base diskT w w':=by
  have hb:=below_new w (.cells #[.pointer (some ⟨d,0,none⟩)] 24)
  have h1:=h.later hb
  have hbx:Is (w.alloc (.cells #[.pointer (some ⟨d,0,none⟩)] 24)) w.heap.size 24 #[.pointer (some ⟨d,0,none⟩)]:=Is.new w _ _
  have hk0:KT (some a) base diskT w (w.alloc (.cells #[.pointer (some ⟨d,0,none⟩)] 24)):=KT.of_below hb (Nat.le_refl _)
  obtain ⟨_,_,hisA⟩:=h1.a_ne
  have hba:some w.heap.size ≠ some a:=ne_a hisA (by decide) ⟨_,hbx⟩
  have HBA:=Lib.hid hba
  obtain ⟨hO,hd,cA,P,cp,K,ck,wrt,flt,T,tn,ct,tc,hI,_⟩:=h1
  obtain ⟨c0,c1,c2,c3,c4,c5,c6,c7⟩:=dcells hI
  rw [hdn] at c4
  have f6:=hI.free 6
  have b0:=hbx.cell 0
  have hbd:w.heap.size ≠ d:=is_ne hbx hI (by decide)
  have HFL:=Lib.hid (fun v => fl_stored (h.later hb) v)
  have HBX:=Lib.hid (show ∀ v,Is ((w.alloc (.cells #[.pointer (some ⟨d,0,none⟩)] 24)).setCell ⟨d,6,none⟩ (.int .i64 v)) w.heap.size 24 #[.pointer (some ⟨d,0,none⟩)] from fun v =>
    hbx.kt (KT.setCell (a:=some d) (i:=6) (Ts := []) hI hd (.inl rfl) _) (.inr ⟨(fun e => hbd (by injection e)),by simp⟩))
  have HK1:=Lib.hid (fun v => hk0.trans (DiskAt.kt1 (h.later hb) 6 (.int .i64 v)))
  have HN0:=Lib.hid hn0
  obtain ⟨lf,hlf⟩:∃ lf,D.left=lf:=⟨_,rfl⟩
  clear h hb hbx hk0 hisA hba hI hdn hO c0 c1 c2 c3 c5 c7 hn0
  by_cases h1:lf=1
  · have HW := Lib.hid (show D.flush=D.cut D.keep from by unfold Dk.flush; rw [if_pos (by rw [hlf]; exact h1)])
    have HE:=Lib.hid (show D.err=30 from by unfold Dk.err; rw [if_pos (by rw [hlf]; exact h1)])
    have HL1:=Lib.hid (show D.left=1 from by rw [hlf]; exact h1)
    clear h1 hlf
    go_enter Tryz.func121,Tryz.ntmps121
    go_wp2_with (go_at_call 152
                 refine (dstep_cut base a d _ _ _ (HFL.out _) HL1.out).mono ?_
                 rintro e w9 ⟨rfl,hD9,hk9⟩
                 have HD9:=Lib.hid hD9
                 have HK9:=Lib.hid hk9
                 clear hD9 hk9)
    go_ret
    exact ⟨by rw [HE.out]; rfl,by rw [HW.out]; exact HD9.out,(HK1.out _).trans HK9.out⟩
  · have HW := Lib.hid (show D.flush=D.less.flushed from by unfold Dk.flush; rw [if_neg (by rw [hlf]; exact h1)]; rfl)
    have HE:=Lib.hid (show D.err=0 from by unfold Dk.err; rw [if_neg (by rw [hlf]; exact h1)])
    have HL1:=Lib.hid (show D.left ≠ 1 from by rw [hlf]; exact h1)
    clear h1 hlf
    go_enter Tryz.func121,Tryz.ntmps121
    go_wp2_with (go_at_call 152
                 refine (dstep_fn base a d w.heap.size _ _ (HFL.out _) HL1.out (fun W' => DiskAt W' base a d D.less.flushed ∧ KT (some a) base diskT w W') (fun W hW hkW => (dflush1_any base a d w.heap.size D.less W hW ((HBX.out _).kt hkW (.inr ⟨HBA.out,by simp [diskT]⟩)) HN0.out).mono (by rintro e w5 ⟨rfl,q1,q2⟩; exact ⟨rfl,q1,((HK1.out _).trans hkW).trans q2⟩))).mono ?_
                 rintro e w9 ⟨rfl,hD9,hk9⟩
                 have HD9:=Lib.hid hD9
                 have HK9:=Lib.hid hk9
                 clear hD9 hk9)
    go_ret
    exact ⟨by rw [HE.out]; rfl,by rw [HW.out]; exact HD9.out,HK9.out⟩
end Go.Proofs.YthkijogloebdoaaGreatDoor
end
section
namespace Go.Proofs.YthkijogloebdoaaGreatDoor
namespace Dk
def step1 (D:Dk):Option (Nat × List UInt8) → Dk
  | some x => D.write x.1 x.2
  | none => D.flush
def does (D:Dk):List (Option (Nat × List UInt8)) → Dk × Int
  | [] => (D,0)
  | s :: r => if D.err=0 then does (D.step1 s) r else (D.step1 s,D.err)
def phase (ws:List (Nat × List UInt8)):List (Option (Nat × List UInt8)):=ws.map some ++ [none]
def Closed (P:List (List UInt8) → Prop)(ws:List (Nat × List UInt8)):Prop := ∀ x ∈ ws,∀ L,P L → P (L.set x.1 x.2)
theorem err_two (D:Dk):(D.left=1 ∧ D.err=30) ∨ (D.left ≠ 1 ∧ D.err=0):=by
  unfold err
  by_cases h:D.left=1
  · exact .inl ⟨h,by rw [if_pos h]⟩
  · exact .inr ⟨h,by rw [if_neg h]⟩
theorem does_append (s r:List (Option (Nat × List UInt8))):∀ D:Dk,does D (s ++ r)=if (does D s).2=0 then does (does D s).1 r else does D s:=by
  induction s with
  | nil => intro D; simp [does]
  | cons x s ih =>
    intro D
    have e:∀ t,does D (x :: t)=if D.err=0 then does (D.step1 x) t else (D.step1 x,D.err):=fun t => rfl
    rw [List.cons_append,e,e]
    by_cases h:D.err=0
    · rw [if_pos h,if_pos h]; exact ih _
    · rw [if_neg h,if_neg h,if_neg h]
theorem kept_closed {P:List (List UInt8) → Prop}{L:List (List UInt8)}{p:List (Nat × List UInt8)}(keep:List Bool)(hL:P L)(hc:Closed P p)(k:Nat):P (kept L p keep k):=by
  induction k with
  | zero => exact hL
  | succ k ih =>
    unfold kept
    split
    · split
      · exact hc _ (List.getElem_mem _) _ ih
      · exact ih
    · exact ih
theorem puts_closed {P:List (List UInt8) → Prop}(p:List (Nat × List UInt8)):∀ {L:List (List UInt8)},P L → Closed P p → P (puts L p):=by
  induction p with
  | nil => intro L h _; exact h
  | cons x p ih => intro L h hc; exact ih (hc x (List.mem_cons_self ..) L h) (fun y hy => hc y (List.mem_cons_of_mem _ hy))
structure Went (P:List (List UInt8) → Prop)(D:Dk)(m:Nat)(L:List (List UInt8))(r:Dk × Int):Prop where
  n:r.1.n ≤ D.n + m
  pend:r.1.pend=[]
  ends:(r.2=0 ∧ r.1.down=false ∧ r.1.lasts=L ∧ (D.left=0 → r.1.left=0)) ∨ (r.2=30 ∧ r.1.down=true ∧ P r.1.lasts ∧ D.left ≠ 0)
theorem went_phase (P:List (List UInt8) → Prop)(ws:List (Nat × List UInt8)):∀ (D:Dk),D.down=false → P D.lasts → Closed P D.pend → Closed P ws →
    Went P D (ws.length + 1) (puts D.lasts (D.pend ++ ws)) (does D (phase ws)):=by
  induction ws with
  | nil =>
    intro D hd hP hc _
    rcases err_two D with ⟨h1,h2⟩ | ⟨h1,h2⟩
    · have e:does D (phase [])=(D.flush,30):=by
        show (if D.err=0 then _ else (D.flush,D.err))=_
        rw [h2]; rfl
      have f:D.flush=D.cut D.keep:=by unfold flush; rw [if_pos h1]
      rw [e,f]
      exact ⟨by show D.n ≤ _; omega,rfl,.inr ⟨rfl,rfl,kept_closed _ hP hc _,by omega⟩⟩
    · have e:does D (phase [])=(D.flush,0):=by
        show (if D.err=0 then does D.flush [] else _)=_
        rw [h2]; rfl
      have f:D.flush = { D with lasts:=puts D.lasts D.pend,pend := [],left:=D.left - 1,n:=D.n + 1 }:=by unfold flush; rw [if_neg h1]
      rw [e,f]
      exact ⟨Nat.le_refl _,rfl,.inl ⟨rfl,hd,by rw [List.append_nil],fun h => by show D.left - 1=0; omega⟩⟩
  | cons x ws ih =>
    intro D hd hP hc hw
    have hc2:Closed P (D.pend ++ [x]):=fun y hy => by
      rcases List.mem_append.1 hy with hy | hy
      · exact hc y hy
      · simp at hy; subst hy; exact hw y (List.mem_cons_self ..)
    rcases err_two D with ⟨h1,h2⟩ | ⟨h1,h2⟩
    · have e:does D (phase (x :: ws))=(D.write x.1 x.2,30):=by
        show (if D.err=0 then _ else (D.write x.1 x.2,D.err))=_
        rw [h2]; rfl
      have f:D.write x.1 x.2=({ D with pend:=D.pend ++ [x],n:=D.n + 1 }:Dk).cut D.keep:=by unfold write; rw [if_pos h1]
      rw [e,f]
      exact ⟨by show D.n + 1 ≤ D.n + ((x :: ws).length + 1); omega,rfl,.inr ⟨rfl,rfl,kept_closed _ hP hc2 _,by omega⟩⟩
    · have e:does D (phase (x :: ws))=does (D.write x.1 x.2) (phase ws):=by
        show (if D.err=0 then does (D.write x.1 x.2) (ws.map some ++ [none]) else _)=_
        rw [h2]; rfl
      have f:D.write x.1 x.2 = { D with pend:=D.pend ++ [x],left:=D.left - 1,n:=D.n + 1 }:=by unfold write; rw [if_neg h1]
      rw [e,f]
      obtain ⟨q1,q2,q3⟩:=ih ({ D with pend:=D.pend ++ [x],left:=D.left - 1,n:=D.n + 1 }:Dk) hd hP hc2 (fun y hy => hw y (List.mem_cons_of_mem _ hy))
      refine ⟨?_,q2,?_⟩
      · have q1:_ ≤ (D.n + 1) + (ws.length + 1):=q1
        rw [List.length_cons]; omega
      · rcases q3 with ⟨a1,a2,a3,a4⟩ | ⟨a1,a2,a3,a4⟩
        · refine .inl ⟨a1,a2,?_,fun h => a4 (by show D.left - 1=0; omega)⟩
          rw [a3]
          show puts D.lasts ((D.pend ++ [x]) ++ ws)=_
          rw [List.append_assoc]; rfl
        · exact .inr ⟨a1,a2,a3,fun h => a4 (by show D.left - 1=0; omega)⟩
theorem went_more {P:List (List UInt8) → Prop}{D:Dk}{m m2:Nat}{L L2:List (List UInt8)}{s r:List (Option (Nat × List UInt8))}(h:Went P D m L (does D s))(k:∀ E:Dk,E.down=false → E.pend=[] → E.lasts=L → Went P E m2 L2 (does E r)) :
    Went P D (m + m2) L2 (does D (s ++ r)):=by
  rw [does_append]
  obtain ⟨q1,q2,q3⟩:=h
  rcases q3 with ⟨a1,a2,a3,a4⟩ | ⟨a1,a2,a3,a4⟩
  · rw [if_pos a1]
    obtain ⟨p1,p2,p3⟩:=k _ a2 q2 a3
    refine ⟨by omega,p2,?_⟩
    rcases p3 with ⟨b1,b2,b3,b4⟩ | ⟨b1,b2,b3,b4⟩
    · exact .inl ⟨b1,b2,b3,fun h => b4 (a4 h)⟩
    · exact .inr ⟨b1,b2,b3,fun h => b4 (a4 h)⟩
  · rw [if_neg (by rw [a1]; decide)]
    exact ⟨by omega,q2,.inr ⟨a1,a2,a3,a4⟩⟩
theorem Went.mono {P Q:List (List UInt8) → Prop}{D:Dk}{m:Nat}{L:List (List UInt8)}{r:Dk × Int}(h:Went P D m L r)(hpq:∀ L,P L → Q L):Went Q D m L r :=
  ⟨h.n,h.pend,h.ends.imp id fun ⟨a,b,c,d⟩ => ⟨a,b,hpq _ c,d⟩⟩
end Dk
def lastOf (b:List UInt8)(ws:List (Nat × List UInt8))(j:Nat):List UInt8:=ws.foldl (fun b x => if x.1=j then x.2 else b) b
theorem getD_set (L:List (List UInt8))(i j:Nat)(b:List UInt8)(h:i < L.length):(L.set i b).getD j []=if i=j then b else L.getD j []:=by
  rw [List.getD_eq_getElem?_getD,List.getElem?_set]
  by_cases e:i=j
  · subst e; simp [h]
  · simp [e,List.getD_eq_getElem?_getD]
theorem puts_getD (ws:List (Nat × List UInt8)):∀ (L:List (List UInt8))(j:Nat),(∀ x ∈ ws,x.1 < L.length) → (Dk.puts L ws).getD j []=lastOf (L.getD j []) ws j:=by
  induction ws with
  | nil => intro L j _; rfl
  | cons x ws ih =>
    intro L j h
    show (Dk.puts (L.set x.1 x.2) ws).getD j []=lastOf (if x.1=j then x.2 else L.getD j []) ws j
    rw [ih _ _ (fun y hy => by rw [List.length_set]; exact h y (List.mem_cons_of_mem _ hy)),getD_set _ _ _ _ (h x (List.mem_cons_self ..))]
theorem lastOf_in (ws:List (Nat × List UInt8))(j:Nat):∀ b c:List UInt8,(∃ x ∈ ws,x.1=j) → lastOf b ws j=lastOf c ws j:=by
  induction ws with
  | nil => intro b c ⟨x,hx,_⟩; cases hx
  | cons x ws ih =>
    intro b c ⟨y,hy,e⟩
    show lastOf (if x.1=j then x.2 else b) ws j=lastOf (if x.1=j then x.2 else c) ws j
    by_cases hx:x.1=j
    · rw [if_pos hx,if_pos hx]
    · rw [if_neg hx,if_neg hx]
      rcases List.mem_cons.1 hy with rfl | hy
      · exact absurd e hx
      · exact ih b c ⟨y,hy,e⟩
theorem lastOf_out (ws:List (Nat × List UInt8))(j:Nat):∀ b:List UInt8,(∀ x ∈ ws,x.1 ≠ j) → lastOf b ws j=b:=by
  induction ws with
  | nil => intro b _; rfl
  | cons x ws ih =>
    intro b h
    show lastOf (if x.1=j then x.2 else b) ws j=b
    rw [if_neg (h x (List.mem_cons_self ..))]
    exact ih b (fun y hy => h y (List.mem_cons_of_mem _ hy))
def logW (k:Nat):List (List UInt8) → List (Nat × List UInt8)
  | [] => []
  | b :: r => (2 + k,b) :: logW (k + 1) r
theorem logW_length (l:List (List UInt8)):∀ k,(logW k l).length=l.length:=by
  induction l with
  | nil => intro k; rfl
  | cons b l ih => intro k; show (logW (k + 1) l).length + 1=_; rw [ih]; rfl
theorem logW_mem (l:List (List UInt8)):∀ k,∀ x ∈ logW k l,2 + k ≤ x.1 ∧ x.1 < 2 + k + l.length ∧ x.2 ∈ l:=by
  induction l with
  | nil => intro k x hx; cases hx
  | cons b l ih =>
    intro k x hx
    rcases List.mem_cons.1 hx with rfl | hx
    · exact ⟨Nat.le_refl _,by simp,List.mem_cons_self ..⟩
    · obtain ⟨h1,h2,h3⟩:=ih (k + 1) x hx
      exact ⟨by omega,by rw [List.length_cons]; omega,List.mem_cons_of_mem _ h3⟩
theorem logW_at (l:List (List UInt8)):∀ (k j:Nat)(h:j < l.length)(b:List UInt8),lastOf b (logW k l) (2 + k + j)=l[j]:=by
  induction l with
  | nil => intro k j h; simp at h
  | cons c l ih =>
    intro k j h b
    show lastOf (if 2 + k=2 + k + j then c else b) (logW (k + 1) l) (2 + k + j)=_
    cases j with
    | zero =>
      rw [if_pos (by omega),lastOf_out _ _ _ (fun x hx => by have:=(logW_mem l (k + 1) x hx).1; omega)]
      rfl
    | succ j =>
      rw [show 2 + k + (j + 1)=2 + (k + 1) + j by omega]
      exact ih (k + 1) j (by simpa using h) _
structure Tx where
  n:Nat
  H:List UInt8
  ws:List (Nat × List UInt8)
  old:Nat → List UInt8
namespace Tx
variable (T:Tx)
def data:List (List UInt8):=T.ws.map (·.2)
def new (j:Nat):List UInt8:=lastOf (T.old j) T.ws j
def zero:List UInt8:=List.replicate 512 0
def Rest (n:Nat)(f:Nat → List UInt8)(L:List (List UInt8)):Prop:=L.length=n ∧ L.getD 1 []=zero ∧ ∀ j,98 ≤ j → j < n → L.getD j []=f j
def LogIs (L:List (List UInt8)):Prop := ∀ k (h:k < T.data.length),L.getD (2 + k) []=T.data[k]
def Full (L:List (List UInt8)):Prop:=L.length=T.n ∧ L.getD 1 []=T.H ∧ T.LogIs L ∧ ∀ j,98 ≤ j → j < T.n → (∀ x ∈ T.ws,x.1 ≠ j) → L.getD j []=T.old j
def Mid (L:List (List UInt8)):Prop:=Rest T.n T.old L ∨ T.Full L ∨ Rest T.n T.new L
structure Ok:Prop where
  n:98 ≤ T.n
  few:T.ws.length ≤ 96
  nums:∀ x ∈ T.ws,98 ≤ x.1 ∧ x.1 < T.n
variable {T}
theorem full_home (h:T.Ok):Dk.Closed T.Full T.ws:=fun x hx L hL => by
  obtain ⟨h1,h2,h3,h4⟩:=hL
  have hn:=h.nums x hx
  have hn2:=h.n
  refine ⟨by rw [List.length_set]; exact h1,?_,fun k hk => ?_,fun j h5 h6 h7 => ?_⟩
  · rw [getD_set _ _ _ _ (by omega),if_neg (by omega)]; exact h2
  · have hk':=hk
    have hf:=h.few
    unfold data at hk'
    rw [List.length_map] at hk'
    rw [getD_set _ _ _ _ (by omega),if_neg (by omega)]; exact h3 k hk
  · rw [getD_set _ _ _ _ (by omega),if_neg (h7 x hx)]; exact h4 j h5 h6 h7
theorem full_done (h:T.Ok){L:List (List UInt8)}(hL:T.Full L):(Dk.puts L T.ws).length=T.n ∧ (Dk.puts L T.ws).getD 1 []=T.H ∧ T.LogIs (Dk.puts L T.ws) ∧ ∀ j,98 ≤ j → j < T.n → (Dk.puts L T.ws).getD j []=T.new j:=by
  have hf:=Dk.puts_closed T.ws hL (full_home h)
  refine ⟨hf.1,hf.2.1,hf.2.2.1,fun j h1 h2 => ?_⟩
  rw [puts_getD _ _ _ (fun x hx => by rw [hL.1]; exact (h.nums x hx).2)]
  by_cases e:∃ x ∈ T.ws,x.1=j
  · exact lastOf_in _ _ _ _ e
  · have e':∀ x ∈ T.ws,x.1 ≠ j:=fun x hx hj => e ⟨x,hx,hj⟩
    unfold new
    rw [lastOf_out _ _ _ e',lastOf_out _ _ _ e']
    exact hL.2.2.2 j h1 h2 e'
def Last (T:Tx)(L:List (List UInt8)):Prop:=L.length=T.n ∧ (L.getD 1 []=T.H ∨ L.getD 1 []=zero) ∧ T.LogIs L ∧ ∀ j,98 ≤ j → j < T.n → L.getD j []=T.new j
theorem last_closed (h:T.Ok):Dk.Closed T.Last [(1,zero)]:=fun x hx L hL => by
  simp at hx
  subst hx
  have hn:=h.n
  obtain ⟨h1,h2,h3,h4⟩:=hL
  refine ⟨by rw [List.length_set]; exact h1,.inr ?_,fun k hk => ?_,fun j h5 h6 => ?_⟩
  · rw [getD_set _ _ _ _ (by omega),if_pos rfl]
  · rw [getD_set _ _ _ _ (by omega),if_neg (by show ¬ 1=_; omega)]; exact h3 k hk
  · rw [getD_set _ _ _ _ (by omega),if_neg (by show ¬ 1=_; omega)]; exact h4 j h5 h6
theorem last_mid {L:List (List UInt8)}(hL:T.Last L):T.Mid L:=by
  obtain ⟨h1,h2,h3,h4⟩:=hL
  rcases h2 with h2 | h2
  · refine .inr (.inl ⟨h1,h2,h3,fun j h5 h6 h7 => ?_⟩)
    rw [h4 j h5 h6]; exact lastOf_out _ _ _ h7
  · exact .inr (.inr ⟨h1,h2,h4⟩)
def home (ws:List (Nat × List UInt8)):List (Option (Nat × List UInt8)):=Dk.phase ws ++ Dk.phase [(1,zero)]
def whole (H:List UInt8)(ws:List (Nat × List UInt8)):List (Option (Nat × List UInt8)):=Dk.phase (logW 0 (ws.map (·.2))) ++ (Dk.phase [(1,H)] ++ home ws)
structure Ends (T:Tx)(D:Dk)(m:Nat)(r:Dk × Int):Prop where
  n:r.1.n ≤ D.n + m
  pend:r.1.pend=[]
  ends:(r.2=0 ∧ r.1.down=false ∧ Rest T.n T.new r.1.lasts ∧ (D.left=0 → r.1.left=0)) ∨ (r.2=30 ∧ r.1.down=true ∧ T.Mid r.1.lasts ∧ D.left ≠ 0)
theorem Ends.of {D:Dk}{m:Nat}{L:List (List UInt8)}{r:Dk × Int}(h:Dk.Went T.Mid D m L r)(hL:Rest T.n T.new L):T.Ends D m r :=
  ⟨h.n,h.pend,h.ends.imp (fun ⟨a,b,c,d⟩ => ⟨a,b,by rw [c]; exact hL,d⟩) id⟩
theorem home_went (h:T.Ok)(D:Dk)(hd:D.down=false)(hp:D.pend=[])(hL:T.Full D.lasts) :
    Dk.Went T.Mid D (T.ws.length + 3) ((Dk.puts D.lasts T.ws).set 1 zero) (Dk.does D (home T.ws)):=by
  have w1:=Dk.went_phase T.Full T.ws D hd hL (by rw [hp]; intro x hx; cases hx) (full_home h)
  rw [hp,List.nil_append] at w1
  obtain ⟨g1,g2,g3,g4⟩:=full_done h hL
  refine Dk.went_more (m:=T.ws.length + 1) (m2:=2) (w1.mono fun L hL => .inr (.inl hL)) fun E e1 e2 e3 => ?_
  have w2:=Dk.went_phase T.Last [(1,zero)] E e1 (by rw [e3]; exact ⟨g1,.inl g2,g3,g4⟩) (by rw [e2]; intro x hx; cases hx) (last_closed h)
  rw [e2,List.nil_append,e3] at w2
  exact w2.mono fun L hL => last_mid hL
theorem home_rest (h:T.Ok){L:List (List UInt8)}(hL:T.Full L):Rest T.n T.new ((Dk.puts L T.ws).set 1 zero):=by
  obtain ⟨g1,g2,g3,g4⟩:=full_done h hL
  have hn:=h.n
  refine ⟨by rw [List.length_set]; exact g1,?_,fun j h1 h2 => ?_⟩
  · rw [getD_set _ _ _ _ (by omega),if_pos rfl]
  · rw [getD_set _ _ _ _ (by omega),if_neg (by omega)]; exact g4 j h1 h2
def Headed (T:Tx)(L:List (List UInt8)):Prop:=L.length=T.n ∧ (L.getD 1 []=zero ∨ L.getD 1 []=T.H) ∧ T.LogIs L ∧ ∀ j,98 ≤ j → j < T.n → L.getD j []=T.old j
theorem headed_closed (h:T.Ok):Dk.Closed T.Headed [(1,T.H)]:=fun x hx L hL => by
  simp at hx
  subst hx
  have hn:=h.n
  obtain ⟨h1,h2,h3,h4⟩:=hL
  refine ⟨by rw [List.length_set]; exact h1,.inr ?_,fun k hk => ?_,fun j h5 h6 => ?_⟩
  · rw [getD_set _ _ _ _ (by omega),if_pos rfl]
  · rw [getD_set _ _ _ _ (by omega),if_neg (by show ¬ 1=_; omega)]; exact h3 k hk
  · rw [getD_set _ _ _ _ (by omega),if_neg (by show ¬ 1=_; omega)]; exact h4 j h5 h6
theorem headed_mid {L:List (List UInt8)}(hL:T.Headed L):T.Mid L:=by
  obtain ⟨h1,h2,h3,h4⟩:=hL
  rcases h2 with h2 | h2
  · exact .inl ⟨h1,h2,h4⟩
  · exact .inr (.inl ⟨h1,h2,h3,fun j h5 h6 _ => h4 j h5 h6⟩)
theorem data_length:T.data.length=T.ws.length:=by unfold data; rw [List.length_map]
theorem rest_closed (h:T.Ok):Dk.Closed (Rest T.n T.old) (logW 0 T.data):=fun x hx L hL => by
  obtain ⟨h1,h2,h3⟩:=hL
  have hm:=logW_mem _ _ x hx
  rw [data_length] at hm
  have hf:=h.few
  have hn:=h.n
  refine ⟨by rw [List.length_set]; exact h1,?_,fun j h5 h6 => ?_⟩
  · rw [getD_set _ _ _ _ (by omega),if_neg (by omega)]; exact h2
  · rw [getD_set _ _ _ _ (by omega),if_neg (by omega)]; exact h3 j h5 h6
theorem logged (h:T.Ok){L:List (List UInt8)}(hL:Rest T.n T.old L):T.LogIs (Dk.puts L (logW 0 T.data)):=fun k hk => by
  have hf:=h.few
  have hn:=h.n
  have hdl:=data_length (T:=T)
  rw [puts_getD _ _ _ (fun x hx => by have hm:=logW_mem _ _ x hx; have:=hL.1; omega),show 2 + k=2 + 0 + k by omega]
  exact logW_at _ _ _ hk _
theorem whole_ends (h:T.Ok)(D:Dk)(hd:D.down=false)(hp:D.pend=[])(hL:Rest T.n T.old D.lasts):T.Ends D (2 * T.ws.length + 6) (Dk.does D (whole T.H T.ws)):=by
  have w1:=Dk.went_phase (Rest T.n T.old) (logW 0 T.data) D hd hL (by rw [hp]; intro x hx; cases hx) (rest_closed h)
  rw [hp,List.nil_append,logW_length,data_length] at w1
  have hr:=Dk.puts_closed _ hL (rest_closed h)
  have hlg:=logged h hL
  have hn:=h.n
  have key:Headed T (Dk.puts (Dk.puts D.lasts (logW 0 T.data)) [(1,T.H)]):=Dk.puts_closed _ ⟨hr.1,.inl hr.2.1,hlg,hr.2.2⟩ (headed_closed h)
  have hfull:T.Full (Dk.puts (Dk.puts D.lasts (logW 0 T.data)) [(1,T.H)]):=by
    refine ⟨key.1,?_,key.2.2.1,fun j h5 h6 _ => key.2.2.2 j h5 h6⟩
    show ((Dk.puts D.lasts (logW 0 T.data)).set 1 T.H).getD 1 []=_
    rw [getD_set _ _ _ _ (by rw [hr.1]; omega),if_pos rfl]
  have all:=Dk.went_more (m:=T.ws.length + 1) (m2:=2 + (T.ws.length + 3)) (L2:=(Dk.puts (Dk.puts (Dk.puts D.lasts (logW 0 T.data)) [(1,T.H)]) T.ws).set 1 zero) (r:=Dk.phase [(1,T.H)] ++ home T.ws) (w1.mono fun L hL => (.inl hL:T.Mid L)) fun E e1 e2 e3 => by
    have w2:=Dk.went_phase T.Headed [(1,T.H)] E e1 (by rw [e3]; exact ⟨hr.1,.inl hr.2.1,hlg,hr.2.2⟩) (by rw [e2]; intro x hx; cases hx) (headed_closed h)
    rw [e2,List.nil_append,e3] at w2
    refine Dk.went_more (w2.mono fun L hL => headed_mid hL) fun F f1 f2 f3 => ?_
    have w3:=home_went h F f1 f2 (by rw [f3]; exact hfull)
    rw [f3] at w3
    exact w3
  have e:=Ends.of all (home_rest h hfull)
  exact ⟨by have:=e.n; show (Dk.does D (Dk.phase (logW 0 T.data) ++ (Dk.phase [(1,T.H)] ++ home T.ws))).1.n ≤ _; omega,e.pend,e.ends⟩
end Tx
end Go.Proofs.YthkijogloebdoaaGreatDoor
end
section
namespace Go.Proofs.YthkijogloebdoaaGreatDoor
open Go.RowKit
abbrev Stp:=Option (Nat × List UInt8)
def StepV (w:World)(base a:Nat)(v:Value):Stp → Prop
  | none => v=.func (.func 120) #[] #[]
  | some x => x.2.length=512 ∧ ∃ bi bb A c,v=.func (.func 118) #[] #[.pointer (some ⟨bi,0,none⟩),.pointer (some ⟨bb,0,none⟩)] ∧ Is w bi 3 #[.int .i64 (x.1:Int)] ∧ Is w bb 28 #[.slice A 512 c] ∧ Buf w base (some a) A x.2
theorem Buf.kt2 {w w2:World}{base sb:Nat}{a s:Option Nat}{A:Option Addr}{l:List UInt8}{Ts:List TypeId}(h:Buf w base a A l)(k:KT s sb Ts w w2)(hb:base ≤ sb)(h1:5 ∉ Ts)(h2:72 ∉ Ts)(hs:∀ g,s=some g → base ≤ g ∧ ¬ Tk w g [5,72]):Buf w2 base a A l:=by
  rcases h with h | ⟨g,off,cs,t,f,rfl,hg,hs',hc⟩
  · exact .inl h
  · have hlt:g < w.heap.size:=(Array.getElem?_eq_some_iff.1 hg).1
    have e:w2.heap[g]? = w.heap[g]?:=by
      rcases hs' with hs' | ⟨h3,h4⟩
      · exact k.block g hlt (.inl (by omega))
      · refine k.block g hlt (.inr ⟨fun e => ?_,fun ⟨cs',t',f',h5,h6⟩ => ?_⟩)
        · exact (hs g e.symm).2 ⟨_,_,_,hg,h4⟩
        · rw [hg] at h5
          injection h5 with h5
          injection h5 with _ h5
          subst h5
          simp at h4
          rcases h4 with h4 | h4
          · rw [h4] at h6; exact h1 h6
          · rw [h4] at h6; exact h2 h6
    exact .inr ⟨g,off,cs,t,f,rfl,e.trans hg,hs',fun i hi => (World.cell?_of_block (a:=⟨g,off + i,none⟩) e).trans (hc i hi)⟩
theorem Buf.later {w w2:World}{base:Nat}{a:Option Nat}{A:Option Addr}{l:List UInt8}(h:Buf w base a A l)(hb:Below w.heap.size w w2):Buf w2 base a A l:=h.kt (KT.of_below (base:=base) (Ts := []) hb (Nat.le_refl _)) (by simp) (by simp)
def stepT:List TypeId := [163]
theorem StepV.ktS {w w2:World}{base a sp sb:Nat}{v:Value}{s:Stp}{cs:Array Value}(h:StepV w base a v s)(hsp:Is w sp 160 cs)(k:KT (some sp) sb stepT w w2)(hb:base ≤ sb)(hs:sb ≤ sp):StepV w2 base a v s:=by
  cases s with
  | none => exact h
  | some x =>
    obtain ⟨h5,bi,bb,A,c,h1,h2,h3,h4⟩:=h
    refine ⟨h5,bi,bb,A,c,h1,h2.kt k (.inr ⟨fun e => ?_,by simp [stepT]⟩),h3.kt k (.inr ⟨fun e => ?_,by simp [stepT]⟩),h4.kt2 k hb (by simp [stepT]) (by simp [stepT]) fun g e => ?_⟩
    · injection e with e; exact is_ne h2 hsp (by decide) e
    · injection e with e; exact is_ne h3 hsp (by decide) e
    · injection e with e
      subst e
      refine ⟨by omega,fun ⟨cs',t,f,q1,q2⟩ => ?_⟩
      rw [show w.heap[sp]? = _ from hsp] at q1
      injection q1 with q1
      injection q1 with _ q1
      subst q1
      simp at q2
theorem StepV.ktD {w w2:World}{base a:Nat}{v:Value}{s:Stp}(h:StepV w base a v s)(hA:∃ cur,Is w a 72 cur)(k:KT (some a) base diskT w w2):StepV w2 base a v s:=by
  cases s with
  | none => exact h
  | some x =>
    obtain ⟨h5,bi,bb,A,c,h1,h2,h3,h4⟩:=h
    exact ⟨h5,bi,bb,A,c,h1,h2.kt k (.inr ⟨ne_a hA (by decide) ⟨_,h2⟩,by simp [diskT]⟩),h3.kt k (.inr ⟨ne_a hA (by decide) ⟨_,h3⟩,by simp [diskT]⟩),h4.kt k (diskT_ne (by simp)) (diskT_ne (by simp))⟩
theorem StepV.later {w w2:World}{base a:Nat}{v:Value}{s:Stp}(h:StepV w base a v s)(hb:Below w.heap.size w w2):StepV w2 base a v s:=by
  cases s with
  | none => exact h
  | some x =>
    obtain ⟨h5,bi,bb,A,c,h1,h2,h3,h4⟩:=h
    exact ⟨h5,bi,bb,A,c,h1,h2.below hb h2.lt,h3.below hb h3.lt,h4.later hb⟩
def StepsRow (w:World)(base a sb:Nat)(A:Option Addr)(cap:Nat)(S:List Stp):Prop :=
  ∃ vs,Own w sb 163 1 A S.length cap vs ∧ ∀ k (h:k < S.length),∃ v,vs[k]? = some v ∧ StepV w base a v S[k]
def StepsAt (w:World)(base a sp sb:Nat)(S:List Stp):Prop := ∃ A cap,Is w sp 160 #[.slice A S.length cap] ∧ StepsRow w base a sb A cap S
theorem infoFn:(Tryz.prog.info? 163).map (fun i => (i.zero,i.size,i.bytes))=some (some .nilFunc,1,8):=by kernel_rfl
theorem steps_grown {w W w1:World}{base a sp sb gg cap cap2:Nat}{A:Option Addr}{S:List Stp}{v:Value}{s:Stp}{vs:List Value}(hb:Below w.heap.size w W)(hsp:Is w sp 160 #[.slice A S.length cap])
    (hO:Own w sb 163 1 A S.length cap vs)(hS:∀ k (h:k < S.length),∃ v,vs[k]? = some v ∧ StepV w base a v S[k])(hv:StepV W base a v s)(hbs:base ≤ sb)(hss:sb ≤ sp)
    (hown:w1.ownsRow sb 163 1 (.slice (some ⟨gg,0,none⟩) (S.length + 1) cap2) (S.length + 1) (vs ++ [v]))(hgrow:W.grownBy w1 (Value.slice A S.length cap).ownBlock) :
    StepsAt (w1.setCell ⟨sp,0,none⟩ (.slice (some ⟨gg,0,none⟩) (S.length + 1) cap2)) base a sp sb (S ++ [s]) ∧ KT (some sp) sb stepT w (w1.setCell ⟨sp,0,none⟩ (.slice (some ⟨gg,0,none⟩) (S.length + 1) cap2)):=by
  have hl:(S ++ [s]).length=S.length + 1:=by simp
  have k0:KT (some sp) sb stepT W w1:=KT.of_grown (hO.later hb) (Nat.le_refl _) (by simp [stepT]) hgrow
  have hspW:Is W sp 160 #[.slice A S.length cap]:=hsp.below hb hsp.lt
  have kn:KT none sb stepT W w1:=KT.of_grown (hO.later hb) (Nat.le_refl _) (by simp [stepT]) hgrow
  have hsp1:Is w1 sp 160 #[.slice A S.length cap]:=hspW.kt0 kn (by simp [stepT])
  have k1:KT (some sp) sb stepT w1 (w1.setCell ⟨sp,0,none⟩ (.slice (some ⟨gg,0,none⟩) (S.length + 1) cap2)):=KT.setCell hsp1 hss (.inl rfl) _
  refine ⟨⟨some ⟨gg,0,none⟩,cap2,?_,vs ++ [v],?_,fun k hk => ?_⟩,((KT.of_below hb (Nat.le_refl _)).trans k0).trans k1⟩
  · rw [hl]; exact hsp1.put 0 _
  · rw [hl]
    refine (show Own w1 sb _ 1 _ (S.length + 1) cap2 (vs ++ [v]) from hown).kept fun g hg => heap_setCell_other w1 ⟨sp,0,none⟩ g _ fun e => ?_
    have e:g=sp:=e
    subst e
    obtain ⟨_,cur,hi⟩:=(show Own w1 sb _ 1 _ (S.length + 1) cap2 (vs ++ [v]) from hown).typed g hg
    exact is_ne hi hsp1 (by decide) rfl
  · have hvl:vs.length=S.length:=by rw [hO.1,Nat.mul_one]
    rw [hl] at hk
    by_cases hk2:k < S.length
    · obtain ⟨u,h1,h2⟩:=hS k hk2
      refine ⟨u,by rw [List.getElem?_append_left (by omega)]; exact h1,?_⟩
      rw [List.getElem_append_left hk2]
      exact ((h2.later hb).ktS hspW k0 hbs hss).ktS hsp1 k1 hbs hss
    · obtain rfl:k=S.length:=by omega
      refine ⟨v,by rw [List.getElem?_append_right (by omega),hvl]; simp,?_⟩
      have e:(S ++ [s])[S.length]'(by simp)=s:=by simp
      rw [e]
      exact (hv.ktS hspW k0 hbs hss).ktS hsp1 k1 hbs hss
set_option maxRecDepth 100000 in
set_option maxHeartbeats 1600000 in
theorem sflush_any (base a sp sb:Nat)(S:List Stp)(w:World)(h:StepsAt w base a sp sb S)(hbs:base ≤ sb)(hss:sb ≤ sp)(hsw:sb ≤ w.heap.size)(hn:S.length ≤ 100000) :
    Calls Tryz.prog 85 #[.pointer (some ⟨sp,0,none⟩)] w fun e w' => e=.returned (.tuple #[]) ∧ StepsAt w' base a sp sb (S ++ [none]) ∧ KT (some sp) sb stepT w w':=by
  obtain ⟨A,cap,hsp,vs,hO,hS⟩:=h
  obtain ⟨i0,hi,hz0,hz1,hz2⟩:=info_parts infoFn
  have c0:=hsp.cell 0
  have f0:=hsp.free 0
  have HI:=Lib.hid hi
  have HZ0:=Lib.hid hz0
  have HZ1:=Lib.hid hz1
  have HZ2:=Lib.hid hz2
  have HO:=Lib.hid hO
  have HS:=Lib.hid hS
  have HSP:=Lib.hid hsp
  have hb:=below_new w (.cells #[.func (.func 120) #[] #[]] 163)
  have c0':(w.alloc (.cells #[.func (.func 120) #[] #[]] 163)).cell? ⟨sp,0,none⟩=some (.slice A S.length cap):=(hb.cell (p:=⟨sp,0,none⟩) hsp.lt).trans c0
  have HNE:=Lib.hid (show some sp ≠ (Value.slice A S.length cap).ownBlock from fun e => by
    rcases hO.shape with h0 | ⟨g,h0⟩
    · rw [h0] at e; cases e
    · obtain ⟨_,cur,hi5⟩:=hO.typed g h0
      rw [h0] at e
      injection e with e
      exact is_ne hi5 hsp (by decide) (show g=sp from e.symm))
  have HB:=Lib.hid hb
  clear hi hz0 hz1 hz2 hO hS hsp hb
  go_enter Tryz.func85,Tryz.ntmps85
  go_wp2_with (at_builtin
               refine wpList_append_lies _ rfl _ _ _ (by rfl) sb 163 i0 .nilFunc 1 8 Tryz.underlying160 HI.out HZ0.out HZ1.out HZ2.out rfl (by decide) (.slice A S.length cap) S.length vs (by rfl) (HO.out.later HB.out) ⟨w.heap.size,0,none⟩ 1 1 [.func (.func 120) #[] #[]] (by rfl) (by rfl) (by have:=World.news_of_block (heap_alloc_new w (.cells #[.func (.func 120) #[] #[]] 163)); exact this) (by simp [Value.oneCell']) (by omega) (by simp only [maxLen]; omega) (by omega) (by simp; omega) (w.heap.size + 1) (by simp) ?_
               intro gg cap2 w1 hown1 hgrow hat hlt
               have hspl:sp < (w.alloc (.cells #[.func (.func 120) #[] #[]] 163)).heap.size:=by rw [World.size_alloc]; have q:sp < w.heap.size:=HSP.out.lt; omega
               have c1':w1.cell? ⟨sp,0,none⟩=some (.slice A S.length cap):=(hgrow.cell_far ⟨sp,0,none⟩ hspl HNE.out).trans c0'
               have f1':w1.frozen? ⟨sp,0,none⟩=false:=(hgrow.frozen_far ⟨sp,0,none⟩ hspl HNE.out).trans ((HB.out.frozen (p:=⟨sp,0,none⟩) HSP.out.lt).trans f0)
               have HOW:=Lib.hid hown1
               have HGR:=Lib.hid hgrow
               clear hown1 hgrow hat hlt)
  go_end0
  obtain ⟨q1,q2⟩:=steps_grown (base:=base) (a:=a) (s:=none) HB.out HSP.out HO.out HS.out (show StepV _ base a _ none from rfl) hbs hss HOW.out HGR.out
  exact ⟨rfl,q1,q2⟩
end Go.Proofs.YthkijogloebdoaaGreatDoor
namespace Go.Proofs.YthkijogloebdoaaGreatDoor
open Go.RowKit
set_option maxRecDepth 100000 in
set_option maxHeartbeats 1600000 in
theorem swrite_any (base a sp sb:Nat)(S:List Stp)(i:Nat)(A0:Option Addr)(c0:Nat)(b:List UInt8)(w:World)(h:StepsAt w base a sp sb S)(hA:∃ cur,Is w a 72 cur)(hbs:base ≤ sb)(hss:sb ≤ sp)(hsw:sb ≤ w.heap.size)(hn:S.length ≤ 100000)(hb5:b.length=512)(hbuf:Buf w base (some a) A0 b) :
    Calls Tryz.prog 84 #[.pointer (some ⟨sp,0,none⟩),.int .i64 (i:Int),.slice A0 512 c0] w fun e w' => e=.returned (.tuple #[]) ∧ StepsAt w' base a sp sb (S ++ [some (i,b)]) ∧ KT (some sp) sb stepT w w':=by
  obtain ⟨A,cap,hsp,vs,hO,hS⟩:=h
  obtain ⟨i0,hi,hz0,hz1,hz2⟩:=info_parts infoFn
  have cc0:=hsp.cell 0
  have f0:=hsp.free 0
  have HI:=Lib.hid hi
  have HZ0:=Lib.hid hz0
  have HZ1:=Lib.hid hz1
  have HZ2:=Lib.hid hz2
  have HO:=Lib.hid hO
  have HS:=Lib.hid hS
  have HSP:=Lib.hid hsp
  obtain ⟨v,hv⟩:∃ v:Value,v=.func (.func 118) #[] #[.pointer (some ⟨w.heap.size,0,none⟩),.pointer (some ⟨w.heap.size + 1,0,none⟩)]:=⟨_,rfl⟩
  have k1:=below_new w (.cells #[.int .i64 (i:Int)] 3)
  have k2:=below_new (w.alloc (.cells #[.int .i64 (i:Int)] 3)) (.cells #[.slice A0 512 c0] 28)
  have k3:=below_new ((w.alloc (.cells #[.int .i64 (i:Int)] 3)).alloc (.cells #[.slice A0 512 c0] 28)) (.cells #[v] 163)
  have j1:=Is.new w 3 #[.int .i64 (i:Int)]
  have j2:=Is.new (w.alloc (.cells #[.int .i64 (i:Int)] 3)) 28 #[.slice A0 512 c0]
  rw [World.size_alloc] at j2
  have e1:=k1.trans (k2.mono (by rw [World.size_alloc]; omega))
  have hb:=e1.trans (k3.mono (by rw [World.size_alloc,World.size_alloc]; omega))
  have HV:=Lib.hid (show StepV (((w.alloc (.cells #[.int .i64 (i:Int)] 3)).alloc (.cells #[.slice A0 512 c0] 28)).alloc (.cells #[v] 163)) base a v (some (i,b)) from
    ⟨hb5,w.heap.size,w.heap.size + 1,A0,c0,hv,(j1.below k2 j1.lt).below k3 ((j1.below k2 j1.lt).lt),j2.below k3 j2.lt,hbuf.later hb⟩)
  have c0':(((w.alloc (.cells #[.int .i64 (i:Int)] 3)).alloc (.cells #[.slice A0 512 c0] 28)).alloc (.cells #[v] 163)).cell? ⟨sp,0,none⟩=some (.slice A S.length cap):=(hb.cell (p:=⟨sp,0,none⟩) hsp.lt).trans cc0
  have c0e:((w.alloc (.cells #[.int .i64 (i:Int)] 3)).alloc (.cells #[.slice A0 512 c0] 28)).cell? ⟨sp,0,none⟩=some (.slice A S.length cap):=(e1.cell (p:=⟨sp,0,none⟩) hsp.lt).trans cc0
  have HNE:=Lib.hid (show some sp ≠ (Value.slice A S.length cap).ownBlock from fun e => by
    rcases hO.shape with h0 | ⟨g,h0⟩
    · rw [h0] at e; cases e
    · obtain ⟨_,cur,hi5⟩:=hO.typed g h0
      rw [h0] at e
      injection e with e
      exact is_ne hi5 hsp (by decide) (show g=sp from e.symm))
  have HB:=Lib.hid hb
  have HVV:=Lib.hid hv
  have HV1:=Lib.hid (show v.oneCell'=true by rw [hv]; rfl)
  clear hi hz0 hz1 hz2 hO hS hsp hb k1 k2 k3 j1 j2 e1 hbuf hA
  go_enter Tryz.func84,Tryz.ntmps84
  go_wp2_with (at_builtin
               rw [← hv]
               clear hv
               refine wpList_append_lies _ rfl _ _ _ (by rfl) sb 163 i0 .nilFunc 1 8 Tryz.underlying160 HI.out HZ0.out HZ1.out HZ2.out rfl (by decide) (.slice A S.length cap) S.length vs (by rfl) (HO.out.later HB.out) ⟨w.heap.size + 1 + 1,0,none⟩ 1 1 [v] (by rfl) (by rfl) (by have:=World.news_of_block (heap_alloc_new ((w.alloc (.cells #[.int .i64 (i:Int)] 3)).alloc (.cells #[.slice A0 512 c0] 28)) (.cells #[v] 163)); rw [World.size_alloc,World.size_alloc] at this; exact this) (by intro u hu; simp at hu; rw [hu]; exact HV1.out) (by omega) (by simp only [maxLen]; omega) (by omega) (by simp; omega) (w.heap.size + 3) (by simp) ?_
               intro gg cap2 w1 hown1 hgrow hat hlt
               have hspl:sp < (((w.alloc (.cells #[.int .i64 (i:Int)] 3)).alloc (.cells #[.slice A0 512 c0] 28)).alloc (.cells #[v] 163)).heap.size:=by have q:sp < w.heap.size:=HSP.out.lt; have:=HB.out.size; omega
               have c1':w1.cell? ⟨sp,0,none⟩=some (.slice A S.length cap):=(hgrow.cell_far ⟨sp,0,none⟩ hspl HNE.out).trans c0'
               have f1':w1.frozen? ⟨sp,0,none⟩=false:=(hgrow.frozen_far ⟨sp,0,none⟩ hspl HNE.out).trans ((HB.out.frozen (p:=⟨sp,0,none⟩) HSP.out.lt).trans f0)
               have HOW:=Lib.hid hown1
               have HGR:=Lib.hid hgrow
               clear hown1 hgrow hat hlt)
  go_end0
  obtain ⟨q1,q2⟩:=steps_grown (base:=base) (a:=a) (s:=some (i,b)) HB.out HSP.out HO.out HS.out HV.out hbs hss HOW.out HGR.out
  exact ⟨rfl,q1,q2⟩
theorem Dk.does_facts (S:List Stp):∀ D:Dk,(D.does S).2=0 → D.down=false → (D.does S).1.down=false ∧ (D.does S).1.lasts.length=D.lasts.length ∧ (D.does S).1.n ≤ D.n + S.length:=by
  induction S with
  | nil => intro D _ h; exact ⟨h,rfl,Nat.le_refl _⟩
  | cons s S ih =>
    intro D h hd
    have e:D.does (s :: S)=if D.err=0 then (D.step1 s).does S else (D.step1 s,D.err):=rfl
    rw [e] at h ⊢
    rcases D.err_two with ⟨h1,h2⟩ | ⟨h1,h2⟩
    · rw [if_neg (by rw [h2]; decide)] at h; rw [h2] at h; cases h
    · rw [if_pos h2] at h ⊢
      have q:(D.step1 s).down=false ∧ (D.step1 s).lasts.length=D.lasts.length ∧ (D.step1 s).n=D.n + 1:=by
        cases s with
        | none =>
          have f:D.flush = { D with lasts:=Dk.puts D.lasts D.pend,pend := [],left:=D.left - 1,n:=D.n + 1 }:=by unfold Dk.flush; rw [if_neg h1]
          show D.flush.down=false ∧ D.flush.lasts.length=_ ∧ D.flush.n=_
          rw [f]
          exact ⟨hd,Dk.puts_length _ _,rfl⟩
        | some x =>
          have f:D.write x.1 x.2 = { D with pend:=D.pend ++ [x],left:=D.left - 1,n:=D.n + 1 }:=by unfold Dk.write; rw [if_neg h1]
          show (D.write x.1 x.2).down=false ∧ (D.write x.1 x.2).lasts.length=_ ∧ (D.write x.1 x.2).n=_
          rw [f]
          exact ⟨hd,rfl,rfl⟩
      obtain ⟨q1,q2,q3⟩:=ih _ h q.1
      exact ⟨q1,q2.trans q.2.1,by rw [List.length_cons]; omega⟩
theorem Dk.does_one (D:Dk)(s:Stp):D.does [s]=(D.step1 s,D.err):=by
  show (if D.err=0 then (D.step1 s,0) else (D.step1 s,D.err))=_
  split
  · rename_i h; rw [h]
  · rfl
theorem Dk.does_next (D:Dk)(S:List Stp)(k:Nat)(hk:k < S.length)(h0:(D.does (S.take k)).2=0) :
    D.does (S.take (k + 1))=((D.does (S.take k)).1.step1 S[k],(D.does (S.take k)).1.err):=by
  rw [take_snoc S k hk,Dk.does_append,if_pos h0,Dk.does_one]
theorem Dk.does_stop (D:Dk)(S:List Stp)(k:Nat)(h0:(D.does (S.take k)).2 ≠ 0):D.does S=D.does (S.take k):=by
  have e:=Dk.does_append (S.take k) (S.drop k) D
  rw [List.take_append_drop,if_neg h0] at e
  exact e
end Go.Proofs.YthkijogloebdoaaGreatDoor
namespace Go.Proofs.YthkijogloebdoaaGreatDoor
open Go.RowKit
set_option maxRecDepth 100000 in
theorem flush1_any (base a d:Nat)(D:Dk)(w:World)(h:DiskAt w base a d D)(hdn:D.down=false)(hbw:base ≤ w.heap.size)(hn0:D.n ≤ 1000000) :
    Calls Tryz.prog 120 #[.pointer (some ⟨d,0,none⟩)] w fun e w' => e=.returned (.int .i64 D.err) ∧ DiskAt w' base a d D.flush ∧ KT (some a) base diskT w w':=by
  go_enter Tryz.func120,Tryz.ntmps120
  have HD:=Lib.hid h
  have HDN:=Lib.hid hdn
  clear h hdn
  go_wp2_with (go_at_call 121
               refine (dflush_any base a d D w HD.out HDN.out hbw hn0).mono ?_
               rintro e w9 ⟨rfl,hD9,hk9⟩
               have HD9:=Lib.hid hD9
               have HK9:=Lib.hid hk9
               clear hD9 hk9)
  go_ret
  exact ⟨rfl,HD9.out,HK9.out⟩
set_option maxRecDepth 100000 in
theorem write1_any (base a d bi bb:Nat)(D:Dk)(i:Nat)(A:Option Addr)(c:Nat)(b:List UInt8)(w:World)(h:DiskAt w base a d D)(hdn:D.down=false)(hbw:base ≤ w.heap.size)(hn0:D.n ≤ 1000000)(hi:i < D.lasts.length)(hb5:b.length=512)
    (h1:Is w bi 3 #[.int .i64 (i:Int)])(h2:Is w bb 28 #[.slice A 512 c])(hb:Buf w base (some a) A b) :
    Calls Tryz.prog 118 #[.pointer (some ⟨d,0,none⟩),.pointer (some ⟨bi,0,none⟩),.pointer (some ⟨bb,0,none⟩)] w fun e w' => e=.returned (.int .i64 D.err) ∧ DiskAt w' base a d (D.write i b) ∧ KT (some a) base diskT w w':=by
  have c1:w.cell? ⟨bi,0,none⟩=some (.int .i64 (i:Int)):=h1.cell 0
  have c2:w.cell? ⟨bb,0,none⟩=some (.slice A 512 c):=h2.cell 0
  have HD:=Lib.hid h
  have HDN:=Lib.hid hdn
  have HB:=Lib.hid hb
  clear h hdn hb h1 h2
  go_enter Tryz.func118,Tryz.ntmps118
  go_wp2_with (go_at_call 119
               refine (dwrite_any base a d D i A c b w HD.out HDN.out hi hb5 HB.out hbw hn0).mono ?_
               rintro e w9 ⟨rfl,hD9,hk9⟩
               have HD9:=Lib.hid hD9
               have HK9:=Lib.hid hk9
               clear hD9 hk9)
  go_ret
  exact ⟨rfl,HD9.out,HK9.out⟩
theorem Own.at1 {w:World}{base n cap:Nat}{t:TypeId}{A:Option Addr}{cs:List Value}(h:Own w base t 1 A n cap cs){k:Nat}(hk:k < n){v:Value}(hv:cs[k]? = some v):∃ g,A=some ⟨g,0,none⟩ ∧ w.cell? ⟨g,k,none⟩=some v:=by
  obtain ⟨g,rfl,_,_⟩:=h.form (by omega)
  exact ⟨g,rfl,(h.cell k (by omega)).trans hv⟩
set_option maxRecDepth 100000 in
set_option maxHeartbeats 1600000 in
theorem sdo_any (base a d sb:Nat)(D:Dk)(S:List Stp)(A:Option Addr)(cap:Nat)(w:World)(h:DiskAt w base a d D)(hdn:D.down=false)(hS:StepsRow w base a sb A cap S)(hok:∀ x,some x ∈ S → x.1 < D.lasts.length)(hbw:base ≤ w.heap.size)(hn0:D.n + S.length ≤ 1000000) :
    Calls Tryz.prog 87 #[.slice A S.length cap,.pointer (some ⟨d,0,none⟩)] w fun e w' => e=.returned (.int .i64 (D.does S).2) ∧ DiskAt w' base a d (D.does S).1 ∧ KT (some a) base diskT w w':=by
  obtain ⟨vs,hO,hV⟩:=hS
  obtain ⟨_,_,hisA⟩:=h.a_ne
  have HD:=Lib.hid h
  have HDN:=Lib.hid hdn
  have HO:=Lib.hid hO
  have HV:=Lib.hid hV
  have HIA:=Lib.hid hisA
  have HOK:=Lib.hid hok
  have hsl:S.length ≤ 1000000:=by omega
  clear h hdn hO hV hisA hok
  go_enter Tryz.func87,Tryz.ntmps87
  go_wp2_with fail
  go_loopw [10] (fun v wr => ∃ k:Nat,k ≤ S.length ∧ v=.int .i64 k ∧ (D.does (S.take k)).2=0 ∧ DiskAt wr base a d (D.does (S.take k)).1 ∧ KT (some a) base diskT w wr) (fun v _ => S.length - (intOf v).toNat)
  case atStart => exact ⟨0,Nat.zero_le _,rfl,rfl,HD.out,KT.refl _ _ _ _⟩
  case round =>
    obtain ⟨k,hk,rfl,h0,hDr,hKT⟩:=hrel
    obtain ⟨hdr,hlr,hnr⟩:=Dk.does_facts (S.take k) D h0 HDN.out
    have HDr:=Lib.hid hDr
    have HKT:=Lib.hid hKT
    have H0:=Lib.hid h0
    have HDR:=Lib.hid hdr
    have HLR:=Lib.hid hlr
    have hnr2:(D.does (S.take k)).1.n ≤ 1000000:=by rw [List.length_take] at hnr; omega
    have hbr:base ≤ wr.heap.size:=Nat.le_trans hbw hKT.size
    clear hDr hKT h0 hdr hlr hnr
    by_cases hlt:k < S.length
    · have hk0 : (k : Int) < (S.length:Int):=by omega
      have hk1:(0:Int) ≤ (k:Int):=by omega
      obtain ⟨v,hv,hsv⟩:=HV.out k hlt
      have hOr:=HO.out.kt HKT.out (by simp [diskT]) (fun g hg => ne_a HIA.out (by decide) (HO.out.typed g hg).2)
      obtain ⟨g,rfl,hcell⟩:=hOr.at1 hlt hv
      have hsr:=hsv.ktD HIA.out HKT.out
      have hnext:=Dk.does_next D S k hlt H0.out
      have hstop:=Dk.does_stop D S (k + 1)
      have hmem:S[k] ∈ S:=List.getElem_mem hlt
      have HNX:=Lib.hid hnext
      have HST:=Lib.hid hstop
      have HMEM:=Lib.hid hmem
      clear hnext hstop hOr hsv hmem
      obtain ⟨E,hE⟩:∃ E,(D.does (S.take k)).1=E:=⟨_,rfl⟩
      obtain ⟨s,hs⟩:∃ s,S[k]=s:=⟨_,rfl⟩
      have HSK:=Lib.hid hs
      rw [hE] at hnr2 HDr HDR HLR HNX
      rw [hs] at hsr HNX HMEM
      have hsr:StepV wr base a v s:=hsr
      clear hE hs hv
      cases s with
      | none =>
        have hvv:v=.func (.func 120) #[] #[]:=hsr
        subst hvv
        clear hsr
        rcases E.err_two with ⟨e1,e2⟩ | ⟨e1,e2⟩
        · have E2 := Lib.hid e2
          clear e1 e2
          go_wp2_with (go_at_call 120
                       refine (flush1_any base a d E _ HDr.out HDR.out hbr hnr2).mono ?_
                       rw [E2.out]
                       rintro e w9 ⟨rfl,hD9,hk9⟩
                       have HD9:=Lib.hid hD9
                       have HK9:=Lib.hid hk9
                       clear hD9 hk9)
          go_ret
          have q:D.does (S.take (k + 1))=(E.flush,30):=by rw [HNX.out,E2.out]; rfl
          rw [HST.out (by rw [q]; show (30:Int) ≠ 0; decide),q]
          exact ⟨rfl,HD9.out,HKT.out.trans HK9.out⟩
        · have E2 := Lib.hid e2
          clear e1 e2
          go_wp2_with (go_at_call 120
                       refine (flush1_any base a d E _ HDr.out HDR.out hbr hnr2).mono ?_
                       rw [E2.out]
                       rintro e w9 ⟨rfl,hD9,hk9⟩
                       have HD9:=Lib.hid hD9
                       have HK9:=Lib.hid hk9
                       clear hD9 hk9)
          go_roundw
          case rel => exact ⟨k + 1,by omega,by go_num,by rw [HNX.out]; exact E2.out,by rw [HNX.out]; exact HD9.out,HKT.out.trans HK9.out⟩
          case measure => simp [intOf]; omega
      | some x =>
        obtain ⟨hb5,bi,bb,A2,c2,hvv,q1,q2,q3⟩:=hsr
        subst hvv
        have HQ1:=Lib.hid q1
        have HQ2:=Lib.hid q2
        have HQ3:=Lib.hid q3
        have hxl:=HOK.out x HMEM.out
        rw [← HLR.out] at hxl
        have HXL:=Lib.hid hxl
        have HB5:=Lib.hid hb5
        clear q1 q2 q3 hxl hb5
        rcases E.err_two with ⟨e1,e2⟩ | ⟨e1,e2⟩
        · have E2 := Lib.hid e2
          clear e1 e2
          go_wp2_with (go_at_call 118
                       refine (write1_any base a d bi bb E x.1 A2 c2 x.2 _ HDr.out HDR.out hbr hnr2 HXL.out HB5.out HQ1.out HQ2.out HQ3.out).mono ?_
                       rw [E2.out]
                       rintro e w9 ⟨rfl,hD9,hk9⟩
                       have HD9:=Lib.hid hD9
                       have HK9:=Lib.hid hk9
                       clear hD9 hk9)
          go_ret
          have q:D.does (S.take (k + 1))=(E.write x.1 x.2,30):=by rw [HNX.out,E2.out]; rfl
          rw [HST.out (by rw [q]; show (30:Int) ≠ 0; decide),q]
          exact ⟨rfl,HD9.out,HKT.out.trans HK9.out⟩
        · have E2 := Lib.hid e2
          clear e1 e2
          go_wp2_with (go_at_call 118
                       refine (write1_any base a d bi bb E x.1 A2 c2 x.2 _ HDr.out HDR.out hbr hnr2 HXL.out HB5.out HQ1.out HQ2.out HQ3.out).mono ?_
                       rw [E2.out]
                       rintro e w9 ⟨rfl,hD9,hk9⟩
                       have HD9:=Lib.hid hD9
                       have HK9:=Lib.hid hk9
                       clear hD9 hk9)
          go_roundw
          case rel => exact ⟨k + 1,by omega,by go_num,by rw [HNX.out]; exact E2.out,by rw [HNX.out]; exact HD9.out,HKT.out.trans HK9.out⟩
          case measure => simp [intOf]; omega
    · obtain rfl:S.length=k:=by omega
      have hall:S.take S.length=S:=List.take_length
      rw [hall] at HDr H0
      go_wp2_with fail
      go_ret
      exact ⟨by rw [H0.out]; rfl,HDr.out,HKT.out⟩
end Go.Proofs.YthkijogloebdoaaGreatDoor
end
