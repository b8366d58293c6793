/-
  WholeFiles, the texts QWc QSw Fr Fo: lemmas for the proof that three files on one disk are plain rows of bytes. No conditions.
-/
import Derived.Test.YthkijogloebdoaaGreatDoorM06
import Derived.Test.YthkijogloebdoaaGreatDoorM01
import Derived.Test.YthkijogloebdoaaGreatDoorM02
import Derived.Maps.OwnSet
import Derived.Carry
import Derived.Lib.BufferWrite
set_option linter.unusedVariables false
set_option linter.unusedSimpArgs false
section
namespace Go.Proofs.YthkijogloebdoaaGreatDoor
open Go.RowKit Rec
theorem logW_get (l:List (List UInt8)):∀ (j k:Nat)(h:k < (logW j l).length),(logW j l)[k]=(2 + j + k,l[k]'(by rw [logW_length] at h; exact h)):=by
  induction l with
  | nil => intro j k h; simp [logW] at h
  | cons b l ih =>
    intro j k h
    cases k with
    | zero => rfl
    | succ k =>
      have:=ih (j + 1) k (by rw [logW_length]; rw [logW_length,List.length_cons] at h; omega)
      show (logW (j + 1) l)[k]'_=_
      rw [this]
      simp
      omega
theorem whole_len (H:List UInt8)(ws:List (Nat × List UInt8)):(Tx.whole H ws).length=2 * ws.length + 6:=by
  unfold Tx.whole Tx.home Dk.phase
  simp [logW_length]
  omega
theorem home_mem {n:Nat}{ws:List (Nat × List UInt8)}(h:Rise n ws)(hn:98 ≤ n)(x:Nat × List UInt8)(hx:some x ∈ Tx.home ws):x.1 < n:=by
  unfold Tx.home Dk.phase at hx
  simp at hx
  rcases hx with hx | hx
  · obtain ⟨k,hk,e⟩:=List.mem_iff_getElem.1 hx
    rw [← e]; exact (h.low k hk).2
  · rw [hx]; show 1 < n; omega
theorem whole_mem {n:Nat}{ws:List (Nat × List UInt8)}(H:List UInt8)(h:Rise n ws)(hn:98 ≤ n)(x:Nat × List UInt8)(hx:some x ∈ Tx.whole H ws):x.1 < n:=by
  unfold Tx.whole at hx
  rw [List.mem_append,List.mem_append] at hx
  rcases hx with hx | hx | hx
  · unfold Dk.phase at hx
    simp at hx
    have:=(logW_mem _ _ _ hx).2.1
    have hf:=h.few
    rw [List.length_map] at this
    omega
  · unfold Dk.phase at hx
    simp at hx
    rw [hx]; show 1 < n; omega
  · exact home_mem h hn x hx
theorem is_whole (H:List UInt8)(ws:List (Nat × List UInt8)):(logW 0 (ws.map (·.2))).map some ++ [none] ++ [some (1,H)] ++ [none] ++ Tx.home ws=Tx.whole H ws:=by
  unfold Tx.whole Dk.phase
  simp only [List.append_assoc,List.map_cons,List.map_nil]
theorem DiskAt.ktS {w w2:World}{base a d sp sb:Nat}{D:Dk}{cs:Array Value}(h:DiskAt w base a d D)(hsp:Is w sp 160 cs)(k:KT (some sp) sb stepT w w2)(hb:base ≤ sb):DiskAt w2 base a d D :=
  h.kt (k.base_le hb) (by simp [stepT]) (by simp [stepT]) (by simp [stepT]) (by simp [stepT]) (by simp [stepT]) (fun b e ⟨cs',t,f,q1,q2⟩ => by
    injection e with e
    subst e
    rw [show w.heap[sp]? = _ from hsp] at q1
    injection q1 with q1
    injection q1 with _ q1
    subst q1
    simp at q2)
theorem steps_none (w:World)(base a sb:Nat):StepsAt (w.alloc (.cells #[.slice none 0 0] 160)) base a w.heap.size sb [] :=
  ⟨none,0,Is.new w _ _,[],Own.nil _ _ _ _,fun k h => by simp at h⟩
theorem KT.of_keeps_int {w w2:World}{base cap:Nat}{A:Option Addr}{ts:List Int}(k:Keeps (Of A) w w2)(h:Nums w base A cap ts):KT none base [3] w w2:=by
  refine ⟨k.os,k.tape,k.output,k.size,fun i hi hs => k.block i hi fun e => ?_⟩
  obtain ⟨hg,cur,hI⟩:=(show Own w base 3 1 A ts.length cap (numCells ts) from h).typed i e
  rcases hs with hs | ⟨_,hs⟩
  · omega
  · exact hs ⟨_,_,_,hI,by simp⟩
set_option maxRecDepth 100000 in
set_option maxHeartbeats 6400000 in
theorem wcommit_any (base a d lb:Nat)(D:Dk)(A:Option Addr)(c:Nat)(ws:List (Nat × List UInt8))(w:World)(h:DiskAt w base a d D)(hdn:D.down=false)(hB:BlkRow w base a lb A c ws)(hr:Rise D.lasts.length ws)(hw1:1 ≤ ws.length)(hl:98 ≤ D.lasts.length)(h512:∀ x ∈ ws,x.2.length=512)
    (hw:WidthsAt w)(hh:HalfAt w)(hbw:base ≤ w.heap.size)(hn:D.n ≤ 500000) :
    Calls Tryz.prog 45 #[.pointer (some ⟨d,0,none⟩),.slice A ws.length c] w fun e w' =>
      e=.returned (.int .i64 (D.does (Tx.whole (Hd.made (ws.map (·.1)) (ws.map (·.2))) ws)).2) ∧ DiskAt w' base a d (D.does (Tx.whole (Hd.made (ws.map (·.1)) (ws.map (·.2))) ws)).1 ∧ KT (some a) base diskT w w':=by
  have hfew:=hr.few
  have hlN:D.lasts.length ≤ 16384:=h.1.2.1
  obtain ⟨_,_,hisA⟩:=h.a_ne
  have hal:a < w.heap.size:=by obtain ⟨cur,hi⟩:=hisA; exact hi.lt
  have HD:=Lib.hid h
  have HDN:=Lib.hid hdn
  have HB:=Lib.hid hB
  have HR:=Lib.hid hr
  have HRN:=Lib.hid (rise_n hr hw1)
  have H512:=Lib.hid h512
  have HW:=Lib.hid hw
  have HH:=Lib.hid hh
  have HIA:=Lib.hid hisA
  have hwl:(ws.map (·.1)).length=ws.length:=List.length_map _
  have hwl2:(ws.map (·.2)).length=ws.length:=List.length_map _
  have HWL:=Lib.hid hwl
  have HWL2:=Lib.hid hwl2
  obtain ⟨nums,hnums⟩:∃ nums,ws.map (·.1)=nums:=⟨_,rfl⟩
  obtain ⟨data,hdata⟩:∃ data,ws.map (·.2)=data:=⟨_,rfl⟩
  have HIW:=Lib.hid (fun H => is_whole H ws)
  rw [hnums] at HRN HWL ⊢
  rw [hdata] at HWL2 HIW ⊢
  have HNU:=Lib.hid hnums
  have HDA:=Lib.hid hdata
  obtain ⟨HDR,hHDR⟩:∃ HDR,Hd.made nums data=HDR:=⟨_,rfl⟩
  rw [hHDR]
  have HHD:=Lib.hid hHDR
  clear hHDR
  obtain ⟨N,hN⟩:∃ N,D.lasts.length=N:=⟨_,rfl⟩
  have HNN:=Lib.hid hN
  have HWM:=Lib.hid (fun H => whole_mem H hr hl)
  rw [hN] at hl hlN HR HRN
  have hRN2:RiseN 16384 nums:=⟨HRN.out.one,HRN.out.few,fun k hk => by have:=HRN.out.low k hk; omega,HRN.out.up⟩
  have HRN2:=Lib.hid hRN2
  have hn0:((ws.length:Int) == 0)=false:=by rw [beq_eq_false_iff_ne]; omega
  clear h hdn hB hr h512 hw hh hwl hwl2 hnums hdata hN hisA hRN2
  go_enter Tryz.func45,Tryz.ntmps45
  go_wp2_with (first
    | (go_at_call 70
       refine (blocks_any base a d D _ HD.out).mono ?_
       rw [HNN.out]
       rintro e w1 ⟨rfl,rfl⟩)
    | (go_at_call 81
       refine (wmay_any base a lb N A c ws w HB.out HR.out hlN).mono ?_
       rintro e w1 ⟨rfl,hb1⟩
       have HB1:=Lib.hid hb1
       clear hb1))
  go_loopw [5,6,24] (fun v x u wr => ∃ (k:Nat) (A1 A2:Option Addr) (c1 c2:Nat),k ≤ ws.length ∧ u=.int .i64 k ∧ v=.slice A1 k c1 ∧ x=.slice A2 k c2 ∧ Nums wr w.heap.size A1 c1 (ints (nums.take k)) ∧ DataRow wr base a w.heap.size A2 c2 (data.take k) ∧ Below w.heap.size w wr) (fun v x u _ => ws.length - (intOf u).toNat)
  case atStart => exact ⟨0,none,none,0,0,Nat.zero_le _,rfl,rfl,rfl,Nums.nil _ _,DataRow.nil _ _ _ _,HB1.out⟩
  case round =>
    obtain ⟨k,A1,A2,c1,c2,hk,rfl,rfl,rfl,hNu,hDt,hb⟩:=hrel
    have HNu:=Lib.hid hNu
    have HDt:=Lib.hid hDt
    have HBr:=Lib.hid hb
    have hsz:=hb.size
    clear hNu hDt hb
    have HK1:=Lib.hid (show (ints (nums.take k)).length=k by rw [ints_len,List.length_take,HWL.out]; omega)
    have HK2:=Lib.hid (show (data.take k).length=k by rw [List.length_take,HWL2.out]; omega)
    by_cases hlt:k < ws.length
    · have hk0 : (k:Int) < (ws.length:Int):=by omega
      have hk1:(0:Int) ≤ (k:Int):=by omega
      obtain ⟨g,B,bc,rfl,cc1,cc2,h5,hbuf⟩:=(HB.out.later HBr.out).at_ hlt
      have hnk:nums[k]'(by rw [HWL.out]; exact hlt)=ws[k].1:=by have:=HNU.out; subst this; simp
      have hdk:data[k]'(by rw [HWL2.out]; exact hlt)=ws[k].2:=by have:=HDA.out; subst this; simp
      have htn:ints (nums.take (k + 1))=ints (nums.take k) ++ [((ws[k].1:Nat):Int)]:=by rw [ints_snoc nums k (by rw [HWL.out]; exact hlt),hnk]
      have htd:data.take (k + 1)=data.take k ++ [ws[k].2]:=by rw [take_snoc data k (by rw [HWL2.out]; exact hlt),hdk]
      obtain ⟨x,hx⟩:∃ x,ws[k].1=x:=⟨_,rfl⟩
      obtain ⟨b,hb⟩:∃ b,ws[k].2=b:=⟨_,rfl⟩
      rw [hx] at cc1 htn
      rw [hb] at h5 hbuf htd
      have H5:=Lib.hid h5
      have HBUF:=Lib.hid hbuf
      have HTN:=Lib.hid htn
      have HTD:=Lib.hid htd
      have HWB:=Lib.hid (below_new wr (.cells #[.int .i64 (x:Int),.slice B 512 bc] 116))
      have hq1:(wr.alloc (.cells #[.int .i64 (x:Int),.slice B 512 bc] 116)).cell? ⟨wr.heap.size,1,none⟩=some (.slice B 512 bc):=(Is.new wr 116 #[.int .i64 (x:Int),.slice B 512 bc]).cell 1
      clear hnk hdk h5 hbuf htn htd hx hb
      go_wp2_with (first
        | (at_builtin
           first
           | (refine wpList_append_num rfl _ _ (by rfl) w.heap.size A1 c1 (ints (nums.take k)) (by rw [HK1.out]; rfl) ((HNu.out.later HWB.out).later (below_new _ _)) (wr.heap.size + 1) 1 (x:Int) (by rfl) (by have:=(Is.new (wr.alloc (.cells #[.int .i64 (x:Int),.slice B 512 bc] 116)) 3 #[.int .i64 (x:Int)]).cell 0; rw [World.size_alloc] at this; exact this) (by rw [HK1.out]; omega) (by rw [World.size_alloc,World.size_alloc]; omega) ?_
              intro A3 c3 w6 hN' hK' hOf'
              have hc6:w6.cell? ⟨wr.heap.size,1,none⟩=some (.slice B 512 bc):=by
                have e:=hK'.block wr.heap.size (by rw [World.size_alloc,World.size_alloc]; omega) (fun e => by have:=HNu.out.lt _ e; omega)
                refine (World.cell?_of_block (a:=⟨wr.heap.size,1,none⟩) e).trans (((below_new (wr.alloc (.cells #[.int .i64 (x:Int),.slice B 512 bc] 116)) _).cell (p:=⟨wr.heap.size,1,none⟩) (by show wr.heap.size < _; rw [World.size_alloc]; omega)).trans hq1)
              have HKN:=Lib.hid (show KT none w.heap.size [3] (wr.alloc (.cells #[.int .i64 (x:Int),.slice B 512 bc] 116)) w6 from (KT.of_below (below_new _ _) (Nat.le_refl _)).trans (KT.of_keeps_int hK' ((HNu.out.later HWB.out).later (below_new _ _))))
              have hs6:wr.heap.size + 1 ≤ w6.heap.size:=by have:=HKN.out.size; rw [World.size_alloc] at this; exact this
              rw [← HTN.out] at hN' ⊢
              have HN':=Lib.hid hN'
              have hl9:(ints (nums.take (k + 1))).length=k + 1:=by rw [ints_len,List.length_take,HWL.out]; omega
              rw [hl9]
              clear hN' hK' hOf' hl9)
           | (refine wpList_append_data rfl _ _ (by rfl) base a w.heap.size A2 c2 (data.take k) (by rw [HK2.out]; rfl) (((HDt.out.later HWB.out).kt0 HKN.out hbw (by simp) (by simp) (by simp)).later (below_new _ _)) w6.heap.size 1 B bc b (by rfl) (by have:=(Is.new w6 28 #[.slice B 512 bc]).cell 0; exact this) H5.out (((HBUF.out.later HWB.out).kt0 HKN.out hbw (by simp) (by simp)).later (below_new _ _)) (by rw [HK2.out]; omega) (by rw [World.size_alloc]; omega) hbw ?_
              intro A4 c4 w7 hDt7 hk7
              rw [← HTD.out] at hDt7 ⊢
              have HDt7:=Lib.hid hDt7
              have hl9:(data.take (k + 1)).length=k + 1:=by rw [List.length_take,HWL2.out]; omega
              rw [hl9]
              have HK67:=Lib.hid (show KT none w.heap.size [28] w6 w7 from (KT.of_below (below_new w6 (.cells #[.slice B 512 bc] 28)) (Nat.le_refl _)).trans hk7)
              clear hDt7 hl9 hk7)))
      go_roundw
      case rel =>
        refine ⟨k + 1,A3,A4,c3,c4,by omega,by go_num,rfl,rfl,HN'.out.kt HK67.out (by simp),HDt7.out,?_⟩
        exact HBr.out.trans ((HWB.out.mono hsz).trans ((HKN.out.below (by rw [World.size_alloc]; omega)).trans (HK67.out.below (by omega))))
      case measure => simp [intOf]; omega
    · obtain rfl : ws.length=k:=by omega
      have hall:nums.take ws.length=nums:=by rw [← HWL.out]; exact List.take_length
      have hall2:data.take ws.length=data:=by rw [← HWL2.out]; exact List.take_length
      rw [hall] at HNu
      rw [hall2] at HDt
      clear hall hall2 HK1 HK2
      go_wp2_with (first
        | (go_at_call 82
           refine (make_any base a w.heap.size w.heap.size A1 c1 nums A2 c2 data ws.length wr HDt.out HWL2.out HNu.out HWL.out HRN2.out (HW.out.below HBr.out HW.out.lt) (HH.out.below HBr.out HH.out.lt)).mono ?_
           rintro e w8 ⟨⟨BH,rfl,hMH⟩,hb8⟩
           have HB8:=Lib.hid (HBr.out.trans (hb8.mono HBr.out.size))
           have HMH:=Lib.hid hMH
           have hs8:=HB8.out.size
           clear hMH hb8)
        | (go_at_call 83
           refine (down_any base a d D _ (HD.out.later HB8.out)).mono ?_
           rw [HDN.out]
           rintro e w9 ⟨rfl,rfl⟩))
      obtain ⟨W2,hW2⟩:∃ W2,w8.alloc (.cells #[.slice none 0 0] 160)=W2:=⟨_,rfl⟩
      have hb82:Below w8.heap.size w8 W2:=by rw [← hW2]; exact below_new _ _
      have hst0:StepsAt W2 base a w8.heap.size w8.heap.size []:=by rw [← hW2]; exact steps_none _ _ _ _
      have hsp0:Is W2 w8.heap.size 160 #[.slice none 0 0]:=by rw [← hW2]; exact Is.new _ _ _
      have hbw2:Below w.heap.size w W2:=HB8.out.trans (hb82.mono hs8)
      have hA2:∃ cur,Is W2 a 72 cur:=by obtain ⟨cur,hi⟩:=HIA.out; exact ⟨cur,hi.below hbw2 hal⟩
      have HMB:=Lib.hid (show Buf W2 base (some a) BH (Hd.made nums data) from (Buf.of_mine HMH.out (by obtain ⟨cur,hi⟩:=HIA.out; exact ⟨cur,hi.below HB8.out hal⟩)).later hb82)
      have HHL:=Lib.hid (show (Hd.made nums data).length=512 from Hd.made_length HRN.out.few data)
      rw [HHD.out] at HMB HHL
      have HST0:=Lib.hid hst0
      have HSP0:=Lib.hid hsp0
      have HBW2:=Lib.hid hbw2
      have HA2:=Lib.hid hA2
      have HD2:=Lib.hid (HD.out.later hbw2)
      have HBK2:=Lib.hid (HB.out.later hbw2)
      have hs2:w8.heap.size + 1=W2.heap.size:=by rw [← hW2,World.size_alloc]
      rw [hW2]
      obtain ⟨sp,hsp⟩:∃ sp,w8.heap.size=sp:=⟨_,rfl⟩
      rw [hsp] at HST0 HSP0 hs2 hs8 ⊢
      have hasp:a < sp:=by omega
      have hbsp:base ≤ sp:=by omega
      have HLW:=Lib.hid (show (logW 0 data).length=ws.length by rw [logW_length]; exact HWL2.out)
      clear hb82 hst0 hsp0 hbw2 hA2 hW2 hsp HMH HNu HDt HB8 HBr hsz
      go_loopw [52] (fun u wr => ∃ k:Nat,k ≤ ws.length ∧ u=.int .i64 k ∧ StepsAt wr base a sp sp (((logW 0 data).take k).map some) ∧ KT (some sp) sp stepT W2 wr) (fun u _ => ws.length - (intOf u).toNat)
      case atStart => exact ⟨0,Nat.zero_le _,rfl,HST0.out,KT.refl _ _ _ _⟩
      case round =>
        obtain ⟨k,hk,rfl,hSt,hKT⟩:=hrel
        have HSt:=Lib.hid hSt
        have HKT:=Lib.hid hKT
        have hszr:=hKT.size
        clear hSt hKT
        have HBr:=Lib.hid (HBK2.out.ktS HSP0.out HKT.out hbsp (Nat.le_refl _))
        have HAr:=Lib.hid (show ∃ cur,Is wr a 72 cur by obtain ⟨cur,hi⟩:=HA2.out; exact ⟨cur,hi.kt HKT.out (.inl hasp)⟩)
        by_cases hlt:k < ws.length
        · have hk0 : (k:Int) < (ws.length:Int):=by omega
          have hk1:(0:Int) ≤ (k:Int):=by omega
          obtain ⟨g,B,bc,rfl,cc1,cc2,h5,hbuf⟩:=HBr.out.at_ hlt
          have hdk:data[k]'(by rw [HWL2.out]; exact hlt)=ws[k].2:=by have:=HDA.out; subst this; simp
          have hlg:(logW 0 data).take (k + 1)=(logW 0 data).take k ++ [(2 + k,ws[k].2)]:=by
            rw [take_snoc (logW 0 data) k (by rw [HLW.out]; exact hlt),logW_get data 0 k (by rw [HLW.out]; exact hlt),hdk,Nat.add_zero]
          have hmm:((logW 0 data).take (k + 1)).map some=((logW 0 data).take k).map some ++ [some (2 + k,ws[k].2)]:=by rw [hlg,List.map_append]; rfl
          have hsl:(((logW 0 data).take k).map some).length ≤ 100000:=by rw [List.length_map,List.length_take,HLW.out]; omega
          obtain ⟨x,hx⟩:∃ x,ws[k].1=x:=⟨_,rfl⟩
          obtain ⟨b,hb⟩:∃ b,ws[k].2=b:=⟨_,rfl⟩
          rw [hx] at cc1
          rw [hb] at h5 hbuf hmm
          have H5:=Lib.hid h5
          have HBUF:=Lib.hid hbuf
          have HMM:=Lib.hid hmm
          have HSL:=Lib.hid hsl
          have HE2:=Lib.hid (show (2 + (k:Int))=((2 + k:Nat):Int) by omega)
          clear hdk hlg hmm hsl h5 hbuf hx hb
          go_wp2_with (go_at_call 84
                       rw [HE2.out]
                       refine (swrite_any base a sp sp _ (2 + k) B bc b _ (HSt.out.later (below_new _ _)) (by obtain ⟨cur,hi⟩:=HAr.out; exact ⟨cur,hi.below (below_new _ _) hi.lt⟩) hbsp (Nat.le_refl _) (by rw [World.size_alloc]; omega) HSL.out H5.out (HBUF.out.later (below_new _ _))).mono ?_
                       rintro e w9 ⟨rfl,hS9,hk9⟩
                       have HS9:=Lib.hid hS9
                       have HK9:=Lib.hid hk9
                       clear hS9 hk9)
          go_roundw
          case rel => exact ⟨k + 1,by omega,by go_num,by rw [HMM.out]; exact HS9.out,HKT.out.trans ((KT.of_below (below_new _ _) (Nat.le_refl _)).trans HK9.out)⟩
          case measure => simp [intOf]; omega
        · obtain rfl:ws.length=k:=by omega
          have hall:(logW 0 data).take ws.length=logW 0 data:=by rw [← HLW.out]; exact List.take_length
          rw [hall] at HSt
          have HL0:=Lib.hid (show ((logW 0 data).map some).length ≤ 200 by rw [List.length_map,HLW.out]; omega)
          have HL1:=Lib.hid (show ((logW 0 data).map some ++ [none]).length ≤ 201 by have:=HL0.out; rw [List.length_append]; simp only [List.length_singleton]; omega)
          have HL2:=Lib.hid (show ((logW 0 data).map some ++ [none] ++ [some (1,HDR)]).length ≤ 202 by have:=HL1.out; rw [List.length_append]; simp only [List.length_singleton]; omega)
          have HL3:=Lib.hid (show ((logW 0 data).map some ++ [none] ++ [some (1,HDR)] ++ [none]).length ≤ 203 by have:=HL2.out; rw [List.length_append]; simp only [List.length_singleton]; omega)
          clear hall
          go_wp2_with (first
            | (go_at_call 85
               first
               | (refine (sflush_any base a sp sp _ _ HS3.out hbsp (Nat.le_refl _) hz3 (by have:=HL2.out; omega)).mono ?_
                  rintro e w13 ⟨rfl,hS4,hk4⟩
                  have HS4:=Lib.hid hS4
                  have HK4:=Lib.hid (HK3.out.trans hk4)
                  have hz4:=Nat.le_trans hz3 hk4.size
                  clear hS4 hk4)
               | (refine (sflush_any base a sp sp _ _ HSt.out hbsp (Nat.le_refl _) (by omega) (by have:=HL0.out; omega)).mono ?_
                  rintro e w11 ⟨rfl,hS2,hk2⟩
                  have HS2:=Lib.hid hS2
                  have HK2:=Lib.hid (HKT.out.trans hk2)
                  have hz2:sp ≤ w11.heap.size:=Nat.le_trans (show sp ≤ wr.heap.size by omega) hk2.size
                  clear hS2 hk2))
            | (go_at_call 84
               refine (swrite_any base a sp sp _ 1 BH 512 HDR _ HS2.out (by obtain ⟨cur,hi⟩:=HA2.out; exact ⟨cur,hi.kt HK2.out (.inl hasp)⟩) hbsp (Nat.le_refl _) hz2 (by have:=HL1.out; omega) HHL.out (HMB.out.ktS HSP0.out HK2.out hbsp (Nat.le_refl _))).mono ?_
               rintro e w12 ⟨rfl,hS3,hk3⟩
               have HS3:=Lib.hid hS3
               have HK3:=Lib.hid (HK2.out.trans hk3)
               have hz3:=Nat.le_trans hz2 hk3.size
               clear hS3 hk3)
            | (go_at_call 86
               refine (shome_any base a lb sp sp _ A c ws _ (HBK2.out.ktS HSP0.out HK4.out hbsp (Nat.le_refl _)) HS4.out (by obtain ⟨cur,hi⟩:=HA2.out; exact ⟨cur,hi.kt HK4.out (.inl hasp)⟩) hbsp (Nat.le_refl _) hz4 (by have:=HL3.out; omega) (by omega) hasp).mono ?_
               rw [HIW.out]
               rintro e w14 ⟨rfl,hS5,hk5⟩
               obtain ⟨SA,sc,hsI,hsR⟩:=hS5
               have cS:w14.cell? ⟨sp,0,none⟩=some (.slice SA (Tx.whole HDR ws).length sc):=hsI.cell 0
               have HSR:=Lib.hid hsR
               have HK5:=Lib.hid (HK4.out.trans hk5)
               have hz5:=Nat.le_trans hz4 hk5.size
               clear hsI hsR hk5)
            | (go_at_call 87
               refine (sdo_any base a d sp D (Tx.whole HDR ws) SA sc w14 (HD2.out.ktS HSP0.out HK5.out hbsp) HDN.out HSR.out (HWM.out HDR) (by omega) (by rw [whole_len]; omega)).mono ?_
               rintro e w15 ⟨rfl,hD6,hk6⟩
               have HD6:=Lib.hid hD6
               have HK6:=Lib.hid hk6
               clear hD6 hk6))
          go_ret
          exact ⟨rfl,HD6.out,(KT.of_below (HBW2.out.trans ((HK5.out.below (by omega)).mono (by omega))) (Nat.le_refl _)).trans HK6.out⟩
end Go.Proofs.YthkijogloebdoaaGreatDoor
end
section
namespace Go.Proofs.YthkijogloebdoaaGreatDoor
open Go.RowKit Go.Maps Go.Sort Go.Shelf
theorem sortsA (m:Nat):AnyZI.SortsIn Tryz.prog sortedA_ren Fence.wide m :=
  ⟨fun blk off cap ss W hH hblk hsz => callsIn_wide.2 (AnyM.slices_Sort_int sortA blk off cap ss W hH hblk hsz),
   fun p cap W => callsIn_wide.2 (AnyM.slices_Sort_int_none sortA p cap W)⟩
set_option maxHeartbeats 1600000 in
theorem written_any {H:Type}(t b nn:Nat)(D0:DataW H)(R:Value → Option (DataW H × List MemPlace))(w:World)(hown:w.ownsMap Tryz.prog 3 R b nn D0)(hmax:Maps.size D0 ≤ 1000000)(h1:w.cell? ⟨t,1,none⟩=some (.map (some b)))(h3:w.cell? ⟨t,3,none⟩=some (.bool false)) :
    Calls Tryz.prog 12 #[.pointer (some ⟨t,0,none⟩)] w fun e w' => (∃ (A:Option Addr) (c:Nat) (ss:List Int),e=.returned (.slice A ss.length c) ∧ ss.Perm (intKeys D0) ∧ ss.Pairwise (· ≤ ·) ∧ Nums w' w.heap.size A c ss) ∧ Below w.heap.size w w':=by
  refine (callsIn_wide (n:=6)).1 ?_
  have hbl:=hown.lt
  have hseq:SeqGives Fence.wide 2 Tryz.prog 59 #[.pointer (some ⟨w.heap.size,0,none⟩)] encZ (fun ss => ss.Perm (intKeys D0)) (Maps.size D0) (w.alloc (.cells #[.map (some b)] 45)) :=
    AnyZI.keys_gives (ρ:=keysA_ren) { keysA with } Fence.wide _ trivial rfl (by omega) w.heap.size b nn D0 _ (by simp) (by simp) (by
      obtain ⟨es,clock,hb,Ft,hs,hD⟩:=hown
      exact ⟨es,clock,(Below.heap_alloc _ _ b hbl).trans hb,Ft,hs,hD⟩)
  have cK:∀ mb W,CallsIn Fence.wide 5 Tryz.prog 30 #[.map mb] W fun e w' => e=.returned (.func (.func 59) #[] #[.pointer (some ⟨W.heap.size,0,none⟩)]) ∧ w'=W.alloc (.cells #[.map mb] 45):=fun mb W => AnyZI.keys_in keysA Fence.wide 5 trivial rfl mb W
  have cS:=AnyZI.sorted_in sortedA Fence.wide 5 trivial trivial trivial trivial rfl (by omega) (sortsA _) (enters_of Tryz.func58 (by kernel_rfl) rfl) 59 #[.pointer (some ⟨w.heap.size,0,none⟩)] trivial (enters_of Tryz.func59 (by kernel_rfl) rfl) _ _ (by simp only [maxLen]; omega) (by omega) _ hseq
  change CallsIn _ _ Tryz.prog 29 _ _ _ at cS
  have hfK:Fence.wide.fn 30:=trivial
  have hfS:Fence.wide.fn 29:=trivial
  refine callsIn_of_wp Tryz.func12 rfl trivial ?_ rfl
  simp only [Tryz.ntmps12,List.size_toArray,List.length_cons,List.length_nil,Nat.reduceAdd,Nat.reduceSub,Array.replicate_succ,Array.replicate_zero,List.push_toArray,List.append_toArray,List.nil_append,List.cons_append]
  gi_wp2_with (first
    | (gi_at_call 30; refine (cK _ _).mono ?_; rintro e w' ⟨rfl,rfl⟩)
    | (gi_at_call 29; refine cS.mono ?_; rintro e w' ⟨v,ss,rfl,hS,hrow,hnil,hb⟩))
  go_ret
  have hrow2:w'.ownsRow w.heap.size 3 1 v ss.length (numCells (ss.mergeSort fun x y => decide (x ≤ y))):=ownsRow_base_a hrow (by simp)
  obtain ⟨A,c,rfl,hO⟩:=own_form hrow2
  have hl:(ss.mergeSort fun x y => decide (x ≤ y)).length=ss.length:=List.length_mergeSort _
  have hp:=List.mergeSort_perm ss (fun x y => decide (x ≤ y))
  have hso:(ss.mergeSort fun x y => decide (x ≤ y)).Pairwise (· ≤ ·):=by
    have:=List.pairwise_mergeSort (le:=fun x y:Int => decide (x ≤ y)) (fun a b c h1 h2 => by simp at h1 h2 ⊢; omega) (fun a b => by simp; omega) ss
    exact this.imp (fun h => by simpa using h)
  refine ⟨⟨A,c,ss.mergeSort fun x y => decide (x ≤ y),by rw [hl]; rfl,hp.trans hS,hso,?_⟩,((Below.refl _ w).alloc (Nat.le_refl _) _).trans (hb.mono (by simp))⟩
  unfold Nums
  rw [hl]
  exact hO
end Go.Proofs.YthkijogloebdoaaGreatDoor
end
section
namespace Go.Proofs.YthkijogloebdoaaGreatDoor
open Go.RowKit Rec
def Rw (w:World)(g:Nat)(l:List UInt8):Prop := ∃ cs τ,w.heap[g]? = some (.cells cs τ (0,0)) ∧ l.length ≤ cs.size ∧ ∀ k (h:k < l.length),cs[k]? = some (.int .u8 (n8 l[k]))
section
variable {w w':World}{g:Nat}{l:List UInt8}
theorem Rw.lt (h:Rw w g l):g < w.heap.size:=by
  obtain ⟨cs,τ,hh,_⟩:=h
  exact (Array.getElem?_eq_some_iff.1 hh).1
theorem Rw.cell (h:Rw w g l){k:Nat}(hk:k < l.length):w.cell? ⟨g,k,none⟩=some (.int .u8 (n8 l[k])):=by
  obtain ⟨cs,τ,hh,_,hc⟩:=h
  rw [cell_of_row w g k cs τ (0,0) hh]
  exact hc k hk
theorem Rw.free (h:Rw w g l)(k:Nat):w.frozen? ⟨g,k,none⟩=false:=by
  obtain ⟨cs,τ,hh,_⟩:=h
  exact frozen_of_row w g k cs τ hh
theorem Rw.bytes (h:Rw w g l):Bytes w (some ⟨g,0,none⟩) l:=.inr ⟨g,0,rfl,fun k hk => by rw [show (⟨g,0 + k,none⟩:Addr)=⟨g,k,none⟩ by rw [Nat.zero_add]]; exact h.cell hk⟩
theorem Rw.put (h:Rw w g l)(k:Nat)(b:UInt8):Rw (w.setCell ⟨g,k,none⟩ (.int .u8 (n8 b))) g (l.set k b):=by
  obtain ⟨cs,τ,hh,hs,hc⟩:=h
  refine ⟨cs.setIfInBounds k (.int .u8 (n8 b)),τ,heap_setCell_same w g k cs τ _ hh,by simpa using hs,fun j hj => ?_⟩
  rw [List.length_set] at hj
  by_cases e:k=j
  · subst e
    simp [show k < cs.size by omega]
  · rw [Array.getElem?_setIfInBounds_ne e,hc j hj]
    simp [e]
theorem Rw.kept (h:Rw w g l)(hk:w'.heap[g]? = w.heap[g]?):Rw w' g l:=by
  obtain ⟨cs,τ,hh,r⟩:=h
  exact ⟨cs,τ,hk.trans hh,r⟩
theorem Rw.below {B:Nat}(h:Rw w g l)(hb:Below B w w')(hg:g < B):Rw w' g l:=h.kept (hb.block g hg)
theorem Rw.later (h:Rw w g l)(hb:Below w.heap.size w w'):Rw w' g l:=h.below hb h.lt
theorem Rw.keeps {S:Nat → Prop}(h:Rw w g l)(k:Keeps S w w')(hn:¬ S g):Rw w' g l:=h.kept (k.block g h.lt hn)
theorem Rw.drew (h:Rw w g l):Rw w.drew g l:=h
theorem Rw.of_is {t:TypeId}(h:Is w g t (u8s l)):Rw w g l:=⟨_,_,h,by rw [u8s_size]; exact Nat.le_refl _,fun k hk => u8s_at l k hk⟩
theorem Rw.of_mine {base cap:Nat}(h:Mine w base (some ⟨g,0,none⟩) cap l)(hl:l ≠ []):Rw w g l:=by
  obtain ⟨cur,hh,hs,_⟩:=h.row
  refine ⟨cur,_,hh,hs,fun k hk => ?_⟩
  have:=h.cell hk
  rwa [cell_of_row w g k cur _ (0,0) hh] at this
theorem Rw.row (h:Rw w g l):∃ (cur:Array Value) (τ:TypeId),w.heap[g]? = some (.cells cur τ (0,0)) ∧ l.length ≤ cur.size ∧
    ∀ (at_:Nat) (news:List UInt8),at_ + news.length ≤ l.length → Rw (w.setRow g (cur.toList.take at_ ++ cellsOf8 news ++ cur.toList.drop (at_ + news.length)).toArray) g (spliced l at_ news) ∧
      Keeps (·=g) w (w.setRow g (cur.toList.take at_ ++ cellsOf8 news ++ cur.toList.drop (at_ + news.length)).toArray):=by
  obtain ⟨cur,τ,hh,hs,hc⟩:=h
  refine ⟨cur,τ,hh,hs,fun at_ news hfit => ⟨?_,⟨rfl,rfl,rfl,by simp,fun k _ hne => setRow_other w g k _ (fun e => hne e)⟩⟩⟩
  refine ⟨_,τ,setRow_heap w g _ _ _ _ hh,?_,fun k hk => ?_⟩
  · rw [spliced_length l at_ news hfit]
    simp [cellsOf8_length]
    omega
  · rw [spliced_length l at_ news hfit] at hk
    have hcl:cur.toList.length=cur.size:=Array.length_toList
    rw [List.getElem?_toArray]
    unfold spliced
    have hcu:∀ j (hj:j < l.length),cur.toList[j]? = some (.int .u8 (n8 l[j])):=fun j hj => by rw [Array.getElem?_toList]; exact hc j hj
    rcases Nat.lt_or_ge k at_ with h1 | h1
    · rw [List.append_assoc,List.getElem?_append_left (by rw [List.length_take]; omega),List.getElem?_take_of_lt h1,hcu k hk]
      simp only [List.append_assoc]
      rw [List.getElem_append_left (by rw [List.length_take]; omega),List.getElem_take]
    · rcases Nat.lt_or_ge k (at_ + news.length) with h2 | h2
      · rw [List.append_assoc,List.getElem?_append_right (by rw [List.length_take]; omega),List.getElem?_append_left (by rw [List.length_take,cellsOf8_length]; omega)]
        have e:k - (cur.toList.take at_).length=k - at_:=by rw [List.length_take]; omega
        rw [e,cellsOf8_at news (k - at_) (by omega)]
        have e2:(l.take at_ ++ news ++ l.drop (at_ + news.length))[k]? = some news[k - at_]:=by
          rw [List.append_assoc,List.getElem?_append_right (by rw [List.length_take]; omega),List.getElem?_append_left (by rw [List.length_take]; omega),List.length_take,Nat.min_eq_left (by omega),List.getElem?_eq_getElem (by omega)]
        exact congrArg (fun x => some (Value.int IntKind.u8 (n8 x))) (List.getElem?_eq_some_iff.1 e2).2.symm
      · rw [List.getElem?_append_right (by rw [List.length_append,List.length_take,cellsOf8_length]; omega)]
        have e:k - (cur.toList.take at_ ++ cellsOf8 news).length=k - (at_ + news.length):=by rw [List.length_append,List.length_take,cellsOf8_length]; omega
        rw [e,List.getElem?_drop,show at_ + news.length + (k - (at_ + news.length))=k by omega,hcu k hk]
        have e2:(l.take at_ ++ news ++ l.drop (at_ + news.length))[k]? = some l[k]:=by
          rw [List.getElem?_append_right (by rw [List.length_append,List.length_take]; omega),List.length_append,List.length_take,Nat.min_eq_left (by omega),List.getElem?_drop,show at_ + news.length + (k - (at_ + news.length))=k by omega,List.getElem?_eq_getElem (by omega)]
        exact congrArg (fun x => some (Value.int IntKind.u8 (n8 x))) (List.getElem?_eq_some_iff.1 e2).2.symm
end
theorem keeps_set (w:World)(g k:Nat)(v:Value):Keeps (·=g) w (w.setCell ⟨g,k,none⟩ v) :=
  have h:=(Below.refl 0 w).setCell (p:=⟨g,k,none⟩) (Nat.zero_le _) v
  ⟨h.os,h.tape,h.output,h.size,fun i hi hn => heap_setCell_other w ⟨g,k,none⟩ i v (fun e => hn e)⟩
set_option maxHeartbeats 1600000 in
theorem rput_any (g cap len:Nat)(l:List UInt8)(hlen:l.length=len)(a k9 v:Nat)(w:World)(hw:WidthsAt w)(hM:Rw w g l)(hW:isW k9=true)(h88:(k9:Int) < 8)(hv:v < 256 ^ k9)(ham:a + k9 ≤ len)(hm:len ≤ 140737488355328) :
    Calls Tryz.prog 94 #[.slice (some ⟨g,0,none⟩) len cap,.int .i64 a,.int .i64 k9,.int .u64 (v:Int)] w fun e w' =>
      e=.returned (.int .i64 0) ∧ Rw w' g (spliced l a (les v k9)) ∧ Keeps (·=g) w w':=by
  subst hlen
  have HW:=Lib.hid hw
  have HM:=Lib.hid hM
  clear hw hM
  have iw:=isWidth_any k9 w HW.out
  have li:=lie_any (some ⟨g,0,none⟩) l.length cap a k9 w hm (by omega) (by omega)
  rw [hW] at iw
  have IW:=Lib.hid iw
  have hpos:0 < k9:=by rcases Nat.eq_zero_or_pos k9 with e | e; subst e; cases hW; exact e
  have h8:k9 ≤ 8:=by omega
  have hL:lies l.length a k9=true:=by unfold lies; rw [decide_eq_true_eq]; omega
  have hq0:v / 2 ^ (8 * k9)=0:=Nat.div_eq_of_lt (by rw [Nat.pow_mul]; exact hv)
  have hq3:((v:Int) / 2 ^ (8 * k9) != 0)=false:=by
    have:((v:Int) / 2 ^ (8 * k9))=((v / 2 ^ (8 * k9):Nat):Int):=by push_cast; rfl
    rw [this,hq0]; rfl
  clear hq0
  rw [hL] at li
  have LI:=Lib.hid li
  clear iw li hW hL hv
  go_enter Tryz.func94,Tryz.ntmps94
  go_wp2_with (first
    | (go_at_call 130; refine IW.out.mono ?_; rintro e w' ⟨rfl,rfl⟩)
    | (go_at_call 131; refine LI.out.mono ?_; rintro e w' ⟨rfl,rfl⟩))
  go_loopw [9,32] (fun _ i wr => ∃ k:Nat,k ≤ k9 ∧ i=.int .i64 k ∧ Rw wr g (spliced l a (les v k)) ∧ Keeps (·=g) w wr) (fun _ i _ => k9 - (intOf i).toNat)
  case atStart => exact ⟨0,Nat.zero_le _,rfl,by rw [show les v 0=[] from rfl,spliced_nil]; exact HM.out,Keeps.refl _ _⟩
  case round =>
    obtain ⟨k,hk,rfl,hM,hG⟩:=hrel
    by_cases hlt:k < k9
    · have hsl:(spliced l a (les v k)).length=l.length:=spliced_length _ _ _ (by rw [les_length]; omega)
      have hc:=hM.cell (k:=a + k) (by omega)
      have hf:=hM.free (a + k)
      have hb:=u8_byteAt v k
      have hML:=Lib.hid hM
      have HG:=Lib.hid hG
      clear hM hG
      go_wp2_with fail
      go_roundw
      case rel =>
        refine ⟨k + 1,by omega,by go_num,?_,HG.out.trans (keeps_set _ _ _ _)⟩
        have:=hML.out.put (a + k) (byteAt v k)
        rw [les_succ,spliced_snoc _ _ _ _ (by rw [les_length]; omega),les_length]
        exact this
      case measure => simp [intOf]; omega
    · go_wp2_with fail
      go_ret
      obtain rfl:k=k9:=by omega
      exact ⟨rfl,hM,hG⟩
theorem run_copy_rw {o:Oper}{a:Act}{w:World}(d s:Operand)(ho:o.op=.call { callee:=.builtin .copy,args := #[d,s],argTypes := #[28,28] })
    (g:Nat)(l:List UInt8)(hm:Rw w g l)(at_ dLen dCap:Nat)(hd:a.eval d=.slice (some ⟨g,at_,none⟩) dLen dCap)
    (sp:Addr)(sCap:Nat)(news:List UInt8)(hs:a.eval s=.slice (some sp) news.length sCap)(hn:Bytes w (some sp) news)(hle:news.length ≤ dLen)(hfit:at_ + news.length ≤ l.length) :
    ∃ w',(execOp a.eval o).run Tryz.prog w=.ok (.value (goInt news.length)) w' ∧ Rw w' g (spliced l at_ news) ∧ Keeps (·=g) w w':=by
  obtain ⟨cur,τ,hh,hsz,hsp⟩:=hm.row
  obtain ⟨h1,h2⟩:=hsp at_ news hfit
  have hrun:=run_copy_row (P:=Tryz.prog) w 28 28 o.type 5 g at_ dLen dCap sp news.length sCap cur τ (cellsOf8 news) Tryz.underlying28 sizeU8 hh
      (by rw [cellsOf8_length]; exact (Nat.min_eq_left hle).symm) hn.cells (by rw [cellsOf8_length]; omega) (cellsOf8_one _)
  rw [cellsOf8_length] at hrun
  exact ⟨_,by simp [execOp,ho,resolve,invoke,builtin,hd,hs,hrun,Result.andThen],h1,h2⟩
theorem wpList_copy_rw {ops:Array Oper}{rest:List Oper}{o:Oper}{a:Act}{w:World}{Q:Exit → Act → World → Prop}(hgd:o.guard=none)(d s:Operand)
    (ho:o.op=.call { callee:=.builtin .copy,args := #[d,s],argTypes := #[28,28] })
    (g:Nat)(l:List UInt8)(hm:Rw w g l)(at_ dLen dCap:Nat)(hd:a.eval d=.slice (some ⟨g,at_,none⟩) dLen dCap)
    (sp:Addr)(m sCap:Nat)(news:List UInt8)(hnm:news.length=m)(hs:a.eval s=.slice (some sp) m sCap)(hn:Bytes w (some sp) news)(hle:m ≤ dLen)(hfit:at_ + m ≤ l.length)
    (h:∀ w',Rw w' g (spliced l at_ news) → Keeps (·=g) w w' → wpList Tryz.prog ops Q rest (a.put o.dst (goInt m)) w') :
    wpList Tryz.prog ops Q (o :: rest) a w:=by
  subst hnm
  obtain ⟨w',hrun,h1,h2⟩:=run_copy_rw d s ho g l hm at_ dLen dCap hd sp sCap news hs hn hle hfit
  refine wpList_plain hgd fun K hK => ?_
  unfold Oper.wp
  rw [hrun]
  exact hK _ _ (h _ h1 h2)
theorem run_copy_row_text {P:Program}(w:World)(dT sT ty elem:TypeId)(g o dLen dCap:Nat)(s:ByteArray)(cur:Array Value)(t:TypeId)
    (hu:P.underlying dT=some (.slice elem))(hs:(P.info? elem).map (·.size)=some 1)(hg:w.heap[g]? = some (.cells cur t (0,0)))(hle:dLen ≤ s.size)(hfit:o + dLen ≤ cur.size) :
    (Builtin.copy_ #[dT,sT] ty #[.slice (some ⟨g,o,none⟩) dLen dCap,.string s]).run P w =
      .ok (goInt dLen) (w.setRow g (cur.toList.take o ++ Lib.byteCells (s.data.toList.take dLen) ++ cur.toList.drop (o + dLen)).toArray):=by
  have hsz:s.data.toList.length=s.size:=by rw [Array.length_toList]; rfl
  have hlen:(Lib.byteCells (s.data.toList.take dLen)).length=dLen:=by unfold Lib.byteCells; rw [List.length_map,List.length_take]; omega
  have hst:=run_storeCells_at P g o t (Lib.byteCells (s.data.toList.take dLen)) 0 cur w hg (by rw [hlen]; simpa using hfit) (Lib.byteCells_one _)
  have hmin:Nat.min s.size dLen=dLen:=Nat.min_eq_right hle
  have htk:List.take dLen (List.map (fun b:UInt8 => Value.int IntKind.u8 (b.toNat:Int)) s.data.toList)=Lib.byteCells (s.data.toList.take dLen):=by
    unfold Lib.byteCells
    rw [List.map_take]
  rw [hlen] at hst
  simp only [Nat.add_zero] at hst
  cases hq:P.info? elem with
  | none => simp [hq] at hs
  | some i =>
    simp [Builtin.copy_,run_underlying hu,Builtin.lenOf,Builtin.firstCells,sizeOf,typeInfo,hq,hmin]
    rw [htk,hst]
    simp [Result.andThen]
theorem wpList_copy_rw_text {ops:Array Oper}{rest:List Oper}{o:Oper}{a:Act}{w:World}{Q:Exit → Act → World → Prop}(hgd:o.guard=none)(d s:Operand)
    (ho:o.op=.call { callee:=.builtin .copy,args := #[d,s],argTypes := #[28,9] })
    (g:Nat)(l:List UInt8)(hm:Rw w g l)(at_ dLen dCap:Nat)(hd:a.eval d=.slice (some ⟨g,at_,none⟩) dLen dCap)
    (news:List UInt8)(hs:a.eval s=.string ⟨news.toArray⟩)(hle:dLen ≤ news.length)(hfit:at_ + dLen ≤ l.length)
    (h:∀ w',Rw w' g (spliced l at_ (news.take dLen)) → Keeps (·=g) w w' → wpList Tryz.prog ops Q rest (a.put o.dst (goInt dLen)) w') :
    wpList Tryz.prog ops Q (o :: rest) a w:=by
  obtain ⟨cur,τ,hh,hsz,hsp⟩:=hm.row
  have hlt:(news.take dLen).length=dLen:=by rw [List.length_take]; omega
  obtain ⟨h1,h2⟩:=hsp at_ (news.take dLen) (by omega)
  rw [hlt] at h1 h2
  have hrun:=run_copy_row_text (P:=Tryz.prog) w 28 9 o.type 5 g at_ dLen dCap ⟨news.toArray⟩ cur τ Tryz.underlying28 sizeU8 hh hle (by omega)
  have hrun:(Builtin.copy_ #[28,9] o.type #[.slice (some ⟨g,at_,none⟩) dLen dCap,.string ⟨news.toArray⟩]).run Tryz.prog w =
      .ok (goInt dLen) (w.setRow g (cur.toList.take at_ ++ cellsOf8 (news.take dLen) ++ cur.toList.drop (at_ + dLen)).toArray):=hrun
  generalize (w.setRow g (cur.toList.take at_ ++ cellsOf8 (news.take dLen) ++ cur.toList.drop (at_ + dLen)).toArray)=w2 at hrun h1 h2
  refine wpList_plain hgd fun K hK => ?_
  unfold Oper.wp
  simp [execOp,ho,resolve,invoke,builtin,hd,hs,hrun,Result.andThen]
  exact hK _ _ (h _ h1 h2)
end Go.Proofs.YthkijogloebdoaaGreatDoor
end
section
namespace Go.Proofs.YthkijogloebdoaaGreatDoor
open Go.RowKit Go.Maps
def Agree (O:Nat → Prop)(w w2:World):Prop := ∀ k,O k → w2.heap[k]? = w.heap[k]?
theorem Agree.trans {O:Nat → Prop}{w w2 w3:World}(h:Agree O w w2)(k:Agree O w2 w3):Agree O w w3:=fun i hi => (k i hi).trans (h i hi)
theorem Agree.mono {O Q:Nat → Prop}{w w2:World}(h:Agree O w w2)(hs:∀ k,Q k → O k):Agree Q w w2:=fun i hi => h i (hs i hi)
def Fr (w:World)(O:Nat → Prop)(w2:World)(O2:Nat → Prop):Prop:=Keeps O w w2 ∧ ∀ k,O2 k → O k ∨ w.heap.size ≤ k
section
variable {w w2 w3:World}{O O2 O3:Nat → Prop}
theorem Fr.refl (w:World)(O:Nat → Prop):Fr w O w O:=⟨Keeps.refl _ _,fun k h => .inl h⟩
theorem Fr.trans (h:Fr w O w2 O2)(k:Fr w2 O2 w3 O3):Fr w O w3 O3:=by
  refine ⟨⟨k.1.os.trans h.1.os,k.1.tape.trans h.1.tape,k.1.output.trans h.1.output,Nat.le_trans h.1.size k.1.size,fun i hi hn => ?_⟩,fun i hi => ?_⟩
  · refine (k.1.block i (Nat.lt_of_lt_of_le hi h.1.size) (fun hO => ?_)).trans (h.1.block i hi hn)
    rcases h.2 i hO with h1 | h1
    · exact hn h1
    · omega
  · rcases k.2 i hi with h1 | h1
    · exact h.2 i h1
    · exact .inr (Nat.le_trans h.1.size h1)
theorem Fr.of_below (hb:Below w.heap.size w w2):Fr w O w2 O:=⟨Keeps.of_below hb,fun k h => .inl h⟩
theorem Fr.out {g:Nat}(h:Fr w O w2 O2)(hg:g < w.heap.size)(hn:¬ O g):¬ O2 g:=fun h2 => by
  rcases h.2 g h2 with h1 | h1
  · exact hn h1
  · omega
theorem Fr.size (h:Fr w O w2 O2):w.heap.size ≤ w2.heap.size:=h.1.size
theorem Is.fr {g:Nat}{t:TypeId}{cs:Array Value}(hi:Is w g t cs)(h:Fr w O w2 O2)(hn:¬ O g):Is w2 g t cs:=hi.keeps h.1 hn
theorem Rw.fr {g:Nat}{l:List UInt8}(hi:Rw w g l)(h:Fr w O w2 O2)(hn:¬ O g):Rw w2 g l:=hi.keeps h.1 hn
theorem Fr.below {B:Nat}(h:Fr w O w2 O2)(hB:B ≤ w.heap.size)(hO:∀ k,O k → B ≤ k):Below B w w2:=h.1.below hB hO
end
structure Cx where
  base:Nat
  a:Nat
  d:Nat
  t:Nat
  b:Nat
  N:Nat
  D:Dk
structure Tn where
  P:Nat → Option (List UInt8)
  H:List (Nat × Option (List UInt8))
namespace Tn
def put (T:Tn)(i:Nat)(l:List UInt8):Tn:=⟨fun j => if j=i then some l else T.P j,T.H ++ [(i,T.P i)]⟩
def undo1 (P:Nat → Option (List UInt8))(x:Nat × Option (List UInt8)):Nat → Option (List UInt8):=fun j => if j=x.1 then x.2 else P j
def unwind (P:Nat → Option (List UInt8))(H:List (Nat × Option (List UInt8))):Nat → Option (List UInt8):=H.reverse.foldl undo1 P
theorem unwind_snoc (P:Nat → Option (List UInt8))(H:List (Nat × Option (List UInt8)))(x:Nat × Option (List UInt8)):unwind P (H ++ [x])=unwind (undo1 P x) H:=by
  unfold unwind; rw [List.reverse_append]; rfl
theorem unwind_append (P:Nat → Option (List UInt8))(H K:List (Nat × Option (List UInt8))):unwind P (H ++ K)=unwind (unwind P K) H:=by
  unfold unwind; rw [List.reverse_append,List.foldl_append]
def back (T:Tn)(m:Nat):Tn:=⟨unwind T.P (T.H.drop m),T.H.take m⟩
def Ext (T0 T:Tn):Prop := ∃ H1,T.H=T0.H ++ H1 ∧ unwind T.P H1=T0.P
theorem Ext.refl (T:Tn):Ext T T:=⟨[],by simp,rfl⟩
theorem undo_put (T:Tn)(i:Nat)(l:List UInt8):undo1 (T.put i l).P (i,T.P i)=T.P:=by
  funext j
  unfold undo1 put
  by_cases h:j=i
  · simp [h]
  · simp [h]
theorem Ext.put {T0 T:Tn}(h:Ext T0 T)(i:Nat)(l:List UInt8):Ext T0 (T.put i l):=by
  obtain ⟨H1,h1,h2⟩:=h
  exact ⟨H1 ++ [(i,T.P i)],by rw [show (T.put i l).H=T.H ++ [(i,T.P i)] from rfl,h1,List.append_assoc],by rw [unwind_snoc,undo_put]; exact h2⟩
theorem Ext.trans {T0 T T2:Tn}(h:Ext T0 T)(k:Ext T T2):Ext T0 T2:=by
  obtain ⟨H1,h1,h2⟩:=h
  obtain ⟨H2,k1,k2⟩:=k
  exact ⟨H1 ++ H2,by rw [k1,h1,List.append_assoc],by rw [unwind_append,k2,h2]⟩
theorem Ext.back {T0 T:Tn}(h:Ext T0 T):T.back T0.H.length=T0:=by
  obtain ⟨H1,h1,h2⟩:=h
  unfold Tn.back
  rw [h1,List.drop_left,List.take_left,h2]
theorem Ext.le {T0 T:Tn}(h:Ext T0 T):T0.H.length ≤ T.H.length:=by
  obtain ⟨H1,h1,_⟩:=h
  rw [h1,List.length_append]; omega
theorem put_len (T:Tn)(i:Nat)(l:List UInt8):(T.put i l).H.length=T.H.length + 1:=by unfold put; simp
def view (T:Tn)(D:Dk)(i:Nat):List UInt8:=(T.P i).getD (D.read i)
theorem view_put (T:Tn)(D:Dk)(i:Nat)(l:List UInt8)(j:Nat):(T.put i l).view D j=if j=i then l else T.view D j:=by
  unfold view put
  by_cases h:j=i
  · simp [h]
  · simp [h]
def Cov (T:Tn)(S:List Nat):Prop := ∀ i,T.P i ≠ none → i ∈ S
theorem Cov.put {T:Tn}{S:List Nat}(h:T.Cov S){i:Nat}(hi:i ∈ S)(l:List UInt8):(T.put i l).Cov S:=fun j hj => by
  unfold Tn.put at hj
  by_cases e:j=i
  · rw [e]; exact hi
  · simp [e] at hj
    exact h j hj
theorem Cov.mono {T:Tn}{S S2:List Nat}(h:T.Cov S)(hs:∀ i,i ∈ S → i ∈ S2):T.Cov S2:=fun i hi => hs i (h i hi)
end Tn
def diskF:List TypeId := [70,72,189,225]
theorem tk_of {w:World}{g:Nat}{t:TypeId}{cs:Array Value}(h:Is w g t cs){Ts:List TypeId}(ht:t ∈ Ts):Tk w g Ts:=⟨_,_,_,h,ht⟩
theorem not_tk_is {w:World}{g:Nat}{t:TypeId}{cs:Array Value}(h:Is w g t cs){Ts:List TypeId}(ht:t ∉ Ts):¬ Tk w g Ts:=fun ⟨cs',u,f,q1,q2⟩ => by
  rw [show w.heap[g]? = _ from h] at q1
  injection q1 with q1
  injection q1 with _ q1
  subst q1
  exact ht q2
theorem not_tk_map {w:World}{b:Nat}{es:Array MapEntry}{clock:Nat}(h:w.heap[b]? = some (.map es clock))(Ts:List TypeId):¬ Tk w b Ts:=fun ⟨cs,t,f,h1,_⟩ => by
  rw [h] at h1
  injection h1 with h1
  cases h1
theorem Tk.same {w w2:World}{g:Nat}{Ts:List TypeId}(h:Tk w g Ts)(e:w2.heap[g]? = w.heap[g]?):Tk w2 g Ts:=by
  obtain ⟨cs,t,f,h1,h2⟩:=h
  exact ⟨cs,t,f,e.trans h1,h2⟩
theorem mem_intKeys {w:World}{R:Value → Option (DataW Value × List MemPlace)}{b n:Nat}{D:DataW Value}(hown:w.ownsMap Tryz.prog 3 R b n D) :
    (intKeys D).Nodup ∧ (∀ x,x ∈ intKeys D ↔ Maps.has D (.int .i64 x)=true) ∧ (intKeys D).length=Maps.size D:=by
  obtain ⟨es,hD,hpw,_⟩:=hown.entries (int_keyed Tryz.underlying3)
  obtain ⟨es',hD',hko⟩:=hown.keysOf
  obtain rfl:es=es':=by rw [hD] at hD'; simpa using hD'
  subst hD
  have hk:∀ p ∈ es,∃ x,p.1=Lit.int .i64 x:=fun p hp => by obtain ⟨v,hv⟩:=hko p hp; obtain ⟨x,_,hx,_⟩:=Maps.keyOf_i64 Tryz.underlying3 hv; exact ⟨x,hx⟩
  refine ⟨?_,fun x => ?_,?_⟩
  · show (es.map fun p => Go.intOf p.1).Nodup
    refine List.pairwise_map.2 (hpw.imp_of_mem fun {p q} hp' hq' hne e => hne ?_)
    obtain ⟨a,ha⟩:=hk p hp'
    obtain ⟨c,hc⟩:=hk q hq'
    rw [ha,hc] at e ⊢
    exact congrArg _ e
  · rw [Maps.has_eq,List.any_eq_true]
    show x ∈ (es.map fun p => Go.intOf p.1) ↔ _
    rw [List.mem_map]
    constructor
    · rintro ⟨p,hp',rfl⟩
      obtain ⟨a,ha⟩:=hk p hp'
      exact ⟨p,hp',by rw [ha]; simp [Lit.sameKey,Go.intOf]⟩
    · rintro ⟨p,hp',hs⟩
      obtain ⟨a,ha⟩:=hk p hp'
      rw [ha] at hs
      exact ⟨p,hp',by rw [ha]; simpa [Lit.sameKey,Go.intOf] using hs⟩
  · show (es.map fun p => Go.intOf p.1).length=es.length
    rw [List.length_map]
def RV (v:Value):Option (DataW Value × List MemPlace):=some (.held v,[])
def nilD:DataW Value:=.held (.slice none 0 0)
abbrev keyD (i:Nat):Lit:=.int .i64 (i:Int)
theorem ownsMap_heap {w w2:World}{k:TypeId}{R:Value → Option (DataW Value × List MemPlace)}{b n:Nat}{D:DataW Value}(h:w.ownsMap Tryz.prog k R b n D)(e:w2.heap[b]? = w.heap[b]?):w2.ownsMap Tryz.prog k R b n D:=by
  obtain ⟨es,clock,hb,r⟩:=h
  exact ⟨es,clock,e.trans hb,r⟩
theorem ownsMap_isMap {w:World}{k:TypeId}{R:Value → Option (DataW Value × List MemPlace)}{b n:Nat}{D:DataW Value}(h:w.ownsMap Tryz.prog k R b n D):∃ es clock,w.heap[b]? = some (.map es clock):=by
  obtain ⟨es,clock,hb,_⟩:=h
  exact ⟨es,clock,hb⟩
theorem ownsMap_tight {w:World}{k:TypeId}{R:Value → Option (DataW Value × List MemPlace)}{b n:Nat}{D:DataW Value}(h:w.ownsMap Tryz.prog k R b n D):w.ownsMap Tryz.prog k R b (Maps.size D) D:=by
  obtain ⟨es,clock,hb,F,hs,hD⟩:=h
  refine ⟨es,clock,hb,F,?_,hD⟩
  rw [hD]
  show es.size ≤ (List.foldr DataW.insert [] _).length
  rw [length_sorted,List.length_map,Array.length_toList]
  exact Nat.le_refl _
theorem wf_i64 (x:Int)(h0 : -9223372036854775808 ≤ x)(h1:x ≤ 9223372036854775807):(Lit.int .i64 x).wf=true:=by
  show (decide (IntKind.i64.min ≤ x) && decide (x ≤ IntKind.i64.max))=true
  rw [show IntKind.i64.min = -9223372036854775808 from rfl,show IntKind.i64.max=9223372036854775807 from rfl,decide_eq_true h0,decide_eq_true h1]
  rfl
def Hb (w:World)(O:Nat → Prop)(a:Nat)(A:Addr)(l:List UInt8):Prop := ∃ g,A=⟨g,0,none⟩ ∧ O g ∧ Buf w 0 (some a) (some A) l
theorem Buf.same {w w2:World}{base:Nat}{a:Option Nat}{A:Option Addr}{l:List UInt8}(h:Buf w base a A l)(e:∀ g off,A=some ⟨g,off,none⟩ → w2.heap[g]? = w.heap[g]?):Buf w2 base a A l:=by
  rcases h with h | ⟨g,off,cs,t,f,rfl,hg,hs,hc⟩
  · exact .inl h
  · have e:=e g off rfl
    exact .inr ⟨g,off,cs,t,f,rfl,e.trans hg,hs,fun i hi => (World.cell?_of_block (a:=⟨g,off + i,none⟩) e).trans (hc i hi)⟩
theorem Hb.agree {w w2:World}{O:Nat → Prop}{a:Nat}{A:Addr}{l:List UInt8}(h:Hb w O a A l)(e:Agree O w w2):Hb w2 O a A l:=by
  obtain ⟨g,rfl,ho,hb⟩:=h
  exact ⟨g,rfl,ho,hb.same (fun g' off e' => by injection e' with e'; injection e' with e1 e2; subst e1; exact e _ ho)⟩
theorem Hb.more {w:World}{O Q:Nat → Prop}{a:Nat}{A:Addr}{l:List UInt8}(h:Hb w O a A l)(hs:∀ k,O k → Q k):Hb w Q a A l:=by
  obtain ⟨g,rfl,ho,hb⟩:=h
  exact ⟨g,rfl,hs g ho,hb⟩
structure MapIn (w:World)(O:Nat → Prop)(a b N:Nat)(P:Nat → Option (List UInt8))(D:DataW Value):Prop where
  own:w.ownsMap Tryz.prog 3 RV b (Maps.size D) D
  keys:∀ x:Int,Maps.has D (.int .i64 x)=true → ∃ i:Nat,x=(i:Int) ∧ 98 ≤ i ∧ i < N ∧ (P i).isSome=true
  no:∀ i:Nat,P i=none → Maps.has D (keyD i)=false
  yes:∀ (i:Nat) (l:List UInt8),P i=some l → Maps.has D (keyD i)=true ∧ l.length=512 ∧ ∃ g c,D.atKey (keyD i) nilD=.held (.slice (some g) 512 c) ∧ Hb w O a g l
section
variable {w w2:World}{O Q:Nat → Prop}{a b N:Nat}{P:Nat → Option (List UInt8)}{D:DataW Value}
theorem MapIn.agree (h:MapIn w O a b N P D)(hb:O b)(e:Agree O w w2):MapIn w2 O a b N P D :=
  ⟨ownsMap_heap h.own (e b hb),h.keys,h.no,fun i l hi => by obtain ⟨q1,q2,g,c,q3,q4⟩:=h.yes i l hi; exact ⟨q1,q2,g,c,q3,q4.agree e⟩⟩
theorem MapIn.more (h:MapIn w O a b N P D)(hs:∀ k,O k → Q k):MapIn w Q a b N P D :=
  ⟨h.own,h.keys,h.no,fun i l hi => by obtain ⟨q1,q2,g,c,q3,q4⟩:=h.yes i l hi; exact ⟨q1,q2,g,c,q3,q4.more hs⟩⟩
theorem MapIn.look (h:MapIn w O a b N P D)(i:Nat)(hi:i ≤ 1000000)(X:World)(hX:X.heap[b]? = w.heap[b]?) :
    (∃ v ps,(Instr.lookup 45 (.map (some b)) (.int .i64 (i:Int)) true).run Tryz.prog X=.ok (.tuple #[v,.bool (Maps.has D (keyD i))]) X ∧ RV v=some (D.atKey (keyD i) nilD,ps)) ∧
    (∃ v ps,(Instr.lookup 45 (.map (some b)) (.int .i64 (i:Int)) false).run Tryz.prog X=.ok v X ∧ RV v=some (D.atKey (keyD i) nilD,ps)):=by
  have hk:keyOf Tryz.prog 3 (.int .i64 (i:Int))=some (keyD i):=keyOf_int_mk Tryz.underlying3 (wf_i64 _ (by omega) (by omega))
  exact ⟨(ownsMap_heap h.own hX).look_ok (int_keyed Tryz.underlying3) Tryz.underlying45 (z:=.slice none 0 0) (by kernel_rfl) (zd:=nilD) (zp := []) rfl hk,
    (ownsMap_heap h.own hX).lookup (int_keyed Tryz.underlying3) Tryz.underlying45 (z:=.slice none 0 0) (by kernel_rfl) (zd:=nilD) (zp := []) rfl hk⟩
theorem MapIn.val (h:MapIn w O a b N P D){i:Nat}{v:Value}{ps:List MemPlace}(hv:RV v=some (D.atKey (keyD i) nilD,ps)) :
    (P i=none ∧ Maps.has D (keyD i)=false ∧ v=.slice none 0 0) ∨ (∃ l g c,P i=some l ∧ Maps.has D (keyD i)=true ∧ l.length=512 ∧ v=.slice (some g) 512 c ∧ Hb w O a g l):=by
  have hv2:DataW.held v=D.atKey (keyD i) nilD:=by
    unfold RV at hv
    injection hv with hv
    exact (Prod.mk.inj hv).1
  cases hP:P i with
  | none =>
    left
    have hn:=h.no i hP
    refine ⟨rfl,hn,?_⟩
    rw [Maps.atKey_of_not_has hn] at hv2
    unfold nilD at hv2
    injection hv2
  | some l =>
    right
    obtain ⟨q1,q2,g,c,q3,q4⟩:=h.yes i l hP
    rw [q3] at hv2
    injection hv2 with hv2
    exact ⟨l,g,c,rfl,q1,q2,hv2,q4⟩
theorem MapIn.few (h:MapIn w O a b N P D){S:List Nat}(hS:∀ i,P i ≠ none → i ∈ S):Maps.size D ≤ S.length ∧ ∀ i,i ∈ S → P i=none → Maps.size D < S.length:=by
  obtain ⟨k1,k2,k3⟩:=mem_intKeys h.own
  have hin:∀ x ∈ intKeys D,∃ i:Nat,x=(i:Int) ∧ (P i).isSome=true:=fun x hx => by obtain ⟨i,e,_,_,q⟩:=h.keys x ((k2 x).1 hx); exact ⟨i,e,q⟩
  have hnd:((intKeys D).map Int.toNat).Nodup:=by
    refine List.pairwise_map.2 (k1.imp_of_mem fun {p q} hp hq hne e => hne ?_)
    obtain ⟨i,rfl,_⟩:=hin p hp
    obtain ⟨j,rfl,_⟩:=hin q hq
    simp at e
    rw [e]
  have hsub:∀ i,i ∈ (intKeys D).map Int.toNat → i ∈ S ∧ P i ≠ none:=fun i hi => by
    obtain ⟨x,hx,rfl⟩:=List.mem_map.1 hi
    obtain ⟨j,rfl,q⟩:=hin x hx
    simp only [Int.toNat_natCast]
    have q':P j ≠ none:=fun e => by rw [e] at q; cases q
    exact ⟨hS j q',q'⟩
  have hl:((intKeys D).map Int.toNat).length=Maps.size D:=by rw [List.length_map]; exact k3
  constructor
  · rw [← hl]
    exact hnd.length_le_of_subset (fun i hi => (hsub i hi).1)
  · intro i hi hn
    have hnd2:(i :: (intKeys D).map Int.toNat).Nodup:=List.nodup_cons.2 ⟨fun hm => (hsub i hm).2 hn,hnd⟩
    have:=hnd2.length_le_of_subset (l₂:=S) (fun j hj => by
      rcases List.mem_cons.1 hj with rfl | hj
      · exact hi
      · exact (hsub j hj).1)
    rw [List.length_cons,hl] at this
    exact this
end
def Undo (w:World)(O:Nat → Prop)(t a:Nat)(v:Value)(x:Nat × Option (List UInt8)):Prop :=
  ∃ bo bw bt bi:Nat,v=.func (.func 73) #[] #[.pointer (some ⟨bo,0,none⟩),.pointer (some ⟨bw,0,none⟩),.pointer (some ⟨bt,0,none⟩),.pointer (some ⟨bi,0,none⟩)] ∧ O bo ∧ O bw ∧ O bt ∧ O bi ∧
    Is w bo 4 #[.bool x.2.isSome] ∧ Is w bt 36 #[.pointer (some ⟨t,0,none⟩)] ∧ Is w bi 3 #[.int .i64 (x.1:Int)] ∧
    ((x.2=none ∧ Is w bw 28 #[.slice none 0 0]) ∨ ∃ l g c,x.2=some l ∧ l.length=512 ∧ Is w bw 28 #[.slice (some g) 512 c] ∧ Hb w O a g l)
theorem Undo.agree {w w2:World}{O:Nat → Prop}{t a:Nat}{v:Value}{x:Nat × Option (List UInt8)}(h:Undo w O t a v x)(e:Agree O w w2):Undo w2 O t a v x:=by
  obtain ⟨bo,bw,bt,bi,hv,o1,o2,o3,o4,h1,h2,h3,h4⟩:=h
  refine ⟨bo,bw,bt,bi,hv,o1,o2,o3,o4,(e bo o1).trans h1,(e bt o3).trans h2,(e bi o4).trans h3,?_⟩
  rcases h4 with ⟨h5,h6⟩ | ⟨l,g,c,h5,h6,h7,h8⟩
  · exact .inl ⟨h5,(e bw o2).trans h6⟩
  · exact .inr ⟨l,g,c,h5,h6,(e bw o2).trans h7,h8.agree e⟩
theorem Undo.more {w:World}{O Q:Nat → Prop}{t a:Nat}{v:Value}{x:Nat × Option (List UInt8)}(h:Undo w O t a v x)(hs:∀ k,O k → Q k):Undo w Q t a v x:=by
  obtain ⟨bo,bw,bt,bi,hv,o1,o2,o3,o4,h1,h2,h3,h4⟩:=h
  refine ⟨bo,bw,bt,bi,hv,hs _ o1,hs _ o2,hs _ o3,hs _ o4,h1,h2,h3,?_⟩
  rcases h4 with h4 | ⟨l,g,c,h5,h6,h7,h8⟩
  · exact .inl h4
  · exact .inr ⟨l,g,c,h5,h6,h7,h8.more hs⟩
def Undos (w:World)(O:Nat → Prop)(t a:Nat)(ucs:List Value)(H:List (Nat × Option (List UInt8))):Prop:=ucs.length=H.length ∧ ∀ j (h:j < H.length),∃ v,ucs[j]? = some v ∧ Undo w O t a v H[j]
structure TxnAt (c:Cx)(w:World)(O:Nat → Prop)(T:Tn):Prop where
  up:c.D.down=false
  len:c.D.lasts.length=c.N
  lt:∀ k,O k → k < w.heap.size
  disk:∃ F:Nat → Prop,(∀ k,F k → O k ∧ Tk w k diskF) ∧ ∀ w2,Agree F w w2 → DiskAt w2 c.base c.a c.d c.D
  own:O c.t
  ownb:O c.b
  his:∀ x ∈ T.H,98 ≤ x.1 ∧ x.1 < c.N
  ex:∃ (Dm:DataW Value) (U:Option Addr) (uc:Nat) (ucs:List Value),Is w c.t 80 #[.pointer (some ⟨c.d,0,none⟩),.map (some c.b),.slice U T.H.length uc,.bool false] ∧
    MapIn w O c.a c.b c.N T.P Dm ∧ Own w 0 1 1 U T.H.length uc ucs ∧ (∀ g,Of U g → O g) ∧ Undos w O c.t c.a ucs T.H
section
variable {c:Cx}{w w2:World}{O Q:Nat → Prop}{T:Tn}
theorem TxnAt.agree (h:TxnAt c w O T)(e:Agree O w w2)(hs:w.heap.size ≤ w2.heap.size):TxnAt c w2 O T:=by
  obtain ⟨F,hF,hD⟩:=h.disk
  obtain ⟨Dm,U,uc,ucs,h1,h2,h3,h4,h5,h6⟩:=h.ex
  exact ⟨h.up,h.len,fun k hk => Nat.lt_of_lt_of_le (h.lt k hk) hs,⟨F,fun k hk => ⟨(hF k hk).1,(hF k hk).2.same (e k (hF k hk).1)⟩,fun w3 h3 => hD w3 ((e.mono (fun k hk => (hF k hk).1)).trans h3)⟩,h.own,h.ownb,h.his,
    Dm,U,uc,ucs,(e _ h.own).trans h1,h2.agree h.ownb e,h3.kept (fun g hg => e g (h4 g hg)),h4,h5,fun j hj => by obtain ⟨v,q1,q2⟩:=h6 j hj; exact ⟨v,q1,q2.agree e⟩⟩
theorem TxnAt.below {B:Nat}(h:TxnAt c w O T)(hb:Below B w w2)(hB:∀ k,O k → k < B):TxnAt c w2 O T:=h.agree (fun k hk => hb.block k (hB k hk)) hb.size
theorem TxnAt.later (h:TxnAt c w O T)(hb:Below w.heap.size w w2):TxnAt c w2 O T:=h.below hb h.lt
theorem TxnAt.keeps {S:Nat → Prop}(h:TxnAt c w O T)(k:Keeps S w w2)(hS:∀ i,S i → ¬ O i):TxnAt c w2 O T:=h.agree (fun i hi => k.block i (h.lt i hi) (fun s => hS i s hi)) k.size
theorem TxnAt.keep1 {g:Nat}(h:TxnAt c w O T)(k:Keeps (·=g) w w2)(hn:¬ O g):TxnAt c w2 O T:=h.keeps k (fun i e o => hn (e ▸ o))
theorem TxnAt.set (h:TxnAt c w O T){g:Nat}(hn:¬ O g)(k:Nat)(v:Value):TxnAt c (w.setCell ⟨g,k,none⟩ v) O T:=h.keep1 (keeps_set w g k v) hn
theorem TxnAt.diskAt (h:TxnAt c w O T):DiskAt w c.base c.a c.d c.D:=by
  obtain ⟨F,_,hD⟩:=h.disk
  exact hD w (fun k _ => rfl)
theorem TxnAt.out {g:Nat}(h:TxnAt c w O T)(hg:w.heap.size ≤ g):¬ O g:=fun ho => by have:=h.lt g ho; omega
theorem TxnAt.view_len (h:TxnAt c w O T){i:Nat}(hi:i < c.N):(T.view c.D i).length=512:=by
  obtain ⟨Dm,U,uc,ucs,h1,h2,h3,h4,h5⟩:=h.ex
  unfold Tn.view
  cases hP:T.P i with
  | none => exact Dk.read_length h.diskAt.1 (by rw [h.len]; exact hi)
  | some l => exact (h2.yes i l hP).2.1
end
end Go.Proofs.YthkijogloebdoaaGreatDoor
end
