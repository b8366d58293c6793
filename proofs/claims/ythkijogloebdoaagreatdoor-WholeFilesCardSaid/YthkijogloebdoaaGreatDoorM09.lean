/-
  WholeFiles, the texts Fc Ip BtP BtQ Fb BtL ScopeIn Fi Qr: lemmas for the proof that three files on one disk are plain rows of bytes. No conditions.
-/
import Derived.Test.YthkijogloebdoaaGreatDoorM08
import Derived.Test.YthkijogloebdoaaGreatDoorM01
import Derived.Test.YthkijogloebdoaaGreatDoorM07
import Derived.WalkKit
import Derived.Test.YthkijogloebdoaaGreatDoorProg
import Derived.Outline
import Derived.ControlIn
import Derived.WalkMore
import Derived.RangeFuncNested
import Derived.WideLaws
import Derived.RangeFuncBound
import Derived.RangeFuncCalls
import Derived.RangeFuncLeaves
import Derived.Shelf.Abstract
import Derived.Shelf.RegionOpen
import Derived.OwnWalkIn
import Derived.TacticsInMore
import Derived.LoopNIn
import Derived.LoopIn
import Derived.BigQuiet
set_option linter.unusedVariables false
set_option linter.unusedSimpArgs false
section
namespace Go.Proofs.YthkijogloebdoaaGreatDoor
open Go.RowKit Go.Maps
structure Puts (N:Nat)(P:Nat → Option (List UInt8))(ws:List (Nat × List UInt8)):Prop where
  rise:Rise N ws
  all:∀ x ∈ ws,P x.1=some x.2
  each:∀ j l,P j=some l → (j,l) ∈ ws
  len:∀ x ∈ ws,x.2.length=512
theorem MapIn.sorted {w:World}{O:Nat → Prop}{a b N:Nat}{P:Nat → Option (List UInt8)}{D:DataW Value}(h:MapIn w O a b N P D)(ss:List Int)(hp:ss.Perm (intKeys D))(hs:ss.Pairwise (· ≤ ·))(hn:Maps.size D ≤ 96) :
    ∃ ws,ss=ws.map (fun x => (x.1:Int)) ∧ Puts N P ws ∧ ws.length=Maps.size D:=by
  obtain ⟨k1,k2,k3⟩:=mem_intKeys h.own
  have hnd:ss.Nodup:=hp.nodup_iff.2 k1
  have hlt:ss.Pairwise (· < ·):=by
    have:=hs.and hnd
    exact this.imp (fun ⟨h1,h2⟩ => by omega)
  have hin:∀ x ∈ ss,∃ i:Nat,x=(i:Int) ∧ 98 ≤ i ∧ i < N ∧ (P i).isSome=true:=fun x hx => h.keys x ((k2 x).1 (hp.mem_iff.1 hx))
  have hlen:ss.length=Maps.size D:=hp.length_eq.trans k3
  have hsz:=h.own.size_le
  have hback:ss=(ss.map fun x => (x.toNat,(P x.toNat).getD [])).map (fun x => (x.1:Int)):=by
    rw [List.map_map]
    conv => lhs; rw [← List.map_id ss]
    refine List.map_congr_left fun x hx => ?_
    obtain ⟨i,rfl,_⟩:=hin x hx
    simp
  refine ⟨ss.map fun x => (x.toNat,(P x.toNat).getD []),hback,⟨⟨by rw [List.length_map]; omega,fun k hk => ?_,fun k hk => ?_⟩,fun x hx => ?_,fun j l hj => ?_,fun x hx => ?_⟩,by rw [List.length_map]; exact hlen⟩
  · rw [List.length_map] at hk
    obtain ⟨i,e,q1,q2,_⟩:=hin _ (List.getElem_mem hk)
    rw [List.getElem_map]
    show 98 ≤ ss[k].toNat ∧ ss[k].toNat < N
    rw [e]; exact ⟨by simpa using q1,by simpa using q2⟩
  · rw [List.length_map] at hk
    obtain ⟨i,e,_⟩:=hin _ (List.getElem_mem (show k < ss.length by omega))
    obtain ⟨j,e2,_⟩:=hin _ (List.getElem_mem hk)
    have:=List.pairwise_iff_getElem.1 hlt k (k + 1) (by omega) hk (by omega)
    rw [List.getElem_map,List.getElem_map]
    show ss[k].toNat < ss[k + 1].toNat
    omega
  · obtain ⟨y,hy,rfl⟩:=List.mem_map.1 hx
    obtain ⟨i,rfl,_,_,q⟩:=hin y hy
    show P (i:Int).toNat=some ((P (i:Int).toNat).getD [])
    rw [Int.toNat_natCast]
    cases hP:P i with
    | none => rw [hP] at q; cases q
    | some l => rfl
  · obtain ⟨q1,q2,_⟩:=h.yes j l hj
    refine List.mem_map.2 ⟨(j:Int),hp.mem_iff.2 ((k2 _).2 q1),?_⟩
    rw [Int.toNat_natCast,hj]
    rfl
  · obtain ⟨y,hy,rfl⟩:=List.mem_map.1 hx
    obtain ⟨i,rfl,_,_,q⟩:=hin y hy
    show ((P (i:Int).toNat).getD []).length=512
    rw [Int.toNat_natCast]
    cases hP:P i with
    | none => rw [hP] at q; cases q
    | some l => exact (h.yes i l hP).2.1
theorem KT.to_type {w w2:World}{t B base:Nat}{s:Option Nat}{Ts:List TypeId} {τ:TypeId}{cs:Array Value}(h:KT (some t) B Ts w w2)(hI:Is w t τ cs)(hb:base ≤ B):KT s base (τ :: Ts) w w2 :=
  ⟨h.os,h.tape,h.output,h.size,fun k hk hs => h.block k hk (by
    rcases hs with hs | ⟨_,hs⟩
    · exact .inl (by omega)
    · by_cases e:k=t
      · subst e; exact absurd ⟨_,_,_,hI,by simp⟩ hs
      · exact .inr ⟨fun e' => e (by injection e'),fun ⟨cs',u,f,q1,q2⟩ => hs ⟨cs',u,f,q1,List.mem_cons_of_mem _ q2⟩⟩)⟩
theorem DiskAt.ktE {w w2:World}{base base2 a d t:Nat}{D:Dk}{cs:Array Value}(h:DiskAt w base a d D)(hI:Is w t 80 cs)(k:KT (some t) base2 [] w w2)(hb:base ≤ base2):DiskAt w2 base a d D :=
  h.kt (k.base_le hb) (by simp) (by simp) (by simp) (by simp) (by simp) (fun b e ⟨cs',u,f,q1,q2⟩ => by
    injection e with e
    subst e
    rw [show w.heap[t]? = _ from hI] at q1
    injection q1 with q1
    injection q1 with _ q1
    subst q1
    simp at q2)
def overCs (d:Nat):Array Value := #[.pointer (some ⟨d,0,none⟩),.map none,.slice none 0 0,.bool true]
set_option maxRecDepth 100000 in
theorem end_d (t d b un uc B:Nat)(U:Option Addr)(u:FrameMode)(w:World)(hB:B ≤ t)(hI:Is w t 80 #[.pointer (some ⟨d,0,none⟩),.map (some b),.slice U un uc,.bool false]) :
    CallsD Tryz.prog 44 #[.pointer (some ⟨t,0,none⟩)] u w fun e u' w' => u'=u ∧ e=.returned (.tuple #[]) ∧ Is w' t 80 (overCs d) ∧ KT (some t) B [] w w':=by
  have c1:w.cell? ⟨t,1,none⟩=some (.map (some b)):=hI.cell 1
  have c2:w.cell? ⟨t,2,none⟩=some (.slice U un uc):=hI.cell 2
  have c3:w.cell? ⟨t,3,none⟩=some (.bool false):=hI.cell 3
  have f1:=hI.free 1
  have f2:=hI.free 2
  have f3:=hI.free 3
  have HI:=Lib.hid hI
  clear hI
  go_enter_d Tryz.func44,Tryz.ntmps44
  go_wp2_with fail
  go_end0
  have h1:=HI.out.put 1 (.map none)
  have h2:=h1.put 2 (.slice none 0 0)
  have h3:=h2.put 3 (.bool true)
  exact ⟨rfl,h3,((KT.setCell (a:=some t) (i:=1) (Ts := []) HI.out hB (.inl rfl) (.map none)).trans (KT.setCell (a:=some t) (i:=2) h1 hB (.inl rfl) (.slice none 0 0))).trans (KT.setCell (a:=some t) (i:=3) h2 hB (.inl rfl) (.bool true))⟩
def csteps (ws:List (Nat × List UInt8)):List Stp:=if ws.length=0 then [] else Tx.whole (Hd.made (ws.map (·.1)) (ws.map (·.2))) ws
theorem Buf.up {w:World}{base:Nat}{a:Option Nat}{A:Option Addr}{l:List UInt8}(h:Buf w 0 a A l):Buf w base a A l:=by
  rcases h with h | ⟨g,off,cs,t,f,rfl,hg,hs,hc⟩
  · exact .inl h
  · refine .inr ⟨g,off,cs,t,f,rfl,hg,.inr ?_,hc⟩
    rcases hs with hs | hs
    · omega
    · exact hs
set_option maxRecDepth 100000 in
set_option maxHeartbeats 3200000 in
theorem tcommit_any (base a d t b N:Nat)(D:Dk)(w:World)(O:Nat → Prop)(T:Tn)(h:TxnAt ⟨base,a,d,t,b,N,D⟩ w O T)(hl:98 ≤ N)(hbB:base ≤ t)(S:List Nat)(hS:T.Cov S)(h96:S.length ≤ 96)
    (hw:WidthsAt w)(hh:HalfAt w)(hn5:D.n ≤ 500000) :
    Calls Tryz.prog 21 #[.pointer (some ⟨t,0,none⟩)] w fun e w' => ∃ ws,Puts N T.P ws ∧ e=.returned (.int .i64 (D.does (csteps ws)).2) ∧ DiskAt w' base a d (D.does (csteps ws)).1 ∧ KT (some a) base (80 :: diskT) w w':=by
  have hmf:∀ (fn:Fn) (first cap:Array Value) (w:World),(Instr.makeFunc fn first cap).run Tryz.prog w=.ok (.func fn first cap) w:=fun _ _ _ _ => rfl
  have hD:=h.diskAt
  have hdn:=h.up
  have hN:=h.len
  have hOlt:=h.lt
  dsimp only at hD hdn hN
  obtain ⟨_,_,hisA⟩:=hD.a_ne
  have HT:=Lib.hid h
  obtain ⟨Dm,U,uc,ucs,hI,hM,hO,ho,hu⟩:=h.ex
  dsimp only at hI hM hO ho hu
  obtain ⟨un,hun⟩:∃ un,T.H.length=un:=⟨_,rfl⟩
  rw [hun] at hI hO
  have hn:Maps.size Dm ≤ 96:=Nat.le_trans (hM.few hS).1 h96
  have HOLT:=Lib.hid hOlt
  have hbw:base ≤ w.heap.size:=by have:=hI.lt; omega
  have c0:w.cell? ⟨t,0,none⟩=some (.pointer (some ⟨d,0,none⟩)):=hI.cell 0
  have c1:w.cell? ⟨t,1,none⟩=some (.map (some b)):=hI.cell 1
  have c3:w.cell? ⟨t,3,none⟩=some (.bool false):=hI.cell 3
  have hlen:=fun ty => (hM.own.len Tryz.underlying45 ty)
  have hsz:=hn
  have HI:=Lib.hid hI
  have HM:=Lib.hid hM
  have HD:=Lib.hid hD
  have HDN:=Lib.hid hdn
  have HNN:=Lib.hid hN
  have HW:=Lib.hid hw
  have HH:=Lib.hid hh
  have HIA:=Lib.hid hisA
  have hlN:N ≤ 16384:=by have:=hD.1.2.1; omega
  clear hI hM hO ho hu hD hdn hN hw hh hisA h hun hOlt hS
  obtain ⟨m,hm⟩:∃ m,Maps.size Dm=m:=⟨_,rfl⟩
  rw [hm] at hlen hsz hn
  have HMM:=Lib.hid hm
  clear hm
  by_cases h0:m=0
  · have hm0:((m:Int) == 0)=true:=by rw [beq_iff_eq]; omega
    go_enter_defers Tryz.func21,Tryz.ntmps21
    go_wp2_with fail
    refine leaves_cons (f:=44) (args := #[.pointer (some ⟨t,0,none⟩)]) (by simp) (by simp [go_sem]) ?_
    refine (end_d t d b un uc base U .returning w hbB HI.out).mono ?_
    rintro e u' w'' ⟨rfl,rfl,hI2,hk⟩
    obtain ⟨k1,k2,k3⟩:=mem_intKeys HM.out.own
    have hnil:intKeys Dm=[]:=List.eq_nil_of_length_eq_zero (by rw [k3,HMM.out]; exact h0)
    obtain ⟨ws,_,hpu,hwl⟩:=HM.out.sorted [] (by rw [hnil]) List.Pairwise.nil (by rw [HMM.out]; exact hn)
    have hc:csteps ws=[]:=by unfold csteps; rw [if_pos (by rw [hwl,HMM.out]; exact h0)]
    refine ⟨_,results_tmp rfl _ _ _,ws,hpu,by rw [hc]; rfl,by rw [hc]; exact HD.out.ktE HI.out hk (Nat.le_refl _),(hk.to_type (s:=some a) HI.out (Nat.le_refl _)).mono (fun τ hτ => by simp at hτ; subst hτ; simp)⟩
  · have hm0 : ((m : Int) == 0)=false:=by rw [beq_eq_false_iff_ne]; omega
    go_enter_defers Tryz.func21,Tryz.ntmps21
    go_wp2_with (first
      | (go_at_call 12
         refine (written_any t b _ Dm RV w HM.out.own (by rw [HMM.out]; omega) c1 c3).mono ?_
         rintro e w1 ⟨⟨NA,nc,ss,rfl,hperm,hsort,hNu⟩,hb1⟩
         have HPM:=Lib.hid hperm
         have HSO:=Lib.hid hsort
         have HNu:=Lib.hid hNu
         have HB1:=Lib.hid hb1
         clear hperm hsort hNu hb1))
    obtain ⟨ws,hss,hpu,hwl⟩:=HM.out.sorted ss HPM.out HSO.out (by rw [HMM.out]; exact hn)
    rw [HMM.out] at hwl
    have hsl:ss.length=ws.length:=by rw [hss,List.length_map]
    have HNi:=Lib.hid (show Nums w1 w.heap.size NA nc (ints (ws.map (·.1))) by
      have e:ss=ints (ws.map (·.1)):=by rw [hss]; unfold ints; rw [List.map_map]; rfl
      rw [← e]; exact HNu.out)
    have HPU:=Lib.hid hpu
    have hw1:1 ≤ ws.length:=by omega
    have hwf:ws.length ≤ 96:=hpu.rise.few
    rw [hsl]
    have hs1:=HB1.out.size
    have HI1:=Lib.hid (HI.out.below HB1.out HI.out.lt)
    have HD1:=Lib.hid (HD.out.later HB1.out)
    have HA1:=Lib.hid (show ∃ cur,Is w1 a 72 cur by obtain ⟨cur,hi⟩:=HIA.out; exact ⟨cur,hi.below HB1.out hi.lt⟩)
    clear hss hsl hpu HNu HPM HSO hlen hwl
    go_loopw [3,20] (fun v u wr => ∃ (k:Nat) (A:Option Addr) (c:Nat),k ≤ ws.length ∧ u=.int .i64 k ∧ v=.slice A k c ∧ BlkRow wr base a w.heap.size A c (ws.take k) ∧ KT none w.heap.size [116] w1 wr) (fun v u _ => ws.length - (intOf u).toNat)
    case atStart => exact ⟨0,none,0,Nat.zero_le _,rfl,rfl,BlkRow.nil _ _ _ _,KT.refl _ _ _ _⟩
    case round =>
      obtain ⟨k,A,c,hk,rfl,rfl,hBl,hKT⟩:=hrel
      have HBl:=Lib.hid hBl
      have HKT:=Lib.hid hKT
      have hsr:=hKT.size
      have HIr:=Lib.hid (HI1.out.kt0 hKT (by simp))
      have ct0:wr.cell? ⟨t,0,none⟩=some (.pointer (some ⟨d,0,none⟩)):=HIr.out.cell 0
      have ct1:wr.cell? ⟨t,1,none⟩=some (.map (some b)):=HIr.out.cell 1
      clear hBl hKT
      by_cases hlt:k < ws.length
      · have hk0:(k:Int) < (ws.length:Int):=by omega
        have hk1:(0:Int) ≤ (k:Int):=by omega
        obtain ⟨gn,rfl,cn⟩:=nums_at (HNi.out.kt HKT.out (by simp)) (k:=k) (by rw [List.length_map]; exact hlt)
        have hnk:(ws.map (·.1))[k]'(by rw [List.length_map]; exact hlt)=ws[k].1:=by simp
        rw [hnk] at cn
        have hPk:=HPU.out.all _ (List.getElem_mem hlt)
        have h5:=HPU.out.len _ (List.getElem_mem hlt)
        have hlow:=HPU.out.rise.low k hlt
        have hts:ws.take (k + 1)=ws.take k ++ [(ws[k].1,ws[k].2)]:=take_snoc ws k hlt
        have HK1:=Lib.hid (show (ws.take k).length=k by rw [List.length_take]; omega)
        obtain ⟨x,hx⟩:∃ x,ws[k].1=x:=⟨_,rfl⟩
        obtain ⟨bb,hbb⟩:∃ bb,ws[k].2=bb:=⟨_,rfl⟩
        rw [hx] at cn hts hPk hlow
        rw [hbb] at hts hPk h5
        have HMr:=(HM.out.agree (w2:=wr) HT.out.ownb (fun k hk => ((HKT.out.block k (by have:=HOLT.out k hk; omega) (.inl (HOLT.out k hk))).trans (HB1.out.block k (HOLT.out k hk)))))
        obtain ⟨v,ps,hrun,hv⟩:=(HMr.look x (by omega) wr rfl).2
        have hval:∃ g c',v=.slice (some g) 512 c' ∧ Buf wr 0 (some a) (some g) bb:=by
          rcases HMr.val hv with ⟨e,_⟩ | ⟨l',g,c',e,_,_,hv',hbuf⟩
          · rw [hPk] at e; cases e
          · rw [hPk] at e
            injection e with e
            subst e
            obtain ⟨gb,_,_,hbuf⟩:=hbuf
            exact ⟨g,c',hv',hbuf⟩
        obtain ⟨g,c',rfl,hbuf⟩:=hval
        have HBUF:=Lib.hid (show Buf wr base (some a) (some g) bb from hbuf.up)
        have HTS:=Lib.hid hts
        have H5:=Lib.hid h5
        clear hnk hPk h5 hts hx hbb HMr hv hbuf
        go_wp2_with (first
          | (at_builtin
             refine wpList_append_blk rfl _ _ (by rfl) base a w.heap.size A c (ws.take k) (by rw [HK1.out]; rfl) (HBl.out.later (below_new _ _)) wr.heap.size 1 x (some g) c' bb (by rfl) (by have:=(Is.new wr 116 #[.int .i64 (x:Int),.slice (some g) 512 c']).cell 0; exact this) (by have:=(Is.new wr 116 #[.int .i64 (x:Int),.slice (some g) 512 c']).cell 1; exact this) H5.out (HBUF.out.later (below_new _ _)) (by rw [HK1.out]; omega) (by rw [World.size_alloc]; omega) (by omega) ?_
             intro A3 c3 w6 hBl6 hk6
             rw [← HTS.out] at hBl6 ⊢
             have HBl6:=Lib.hid hBl6
             have hl9:(ws.take (k + 1)).length=k + 1:=by rw [List.length_take]; omega
             rw [hl9]
             have HK6:=Lib.hid (show KT none w.heap.size [116] wr w6 from (KT.of_below (below_new wr (.cells #[.int .i64 (x:Int),.slice (some g) 512 c'] 116)) (Nat.le_refl _)).trans hk6)
             clear hBl6 hl9 hk6))
        go_roundw
        case rel => exact ⟨k + 1,A3,c3,by omega,by go_num,rfl,HBl6.out,HKT.out.trans HK6.out⟩
        case measure => simp [intOf]; omega
      · obtain rfl : ws.length=k:=by omega
        have hall:ws.take ws.length=ws:=List.take_length
        rw [hall] at HBl
        have HBw:=Lib.hid (HB1.out.trans (HKT.out.below hs1))
        have HDr:=Lib.hid (show DiskAt wr base a d D from HD1.out.kt (HKT.out.base_le (by omega)) (by simp) (by simp) (by simp) (by simp) (by simp) (fun b e => by cases e))
        have HAr:=Lib.hid (show ∃ cur,Is wr a 72 cur by obtain ⟨_,_,cur,hi⟩:=HDr.out.a_ne; exact ⟨cur,hi⟩)
        have hcs:csteps ws=Tx.whole (Hd.made (ws.map (·.1)) (ws.map (·.2))) ws:=by unfold csteps; rw [if_neg (by omega)]
        obtain ⟨CS,hCS⟩:∃ CS,csteps ws=CS:=⟨_,rfl⟩
        rw [hCS] at hcs
        have HCS:=Lib.hid hCS
        have HCS2:=Lib.hid hcs
        clear hall hCS hcs
        go_wp2_with (go_at_call 45
                     with_reducible refine (wcommit_any base a d w.heap.size D A c ws wr HDr.out HDN.out HBl.out (by rw [HNN.out]; exact HPU.out.rise) hw1 (by rw [HNN.out]; exact hl) HPU.out.len (HW.out.below HBw.out HW.out.lt) (HH.out.below HBw.out HH.out.lt) (by omega) hn5).mono ?_
                     rw [← HCS2.out]
                     rintro e w9 ⟨rfl,hD9,hk9⟩
                     have HD9:=Lib.hid hD9
                     have HK9:=Lib.hid hk9
                     clear hD9 hk9)
        have hI9:=HIr.out.kt HK9.out (.inr ⟨ne_a HAr.out (by decide) ⟨_,HIr.out⟩,by simp [diskT]⟩)
        refine leaves_cons (f:=44) (args := #[.pointer (some ⟨t,0,none⟩)]) (by simp) (by simp [go_sem]) ?_
        refine (end_d t d b un uc base U .returning w9 hbB hI9).mono ?_
        rintro e u' w'' ⟨rfl,rfl,hI2,hk⟩
        refine ⟨_,results_tmp rfl _ _ _,ws,HPU.out,by rw [HCS.out]; rfl,by rw [HCS.out]; exact HD9.out.ktE hI9 hk (Nat.le_refl _),?_⟩
        exact ((KT.of_below HBw.out (Nat.le_refl _)).trans (HK9.out.mono (fun τ hτ => List.mem_cons_of_mem _ hτ))).trans ((hk.to_type (s:=some a) hI9 (Nat.le_refl _)).mono (fun τ hτ => by simp at hτ; subst hτ; simp))
end Go.Proofs.YthkijogloebdoaaGreatDoor
end
section
namespace Go.Proofs.YthkijogloebdoaaGreatDoor
open Go.RowKit Rec
def sl (l:List UInt8)(a k:Nat):List UInt8:=(l.drop a).take k
theorem sl_length (l:List UInt8)(a k:Nat)(h:a + k ≤ l.length):(sl l a k).length=k:=by unfold sl; rw [List.length_take,List.length_drop]; omega
theorem sl_at (l:List UInt8)(a k i:Nat)(hi:i < k):(sl l a k)[i]? = l[a + i]?:=by unfold sl; rw [List.getElem?_take_of_lt hi,List.getElem?_drop]
theorem spliced_at (l:List UInt8)(a:Nat)(m:List UInt8)(h:a + m.length ≤ l.length)(i:Nat):(spliced l a m)[i]? = if a ≤ i ∧ i < a + m.length then m[i - a]? else l[i]?:=by
  unfold spliced
  by_cases h1:i < a
  · rw [if_neg (by omega),List.append_assoc,List.getElem?_append_left (by rw [List.length_take]; omega),List.getElem?_take_of_lt h1]
  · by_cases h2:i < a + m.length
    · rw [if_pos ⟨by omega,h2⟩,List.append_assoc,List.getElem?_append_right (by rw [List.length_take]; omega),List.length_take,Nat.min_eq_left (by omega),List.getElem?_append_left (by omega)]
    · rw [if_neg (by omega),List.getElem?_append_right (by rw [List.length_append,List.length_take]; omega),List.length_append,List.length_take,Nat.min_eq_left (by omega),List.getElem?_drop]
      congr 1
      omega
theorem sl_same (l:List UInt8)(a:Nat)(m:List UInt8)(h:a + m.length ≤ l.length):sl (spliced l a m) a m.length=m:=by
  apply List.ext_getElem?
  intro i
  by_cases hi:i < m.length
  · rw [sl_at _ _ _ _ hi,spliced_at _ _ _ h,if_pos ⟨by omega,by omega⟩]
    congr 1
    omega
  · rw [List.getElem?_eq_none (by rw [sl_length _ _ _ (by rw [spliced_length _ _ _ h]; exact h)]; omega),List.getElem?_eq_none (by omega)]
theorem sl_other (l:List UInt8)(a:Nat)(m:List UInt8)(h:a + m.length ≤ l.length)(b k:Nat)(hd:b + k ≤ a ∨ a + m.length ≤ b):sl (spliced l a m) b k=sl l b k:=by
  apply List.ext_getElem?
  intro i
  by_cases hi:i < k
  · rw [sl_at _ _ _ _ hi,sl_at _ _ _ _ hi,spliced_at _ _ _ h,if_neg (by omega)]
  · rw [List.getElem?_eq_none (by unfold sl; rw [List.length_take]; omega),List.getElem?_eq_none (by unfold sl; rw [List.length_take]; omega)]
theorem sl_sl (l:List UInt8)(a k b j:Nat)(h:b + j ≤ k):sl (sl l a k) b j=sl l (a + b) j:=by
  apply List.ext_getElem?
  intro i
  by_cases hi:i < j
  · rw [sl_at _ _ _ _ hi,sl_at _ _ _ _ hi,sl_at _ _ _ _ (by omega),Nat.add_assoc]
  · rw [List.getElem?_eq_none (by unfold sl; rw [List.length_take]; omega),List.getElem?_eq_none (by unfold sl; rw [List.length_take]; omega)]
def nm (l:List UInt8)(a k:Nat):Nat:=le (sl l a k)
theorem nm_lt (l:List UInt8)(a k:Nat):nm l a k < 256 ^ k:=by
  have h:=le_lt (sl l a k)
  have h2:(sl l a k).length ≤ k:=by unfold sl; exact List.length_take_le _ _
  exact Nat.lt_of_lt_of_le h (Nat.pow_le_pow_right (by decide) h2)
theorem nm_same (l:List UInt8)(a v k:Nat)(h:a + k ≤ l.length)(hv:v < 256 ^ k):nm (spliced l a (les v k)) a k=v:=by
  unfold nm
  have:=sl_same l a (les v k) (by rw [les_length]; exact h)
  rw [les_length] at this
  rw [this,le_les,Nat.mod_eq_of_lt hv]
theorem nm_other (l:List UInt8)(a v k b j:Nat)(h:a + k ≤ l.length)(hd:b + j ≤ a ∨ a + k ≤ b):nm (spliced l a (les v k)) b j=nm l b j:=by
  unfold nm
  rw [sl_other l a (les v k) (by rw [les_length]; exact h) b j (by rw [les_length]; exact hd)]
theorem getV_nm (l:List UInt8)(a k:Nat)(hk:isW (k:Int)=true)(h:a + k ≤ l.length):getV l (a:Int) (k:Int)=nm l a k ∧ getE l.length (a:Int) (k:Int)=0:=by
  have hl:lies l.length (a:Int) (k:Int)=true:=by unfold lies; rw [decide_eq_true_eq]; omega
  unfold getV getE
  rw [hk,hl]
  constructor
  · simp only [Bool.true_eq_false,if_false]
    unfold nm sl Rec.part
    rw [Int.toNat_natCast,Int.toNat_natCast]
  · simp only [Bool.true_eq_false,if_false]
structure Ino where
  kind:Nat
  links:Nat
  size:Nat
  num:Nat → Nat
def Ino.C (x:Ino):Array Value := #[.int .i64 (x.kind:Int),.int .i64 (x.links:Int),.int .i64 (x.size:Int),.int .i64 (x.num 0:Int),.int .i64 (x.num 1:Int),.int .i64 (x.num 2:Int),.int .i64 (x.num 3:Int),.int .i64 (x.num 4:Int),.int .i64 (x.num 5:Int),.int .i64 (x.num 6:Int),.int .i64 (x.num 7:Int),.int .i64 (x.num 8:Int),.int .i64 (x.num 9:Int),.int .i64 (x.num 10:Int),.int .i64 (x.num 11:Int)]
structure Ino.Ok (x:Ino):Prop where
  nums:∀ k,k < 12 → x.num k < 4294967296
  size:x.size ≤ 8459264
  links:x.links ≤ 1000
  sort:(x.kind=0 ∧ x.links=0 ∧ x.size=0 ∧ ∀ k,k < 12 → x.num k=0) ∨ x.kind=1 ∨ (x.kind=2 ∧ 2 ≤ x.links ∧ x.size=0)
structure RecAt (r:List UInt8)(x:Ino):Prop where
  len:r.length=64
  kind:nm r 0 1=x.kind
  links:nm r 2 2=x.links
  size:nm r 4 4=x.size
  num:∀ k,k < 12 → nm r (8 + 4 * k) 4=x.num k
  front:zeros (sl r 1 1)=true
  behind:zeros (sl r 56 8)=true
def encN (x:Ino):Nat → List UInt8
  | 0 => spliced (spliced (spliced (List.replicate 64 0) 0 (les x.kind 1)) 2 (les x.links 2)) 4 (les x.size 4)
  | k + 1 => spliced (encN x k) (8 + 4 * k) (les (x.num k) 4)
theorem encN_len (x:Ino)(k:Nat)(hk:k ≤ 12):(encN x k).length=64:=by
  induction k with
  | zero =>
    unfold encN
    have e0:(List.replicate 64 (0:UInt8)).length=64:=List.length_replicate ..
    have e1:(spliced (List.replicate 64 0) 0 (les x.kind 1)).length=64:=by rw [spliced_length _ _ _ (by rw [les_length,e0]; omega),e0]
    have e2:(spliced (spliced (List.replicate 64 0) 0 (les x.kind 1)) 2 (les x.links 2)).length=64:=by rw [spliced_length _ _ _ (by rw [les_length,e1]; omega),e1]
    rw [spliced_length _ _ _ (by rw [les_length,e2]; omega),e2]
  | succ k ih =>
    unfold encN
    rw [spliced_length _ _ _ (by rw [les_length,ih (by omega)]; omega),ih (by omega)]
theorem encN_rec (x:Ino)(h:x.Ok):RecAt (encN x 12) x:=by
  have e0:(List.replicate 64 (0:UInt8)).length=64:=List.length_replicate ..
  have e1:(spliced (List.replicate 64 0) 0 (les x.kind 1)).length=64:=by rw [spliced_length _ _ _ (by rw [les_length,e0]; omega),e0]
  have e2:(spliced (spliced (List.replicate 64 0) 0 (les x.kind 1)) 2 (les x.links 2)).length=64:=by rw [spliced_length _ _ _ (by rw [les_length,e1]; omega),e1]
  have hk:x.kind < 256:=by have:=h.sort; omega
  have hl:=h.links
  have hs:=h.size
  have hsl:∀ k,k ≤ 12 → ∀ b j,b + j ≤ 8 ∨ 56 ≤ b → sl (encN x k) b j=sl (encN x 0) b j:=by
    intro k hk
    induction k with
    | zero => intros; rfl
    | succ k ih =>
      intro b j hb
      show sl (spliced (encN x k) (8 + 4 * k) (les (x.num k) 4)) b j=_
      rw [sl_other _ _ _ (by rw [les_length,encN_len x k (by omega)]; omega) b j (by rw [les_length]; omega)]
      exact ih (by omega) b j hb
  have hnm:∀ k,k ≤ 12 → ∀ j,j < k → nm (encN x k) (8 + 4 * j) 4=x.num j:=by
    intro k hk
    induction k with
    | zero => intro j hj; omega
    | succ k ih =>
      intro j hj
      show nm (spliced (encN x k) (8 + 4 * k) (les (x.num k) 4)) (8 + 4 * j) 4=_
      by_cases e:j=k
      · subst e
        exact nm_same _ _ _ _ (by rw [encN_len x j (by omega)]; omega) (h.nums j (by omega))
      · rw [nm_other _ _ _ _ _ _ (by rw [encN_len x k (by omega)]; omega) (by omega)]
        exact ih (by omega) j (by omega)
  have hz:∀ b j,b + j ≤ 64 → zeros (sl (List.replicate 64 (0:UInt8)) b j)=true:=by
    intro b j _
    unfold zeros sl
    rw [List.all_eq_true]
    intro y hy
    have:=List.eq_of_mem_replicate (List.mem_of_mem_drop (List.mem_of_mem_take hy))
    rw [this]; rfl
  refine ⟨encN_len x 12 (by omega),?_,?_,?_,fun k hk => hnm 12 (by omega) k hk,?_,?_⟩
  · show nm _ 0 1=_
    unfold nm
    rw [hsl 12 (by omega) 0 1 (by omega)]
    show nm (spliced (spliced (spliced (List.replicate 64 0) 0 (les x.kind 1)) 2 (les x.links 2)) 4 (les x.size 4)) 0 1=_
    rw [nm_other _ _ _ _ _ _ (by omega) (by omega),nm_other _ _ _ _ _ _ (by omega) (by omega),nm_same _ _ _ _ (by omega) (by omega)]
  · unfold nm
    rw [hsl 12 (by omega) 2 2 (by omega)]
    show nm (spliced (spliced (spliced (List.replicate 64 0) 0 (les x.kind 1)) 2 (les x.links 2)) 4 (les x.size 4)) 2 2=_
    rw [nm_other _ _ _ _ _ _ (by omega) (by omega),nm_same _ _ _ _ (by omega) (by omega)]
  · unfold nm
    rw [hsl 12 (by omega) 4 4 (by omega)]
    show nm (spliced (spliced (spliced (List.replicate 64 0) 0 (les x.kind 1)) 2 (les x.links 2)) 4 (les x.size 4)) 4 4=_
    rw [nm_same _ _ _ _ (by omega) (by omega)]
  · rw [hsl 12 (by omega) 1 1 (by omega)]
    unfold encN
    rw [sl_other _ _ _ (by rw [les_length]; omega) 1 1 (by omega),sl_other _ _ _ (by rw [les_length]; omega) 1 1 (by omega),sl_other _ _ _ (by rw [les_length]; omega) 1 1 (by rw [les_length]; omega)]
    exact hz 1 1 (by omega)
  · rw [hsl 12 (by omega) 56 8 (by omega)]
    unfold encN
    rw [sl_other _ _ _ (by rw [les_length]; omega) 56 8 (by rw [les_length]; omega),sl_other _ _ _ (by rw [les_length]; omega) 56 8 (by rw [les_length]; omega),sl_other _ _ _ (by rw [les_length]; omega) 56 8 (by rw [les_length]; omega)]
    exact hz 56 8 (by omega)
end Go.Proofs.YthkijogloebdoaaGreatDoor
end
section
namespace Go.Proofs.YthkijogloebdoaaGreatDoor.Bt
def bit8 (b:UInt8)(k:Nat):Bool:=b.toNat / 2 ^ k % 2 == 1
def bit (l:List UInt8)(i:Nat):Bool:=bit8 (l.getD (i / 8) 0) (i % 8)
def has (l:List UInt8)(i:Int):Bool:=decide (0 ≤ i) && decide (i < 8 * (l.length:Int))
theorem has_iff (l:List UInt8)(i:Int):has l i=true ↔ 0 ≤ i ∧ i < 8 * (l.length:Int):=by simp [has]
def getV (l:List UInt8)(i:Int):Bool:=has l i && bit l i.toNat
def getE (l:List UInt8)(i:Int):Int:=if has l i=true then 0 else 80
def set8 (b:UInt8)(k:Nat)(on:Bool):UInt8:=if bit8 b k=on then b else if on=true then UInt8.ofNat (b.toNat + 2 ^ k) else UInt8.ofNat (b.toNat - 2 ^ k)
def putL (l:List UInt8)(i:Int)(on:Bool):List UInt8:=if has l i=true then l.set (i.toNat / 8) (set8 (l.getD (i.toNat / 8) 0) (i.toNat % 8) on) else l
theorem putL_length (l:List UInt8)(i:Int)(on:Bool):(putL l i on).length=l.length:=by unfold putL; split <;> simp
theorem set8_bit:∀ (b:Fin 256)(k j:Fin 8)(on:Bool),bit8 (set8 (UInt8.ofNat b.val) k.val on) j.val=if j.val=k.val then on else bit8 (UInt8.ofNat b.val) j.val:=by decide +kernel
theorem byte_eta (b:UInt8):b=UInt8.ofNat (⟨b.toNat,b.toNat_lt⟩:Fin 256).val:=by simp
theorem set8_at (b:UInt8)(k j:Nat)(on:Bool)(hk:k < 8)(hj:j < 8):bit8 (set8 b k on) j=if j=k then on else bit8 b j:=by
  have:=set8_bit ⟨b.toNat,b.toNat_lt⟩ ⟨k,hk⟩ ⟨j,hj⟩ on
  rw [← byte_eta] at this
  exact this
theorem put_bit (l:List UInt8)(i j:Nat)(on:Bool)(hi:i < 8 * l.length):bit (putL l i on) j=if j=i then on else bit l j:=by
  unfold putL
  rw [if_pos ((has_iff _ _).2 ⟨by omega,by omega⟩),Int.toNat_natCast]
  unfold bit
  by_cases h8:j / 8=i / 8
  · rw [h8,List.getD_eq_getElem?_getD,List.getElem?_set_self (by omega),Option.getD_some,set8_at _ _ _ _ (by omega) (by omega)]
    by_cases hj:j=i
    · rw [if_pos hj,if_pos (by rw [hj])]
    · rw [if_neg hj,if_neg (by omega)]
  · rw [if_neg (by intro h; exact h8 (by rw [h])),List.getD_eq_getElem?_getD,List.getElem?_set_ne (by omega),← List.getD_eq_getElem?_getD]
def cnt (l:List UInt8)(i:Nat):Nat → Nat
  | 0 => 0
  | k + 1 => cnt l i k + if bit l (i + k)=true then 1 else 0
theorem cnt_on (l:List UInt8)(i k:Nat)(h:∀ j,i ≤ j → j < i + k → bit l j=true):cnt l i k=k:=by
  induction k with
  | zero => rfl
  | succ k ih => unfold cnt; rw [ih (fun j h1 h2 => h j h1 (by omega)),if_pos (h _ (by omega) (by omega))]
def bump:List (Nat × Nat) → List (Nat × Nat)
  | [] => []
  | [(a,n)] => [(a,n + 1)]
  | x :: r => x :: bump r
theorem bump_snoc (p:List (Nat × Nat))(a n:Nat):bump (p ++ [(a,n)])=p ++ [(a,n + 1)]:=by
  induction p with
  | nil => rfl
  | cons x r ih =>
    cases r with
    | nil => rfl
    | cons y r => show x :: bump (y :: r ++ [(a,n)])=_; rw [ih]; rfl
def rows (l:List UInt8):Nat → List (Nat × Nat)
  | 0 => []
  | k + 1 => if bit l k=true then rows l k else if k ≠ 0 ∧ bit l (k - 1)=false then bump (rows l k) else rows l k ++ [(k,1)]
theorem rows_on (l:List UInt8)(k:Nat)(h:bit l k=true):rows l (k + 1)=rows l k:=if_pos h
theorem rows_new (l:List UInt8)(k:Nat)(h:bit l k=false)(h1:k=0 ∨ bit l (k - 1)=true):rows l (k + 1)=rows l k ++ [(k,1)]:=by
  show (if bit l k=true then _ else if k ≠ 0 ∧ bit l (k - 1)=false then _ else _)=_
  rw [if_neg (by rw [h]; simp),if_neg]
  rintro ⟨h2,h3⟩
  rcases h1 with h1 | h1
  · exact h2 h1
  · rw [h1] at h3; cases h3
theorem rows_more (l:List UInt8)(k:Nat)(h:bit l (k + 1)=false)(h1:bit l k=false):rows l (k + 2)=bump (rows l (k + 1)):=by
  show (if bit l (k + 1)=true then _ else if k + 1 ≠ 0 ∧ bit l (k + 1 - 1)=false then _ else _)=_
  rw [if_neg (by rw [h]; simp),if_pos ⟨by omega,h1⟩]
theorem rows_skip (l:List UInt8)(i d:Nat)(h:∀ j,i ≤ j → j < i + d → bit l j=true):rows l (i + d)=rows l i:=by
  induction d with
  | zero => rfl
  | succ d ih => rw [← Nat.add_assoc,rows_on _ _ (h _ (by omega) (by omega)),ih (fun j h1 h2 => h j h1 (by omega))]
theorem rows_row (l:List UInt8)(i d:Nat)(h0:i=0 ∨ bit l (i - 1)=true)(h:∀ j,i ≤ j → j < i + (d + 1) → bit l j=false):rows l (i + (d + 1))=rows l i ++ [(i,d + 1)]:=by
  induction d with
  | zero => exact rows_new l i (h i (by omega) (by omega)) h0
  | succ d ih =>
    have e:=ih (fun j h1 h2 => h j h1 (by omega))
    rw [show i + (d + 1 + 1)=(i + d) + 2 by omega,rows_more l (i + d) (h _ (by omega) (by omega)) (h _ (by omega) (by omega)),show i + d + 1=i + (d + 1) by omega,e,bump_snoc]
def runs (l:List UInt8):List (Nat × Nat):=rows l (8 * l.length)
theorem rows_length (l:List UInt8)(k:Nat):(rows l k).length ≤ k:=by
  induction k with
  | zero => exact Nat.le_refl _
  | succ k ih =>
    have hb:∀ p:List (Nat × Nat),(bump p).length=p.length:=by
      intro p
      induction p with
      | nil => rfl
      | cons x r ih => cases r with
        | nil => rfl
        | cons y r => show (bump (y :: r)).length + 1=_; rw [ih]; rfl
    show (if bit l k=true then rows l k else if k ≠ 0 ∧ bit l (k - 1)=false then bump (rows l k) else rows l k ++ [(k,1)]).length ≤ _
    split
    · omega
    · split
      · rw [hb]; omega
      · simp; omega
end Go.Proofs.YthkijogloebdoaaGreatDoor.Bt
end
section
namespace Go.Proofs.YthkijogloebdoaaGreatDoor.Bt
theorem or_fin:∀ (b:Fin 256)(k:Fin 8),bits .or .u8 (b.val:Int) (n8 (Crc.bit8 k.val))=((set8 (UInt8.ofNat b.val) k.val true).toNat:Int):=by decide +kernel
theorem andNot_fin:∀ (b:Fin 256)(k:Fin 8),bits .andNot .u8 (b.val:Int) (n8 (Crc.bit8 k.val))=((set8 (UInt8.ofNat b.val) k.val false).toNat:Int):=by decide +kernel
theorem or_bit (b:UInt8)(k:Nat)(h:k < 8):bits .or .u8 (n8 b) (n8 (Crc.bit8 k))=n8 (set8 b k true):=by
  have:=or_fin ⟨b.toNat,b.toNat_lt⟩ ⟨k,h⟩
  rw [← byte_eta] at this
  exact this
theorem andNot_bit (b:UInt8)(k:Nat)(h:k < 8):bits .andNot .u8 (n8 b) (n8 (Crc.bit8 k))=n8 (set8 b k false):=by
  have:=andNot_fin ⟨b.toNat,b.toNat_lt⟩ ⟨k,h⟩
  rw [← byte_eta] at this
  exact this
theorem putL_of (l:List UInt8)(i q r:Nat)(on:Bool)(hq:q < l.length)(h1:i / 8=q)(h2:i % 8=r):putL l (i:Int) on=l.set q (set8 l[q] r on):=by
  unfold putL
  rw [if_pos ((has_iff _ _).2 ⟨by omega,by omega⟩),Int.toNat_natCast,h1,h2,List.getD_eq_getElem?_getD,List.getElem?_eq_getElem hq,Option.getD_some]
end Go.Proofs.YthkijogloebdoaaGreatDoor.Bt
end
section
namespace Go.Proofs.YthkijogloebdoaaGreatDoor
open Go.RowKit Bt
theorem has_any (A:Option Addr)(len cap:Nat)(l:List UInt8)(hlen:l.length=len)(i:Int)(w:World)(hm:len ≤ 140737488355328) :
    Calls Tryz.prog 123 #[.slice A len cap,.int .i64 i] w fun e w' => e=.returned (.bool (has l i)) ∧ w=w':=by
  by_cases h0:0 ≤ i
  · by_cases h1:i < 8 * (len:Int)
    · rw [show has l i=true from (has_iff _ _).2 ⟨h0,by rw [hlen]; exact h1⟩]
      clear hlen
      go_enter Tryz.func123,Tryz.ntmps123
      go_wp2_with fail
      go_ret
      exact ⟨rfl,rfl⟩
    · have hb:has l i=false:=by rw [Bool.eq_false_iff]; intro h; have:=(has_iff _ _).1 h; rw [hlen] at this; omega
      rw [hb]
      have h1:8 * (len:Int) ≤ i:=by omega
      clear hlen hb
      go_enter Tryz.func123,Tryz.ntmps123
      go_wp2_with fail
      go_ret
      exact ⟨rfl,rfl⟩
  · have hb:has l i=false:=by rw [Bool.eq_false_iff]; intro h; have:=(has_iff _ _).1 h; omega
    rw [hb]
    have h0:i < 0:=by omega
    clear hlen hb
    go_enter Tryz.func123,Tryz.ntmps123
    go_wp2_with fail
    go_ret
    exact ⟨rfl,rfl⟩
theorem and1_beq (x:Nat)(h:x < 256):(bits .and .u8 (x:Int) 1 == 1)=(x % 2 == 1):=by
  have:=bits_mask .u8 8 (by decide) (fun n h0 h1 => IntWalk.u8_in n (by omega)) 1 (by decide) (x:Int) (by omega) (by omega)
  rw [show ((2:Int) ^ 1 - 1)=1 by decide] at this
  rw [this]
  rw [Bool.eq_iff_iff]
  simp
  omega
theorem n8_shr (b:UInt8)(k:Nat):n8 b / 2 ^ k=((b.toNat / 2 ^ k:Nat):Int):=by unfold n8; simp
theorem on_any (A:Option Addr)(len cap:Nat)(l:List UInt8)(hlen:l.length=len)(i:Nat)(w:World)(hb:Bytes w A l)(hi:i < 8 * len)(hm:len ≤ 140737488355328) :
    Calls Tryz.prog 124 #[.slice A len cap,.int .i64 (i:Int)] w fun e w' => e=.returned (.bool (bit l i)) ∧ w=w':=by
  have hq:i / 8 < l.length:=by omega
  obtain ⟨b,off,rfl,hc⟩:=hb.at_ hq
  have he:bit l i=bit8 l[i / 8] (i % 8):=by unfold bit; rw [List.getD_eq_getElem?_getD,List.getElem?_eq_getElem hq]; rfl
  rw [he]
  generalize l[i / 8]=x at hc
  obtain ⟨q,hqe⟩:∃ q,i / 8=q:=⟨_,rfl⟩
  obtain ⟨r,hre⟩:∃ r,i % 8=r:=⟨_,rfl⟩
  rw [hqe] at hc hq
  rw [hre]
  have hqi:(i:Int) / 8=(q:Int):=by omega
  have hri:(i:Int) % 8=(r:Int):=by omega
  have hq0:(q:Int) < (len:Int):=by omega
  have hr8:(r:Int) < 8:=by omega
  have hs:=n8_shr x r
  have hx:=x.toNat_lt
  have hlt:x.toNat / 2 ^ r < 256:=Nat.lt_of_le_of_lt (Nat.div_le_self _ _) hx
  have ha:=and1_beq _ hlt
  unfold bit8
  generalize x.toNat / 2 ^ r=y at hs ha hlt
  clear hqe hre hlen hx
  go_enter Tryz.func124,Tryz.ntmps124
  go_wp2_with fail
  go_ret
  exact ⟨rfl,rfl⟩
theorem bget_any (A:Option Addr)(len cap:Nat)(l:List UInt8)(hlen:l.length=len)(i:Int)(w:World)(hb:Bytes w A l)(hm:len ≤ 140737488355328) :
    Calls Tryz.prog 161 #[.slice A len cap,.int .i64 i] w fun e w' => e=.returned (.tuple #[.bool (getV l i),.int .i64 (getE l i)]) ∧ w=w':=by
  cases h:has l i with
  | true =>
    have h2:=(has_iff _ _).1 h
    rw [hlen] at h2
    obtain ⟨k,rfl⟩:=Int.eq_ofNat_of_zero_le h2.1
    have hk:k < 8 * len:=by omega
    rw [show getV l (k:Int)=bit l k by unfold getV; rw [h,Int.toNat_natCast]; rfl,show getE l (k:Int)=0 by unfold getE; rw [if_pos h]]
    have HB:=Lib.hid hb
    have HL:=Lib.hid hlen
    have HH:=Lib.hid h
    clear hb hlen h h2
    go_enter Tryz.func161,Tryz.ntmps161
    go_wp2_with (first
      | (go_at_call 123; refine (has_any A len cap l HL.out _ _ hm).mono ?_; rintro e w' ⟨rfl,rfl⟩; rw [HH.out])
      | (go_at_call 124; refine (on_any A len cap l HL.out k _ HB.out hk hm).mono ?_; rintro e w' ⟨rfl,rfl⟩))
    go_ret2
    exact ⟨rfl,rfl⟩
  | false =>
    rw [show getV l i=false by unfold getV; rw [h]; rfl,show getE l i=80 by unfold getE; rw [if_neg (by rw [h]; simp)]]
    have HL:=Lib.hid hlen
    have HH:=Lib.hid h
    clear hb hlen h
    go_enter Tryz.func161,Tryz.ntmps161
    go_wp2_with (go_at_call 123; refine (has_any A len cap l HL.out _ _ hm).mono ?_; rintro e w' ⟨rfl,rfl⟩; rw [HH.out])
    go_ret2
    exact ⟨rfl,rfl⟩
set_option maxHeartbeats 1600000 in
theorem bput_any (g cap len:Nat)(l:List UInt8)(hlen:l.length=len)(k:Nat)(on:Bool)(w:World)(hM:Rw w g l)(hk:k < 8 * len)(hm:len ≤ 140737488355328) :
    Calls Tryz.prog 145 #[.slice (some ⟨g,0,none⟩) len cap,.int .i64 (k:Int),.bool on] w fun e w' => e=.returned (.int .i64 0) ∧ Rw w' g (Bt.putL l (k:Int) on) ∧ Keeps (·=g) w w':=by
  have h:has l (k:Int)=true:=(has_iff _ _).2 ⟨by omega,by omega⟩
  obtain ⟨q,hqe⟩:∃ q,k / 8=q:=⟨_,rfl⟩
  obtain ⟨r,hre⟩:∃ r,k % 8=r:=⟨_,rfl⟩
  have hql:q < l.length:=by omega
  have hr:r < 8:=by omega
  rw [Bt.putL_of l k q r on hql hqe hre]
  have hx:w.cell? ⟨g,q,none⟩=some (.int .u8 (n8 l[q])):=hM.cell hql
  have hf:=hM.free q
  have hput:=fun b => hM.put q b
  have hks:=fun v => keeps_set w g q v
  generalize l[q]=x at hx ⊢
  have ho:=or_bit x r hr
  have ha:=andNot_bit x r hr
  have hp:=u8_pow r hr
  have hqi:(k:Int) / 8=(q:Int):=by omega
  have hri:(k:Int) % 8=(r:Int):=by omega
  have hq0:(q:Int) < (len:Int):=by omega
  have HL:=Lib.hid hlen
  have HH:=Lib.hid h
  have HP:=Lib.hid hput
  have HK:=Lib.hid hks
  clear hlen h hM hqe hre hput hql hks
  cases on with
  | true =>
    go_enter Tryz.func145,Tryz.ntmps145
    go_wp2_with (go_at_call 123; refine (has_any (some ⟨g,0,none⟩) len cap l HL.out _ _ hm).mono ?_; rintro e w' ⟨rfl,rfl⟩; rw [HH.out])
    go_region
    go_wp2_with fail
    go_ret
    exact ⟨rfl,(HP.out _).drew,(HK.out _).trans ⟨rfl,rfl,rfl,Nat.le_refl _,fun _ _ _ => rfl⟩⟩
  | false =>
    go_enter Tryz.func145,Tryz.ntmps145
    go_wp2_with (go_at_call 123; refine (has_any (some ⟨g,0,none⟩) len cap l HL.out _ _ hm).mono ?_; rintro e w' ⟨rfl,rfl⟩; rw [HH.out])
    go_region
    go_wp2_with fail
    go_ret
    exact ⟨rfl,(HP.out _).drew,(HK.out _).trans ⟨rfl,rfl,rfl,Nat.le_refl _,fun _ _ _ => rfl⟩⟩
end Go.Proofs.YthkijogloebdoaaGreatDoor
end
section
namespace Go.Proofs.YthkijogloebdoaaGreatDoor.Bt
theorem bump_append (p t:List (Nat × Nat))(h:t ≠ []):bump (p ++ t)=p ++ bump t:=by
  induction p with
  | nil => rfl
  | cons x r ih =>
    cases r with
    | nil =>
      cases t with
      | nil => exact absurd rfl h
      | cons y t => rfl
    | cons y r => show x :: bump (y :: r ++ t)=_; rw [ih]; rfl
theorem bump_ne (t:List (Nat × Nat))(h:t ≠ []):bump t ≠ []:=by
  cases t with
  | nil => exact absurd rfl h
  | cons x r =>
    cases r with
    | nil => simp [bump]
    | cons y r => simp [bump]
theorem rows_prefix (l:List UInt8)(i d:Nat)(h:bit l i=true):∃ t,rows l (i + d)=rows l i ++ t ∧ (1 ≤ d → bit l (i + d - 1)=false → t ≠ []):=by
  induction d with
  | zero => exact ⟨[],by simp,fun h1 => by omega⟩
  | succ d ih =>
    obtain ⟨t,e,hn⟩:=ih
    cases hb:bit l (i + d) with
    | true => exact ⟨t,by rw [← Nat.add_assoc,rows_on _ _ hb,e],fun _ h2 => by rw [show i + (d + 1) - 1=i + d by omega,hb] at h2; cases h2⟩
    | false =>
      have hd:1 ≤ d:=by
        rcases Nat.eq_zero_or_pos d with h0 | h0
        · subst h0; rw [Nat.add_zero,h] at hb; cases hb
        · exact h0
      cases hp:bit l (i + d - 1) with
      | true => exact ⟨t ++ [(i + d,1)],by rw [← Nat.add_assoc,rows_new _ _ hb (.inr hp),e,List.append_assoc],fun _ _ => by simp⟩
      | false =>
        obtain ⟨c,hc⟩:∃ c,i + d=c + 1:=⟨i + d - 1,by omega⟩
        refine ⟨bump t,?_,fun _ _ => bump_ne t (hn hd hp)⟩
        rw [← Nat.add_assoc,hc,rows_more l c (by rw [← hc]; exact hb) (by rw [show c=i + d - 1 by omega]; exact hp),← hc,e,bump_append _ _ (hn hd hp)]
theorem rows_first (l:List UInt8)(k:Nat)(h:k=8 * l.length ∨ bit l k=true)(hk:k ≤ 8 * l.length):rows l k <+: runs l:=by
  rcases h with rfl | h
  · exact List.prefix_refl _
  · obtain ⟨t,e,_⟩:=rows_prefix l k (8 * l.length - k) h
    refine ⟨t,?_⟩
    unfold runs
    rw [← e]
    congr 1
    omega
def IsRow (l:List UInt8)(x:Nat × Nat):Prop :=
  1 ≤ x.2 ∧ x.1 + x.2 ≤ 8 * l.length ∧ (∀ j,x.1 ≤ j → j < x.1 + x.2 → bit l j=false) ∧ (x.1=0 ∨ bit l (x.1 - 1)=true) ∧ (x.1 + x.2=8 * l.length ∨ bit l (x.1 + x.2)=true)
end Go.Proofs.YthkijogloebdoaaGreatDoor.Bt
end
section
namespace Go.Proofs.YthkijogloebdoaaGreatDoor
section
variable {P:Program}{b:Frame}{a:Act}{k:List Item}{cs:List Frame}{w:World}
theorem stepR_scope {c:Code}:step P (lone (b.atR a (.code (.scope c) :: k)) cs w)=.next (lone (b.atR a (.code c :: .inScope c :: k)) cs w) :=
  step_lone_go (by simp [stepG,stepG.exec,Frame.atR])
theorem stepR_inScope {c:Code}:step P (lone (b.atR a (.inScope c :: k)) cs w)=.next (lone (b.atR a k) cs w) :=
  step_lone_go (by simp [stepG,stepG.exec,Frame.atR])
end
theorem wpIn_scope_straight {F:Fence}{n:Nat}{P:Program}{Q:Exit → Act → World → Prop}{a:Act}{w:World}{c:Code}(h:c.wpIn F n P (Exit.noGoto Q) a w):(Code.scope c).wpIn F n P Q a w:=by
  intro b k cs hro hb hr
  have h0:(lone (b.atR a (.code (.scope c) :: k)) cs w).fenced P F:=fenced_calm hb hr rfl
  obtain ⟨e,a₁,w₁,hq,harr⟩:=h b (.inScope c :: k) cs hro hb hr
  cases e with
  | normal => exact ⟨.normal,a₁,w₁,hq,.head h0 stepR_scope (StepsIn.trans harr (.one (fenced_calm hb hr rfl) stepR_inScope))⟩
  | exit id =>
    have hx:exitTo id (.inScope c :: k)=exitTo id k:=by simp [exitTo]
    exact ⟨.exit id,a₁,w₁,hq,fun k' hk => .head h0 stepR_scope (harr.1 k' (by rw [hx]; exact hk)),
      fun hr' hk => let ⟨k₁,h1,h2⟩:=harr.2 hr' (by rw [hx]; exact hk); ⟨k₁,h1,.head h0 stepR_scope h2⟩⟩
  | goto l => exact hq.elim
  | ret => exact ⟨_,a₁,w₁,hq,.of_steps (.one h0 stepR_scope) harr⟩
  | panic ch => exact ⟨_,a₁,w₁,hq,.of_steps (.one h0 stepR_scope) harr⟩
  | outgrown => exact ⟨_,a₁,w₁,hq,.of_steps (.one h0 stepR_scope) harr⟩
end Go.Proofs.YthkijogloebdoaaGreatDoor
end
section
namespace Go.Proofs.YthkijogloebdoaaGreatDoor
open Go.RowKit Go.Shelf Bt
attribute [local go_sem] Oper.semAt_some
abbrev RowOf (l:List UInt8) := { x:Nat × Nat // IsRow l x }
def rowArgs {l:List UInt8}(x:RowOf l):Array Value := #[.int .i64 (x.1.1:Int),.int .i64 (x.1.2:Int)]
set_option maxRecDepth 100000 in
set_option maxHeartbeats 4000000 in
theorem runs1_any (n:Nat)(hn:1 ≤ n)(r B len cap:Nat)(A:Option Addr)(l:List UInt8)(hlen:l.length=len)(hm:len ≤ 140737488355328)(Kp:World → World → Prop)
    (hK:∀ W1 W2,Kp W1 W2 → W1.cell? ⟨B,0,none⟩=some (.slice A len cap) → Bytes W1 A l → W2.cell? ⟨B,0,none⟩=some (.slice A len cap) ∧ Bytes W2 A l)
    (J Jx:List (RowOf l) → World → Prop)
    (hY:∀ pre (x:RowOf l) W,J pre W → pre.length < (runs l).length → YieldAt Fence.wide (n - 1) Tryz.prog r (rowArgs x) W fun e W' =>
      (e=.returned (.bool true) ∧ J (pre ++ [x]) W' ∧ Kp W W') ∨ (e=.returned (.bool false) ∧ Jx (pre ++ [x]) W'))
    (W:World)(hBc:W.cell? ⟨B,0,none⟩=some (.slice A len cap))(hb:Bytes W A l)(h0:J [] W) :
    CallsIn Fence.wide n Tryz.prog 122 #[.func (.yield r) #[] #[],.pointer (some ⟨B,0,none⟩)] W fun e W' => (∃ v,e=.returned v) ∧
      ((∃ ys:List (RowOf l),ys.map (·.1)=runs l ∧ J ys W') ∨ (∃ pre:List (RowOf l),pre.map (·.1) <+: runs l ∧ Jx pre W')):=by
  have HL:=Lib.hid hlen
  have HB:=Lib.hid hb
  have HAd:=Lib.hid hK
  have HYd:=Lib.hid hY
  have HBC:=Lib.hid hBc
  clear hlen hb hK hY hBc
  refine callsIn_of_wp Tryz.func122 rfl trivial ?_ rfl
  simp only [Tryz.ntmps122,List.size_toArray,List.length_cons,List.length_nil,Nat.reduceAdd,Nat.reduceSub,Array.replicate_succ,Array.replicate_zero,List.push_toArray,List.append_toArray,List.nil_append,List.cons_append]
  refine wpIn_scope_straight ?_
  gi_wp2
  refine wpIn_label ?_
  gi_wp2
  gi_loopw [3] (fun i wr => ∃ (k:Nat) (pre:List (RowOf l)),k ≤ 8 * len ∧ i=.int .i64 k ∧ J pre wr ∧ (wr.cell? ⟨B,0,none⟩=some (.slice A len cap) ∧ Bytes wr A l) ∧ pre.map (·.1)=rows l k ∧ (k=0 ∨ k=8 * len ∨ bit l k=true))
    (fun i _ => 8 * len - (intOf i).toNat)
  case atStart => exact ⟨0,[],Nat.zero_le _,rfl,h0,⟨HBC.out,HB.out⟩,rfl,.inl rfl⟩
  case round =>
    obtain ⟨k,pre,hk,rfl,hJ,hnx,hpre,hst⟩:=hrel
    have hc:=hnx.1
    have HBr:=Lib.hid hnx.2
    have HPre:=Lib.hid hpre
    have HSt:=Lib.hid hst
    have HJ:=Lib.hid hJ
    have HNx:=Lib.hid hnx
    clear hpre hst hJ hnx
    obtain ⟨wq,rfl⟩:∃ wq:World,wq=wr:=⟨_,rfl⟩
    gi_wp2
    gi_loop [3] (fun i => ∃ q:Nat,k ≤ q ∧ q ≤ 8 * len ∧ i=.int .i64 q ∧ ∀ j,k ≤ j → j < q → bit l j=true) (fun i => 8 * len - (intOf i).toNat)
    case atStart => exact ⟨k,Nat.le_refl _,hk,rfl,fun j h1 h2 => by omega⟩
    case round =>
      obtain ⟨q,hkq,hq8,rfl,hon⟩:=hrel
      have HO:=Lib.hid hon
      clear hon
      by_cases hq:q < 8 * len
      · have HH := Lib.hid (show has l (q:Int)=true from (has_iff _ _).2 ⟨by omega,by rw [HL.out]; omega⟩)
        cases hbit:bit l q with
        | true =>
          have HBT:=Lib.hid hbit
          clear hbit
          gi_wp2_with (first
            | (refine ⟨trivial,?_⟩; gi_at_call 123; refine (callsIn_wide.2 (has_any A len cap l HL.out _ _ hm)).mono ?_; rintro e w' ⟨rfl,rfl⟩; rw [HH.out])
            | (refine ⟨trivial,?_⟩; gi_at_call 124; refine (callsIn_wide.2 (on_any A len cap l HL.out q _ HBr.out hq hm)).mono ?_; rintro e w' ⟨rfl,rfl⟩; rw [HBT.out]))
          go_round
          case rel =>
            refine ⟨q + 1,by omega,by omega,by go_num,fun j h1 h2 => ?_⟩
            by_cases hj:j < q
            · exact HO.out j h1 hj
            · obtain rfl:j=q:=by omega
              exact HBT.out
          case measure => simp [intOf]; omega
        | false =>
          have HBT:=Lib.hid hbit
          clear hbit
          gi_wp2_with (first
            | (refine ⟨trivial,?_⟩; gi_at_call 123; refine (callsIn_wide.2 (has_any A len cap l HL.out _ _ hm)).mono ?_; rintro e w' ⟨rfl,rfl⟩; rw [HH.out])
            | (refine ⟨trivial,?_⟩; gi_at_call 124; refine (callsIn_wide.2 (on_any A len cap l HL.out q _ HBr.out hq hm)).mono ?_; rintro e w' ⟨rfl,rfl⟩; rw [HBT.out]))
          gi_loop [3] (fun i => ∃ s:Nat,q ≤ s ∧ s ≤ 8 * len ∧ i=.int .i64 s ∧ ∀ j,q ≤ j → j < s → bit l j=false) (fun i => 8 * len - (intOf i).toNat)
          case atStart => exact ⟨q,Nat.le_refl _,hq8,rfl,fun j h1 h2 => by omega⟩
          case round =>
            obtain ⟨s,hqs,hs8,rfl,hoff⟩:=hrel
            have HF:=Lib.hid hoff
            clear hoff
            have HQ:=Lib.hid (show q=0 ∨ bit l (q - 1)=true by
              rcases Nat.lt_or_ge k q with h1 | h1
              · exact .inr (HO.out (q - 1) (by omega) (by omega))
              · obtain rfl:q=k:=by omega
                rcases HSt.out with h2 | h2 | h2
                · exact .inl h2
                · omega
                · rw [HBT.out] at h2; cases h2)
            have HR:=Lib.hid (show rows l q=rows l k by
              obtain ⟨d,rfl⟩:=Nat.exists_eq_add_of_le hkq
              exact rows_skip l k d HO.out)
            obtain ⟨d,hd⟩:∃ d,q + d=s:=⟨s - q,by omega⟩
            by_cases hs:s < 8 * len
            · have HS:=Lib.hid (show has l (s:Int)=true from (has_iff _ _).2 ⟨by omega,by rw [HL.out]; omega⟩)
              cases hbs:bit l s with
              | false =>
                have HBS:=Lib.hid hbs
                clear hbs
                gi_wp2_with (first
                  | (refine ⟨trivial,?_⟩; gi_at_call 123; refine (callsIn_wide.2 (has_any A len cap l HL.out _ _ hm)).mono ?_; rintro e w' ⟨rfl,rfl⟩; rw [HS.out])
                  | (refine ⟨trivial,?_⟩; gi_at_call 124; refine (callsIn_wide.2 (on_any A len cap l HL.out s _ HBr.out hs hm)).mono ?_; rintro e w' ⟨rfl,rfl⟩; rw [HBS.out]))
                go_round
                case rel =>
                  refine ⟨s + 1,by omega,by omega,by go_num,fun j h1 h2 => ?_⟩
                  by_cases hj:j < s
                  · exact HF.out j h1 hj
                  · obtain rfl:j=s:=by omega
                    exact HBS.out
                case measure => simp [intOf]; omega
              | true =>
                have hd1:1 ≤ d:=by
                  rcases Nat.eq_zero_or_pos d with h1 | h1
                  · subst h1; rw [Nat.add_zero] at hd; subst hd; rw [HBT.out] at hbs; cases hbs
                  · exact h1
                have HBS:=Lib.hid hbs
                have HE:=Lib.hid (show q + d=8 * l.length ∨ bit l (q + d)=true by rw [hd]; exact .inr hbs)
                clear hbs
                have hrow:IsRow l (q,d):=⟨by show 1 ≤ d; omega,by show q + d ≤ 8 * l.length; rw [HL.out,hd]; exact hs8,fun j h1 h2 => HF.out j h1 (by have h2:j < q + d:=h2; omega),HQ.out,HE.out⟩
                have hrows:rows l s=rows l k ++ [(q,d)]:=by
                  obtain ⟨d',rfl⟩:∃ d',d=d' + 1:=⟨d - 1,by omega⟩
                  rw [← hd,rows_row l q d' HQ.out (fun j h1 h2 => HF.out j h1 (by omega)),HR.out]
                have hlt:pre.length < (runs l).length:=by
                  have h1:=rows_first l s (by rw [HL.out,← hd]; have:=HE.out; rw [HL.out] at this; exact this) (by rw [HL.out]; exact hs8)
                  rw [hrows,← HPre.out] at h1
                  have:=h1.length_le
                  simp at this
                  omega
                obtain ⟨fn,tmps,assign,body,hy,hR⟩:=HYd.out pre ⟨(q,d),hrow⟩ wq HJ.out hlt
                have HROWS:=Lib.hid hrows
                have HHR:=Lib.hid hR
                have hsd:(s:Int) - (q:Int)=(d:Int):=by omega
                have hne:((s:Int) == (q:Int))=false:=by rw [beq_eq_false_iff_ne]; omega
                have hrw:rowArgs (l:=l) ⟨(q,d),hrow⟩=#[.int .i64 (q:Int),.int .i64 (d:Int)]:=rfl
                rw [hrw] at hy
                have HROW:=Lib.hid hrow
                clear hrows hlt hrw
                gi_wp2_with (first
                  | (refine ⟨trivial,?_⟩; gi_at_call 123; refine (callsIn_wide.2 (has_any A len cap l HL.out _ _ hm)).mono ?_; rintro e w' ⟨rfl,rfl⟩; rw [HS.out])
                  | (refine ⟨trivial,?_⟩; gi_at_call 124; refine (callsIn_wide.2 (on_any A len cap l HL.out s _ HBr.out hs hm)).mono ?_; rintro e w' ⟨rfl,rfl⟩; rw [HBS.out]))
                refine HHR.out.mono ?_
                rintro e W3 (⟨rfl,hJ3,hk3⟩ | ⟨rfl,hJx3⟩)
                · gi_wp2
                  go_roundw
                  case rel =>
                    refine ⟨s,pre ++ [⟨(q,d),HROW.out⟩],hs8,rfl,hJ3,HAd.out _ _ hk3 HNx.out.1 HNx.out.2,?_,?_⟩
                    · rw [List.map_append,HPre.out,HROWS.out]; rfl
                    · have:=HE.out; rw [HL.out,hd] at this; exact .inr this
                  case measure => simp [intOf]; omega
                · gi_wp2
                  rw [Exit.noGoto_normal]
                  go_end0
                  refine ⟨⟨_,rfl⟩,.inr ⟨_,?_,hJx3⟩⟩
                  rw [List.map_append,HPre.out]
                  show rows l k ++ [(q,d)] <+: runs l
                  rw [← HROWS.out]
                  exact rows_first l s (by have:=HE.out; rw [hd] at this; exact this) (by rw [HL.out]; exact hs8)
            · have HSE:=Lib.hid (show s=8 * len by omega)
              have HS:=Lib.hid (show has l (s:Int)=false by rw [Bool.eq_false_iff]; intro h; have:=(has_iff _ _).1 h; rw [HL.out] at this; omega)
              have hd1:1 ≤ d:=by omega
              have HE:=Lib.hid (show q + d=8 * l.length ∨ bit l (q + d)=true by rw [HL.out]; exact .inl (by have:=HSE.out; omega))
              have hrow:IsRow l (q,d):=⟨by show 1 ≤ d; omega,by show q + d ≤ 8 * l.length; rw [HL.out,hd]; exact hs8,fun j h1 h2 => HF.out j h1 (by have h2:j < q + d:=h2; omega),HQ.out,HE.out⟩
              have hrows:rows l s=rows l k ++ [(q,d)]:=by
                obtain ⟨d',rfl⟩:∃ d',d=d' + 1:=⟨d - 1,by omega⟩
                rw [← hd,rows_row l q d' HQ.out (fun j h1 h2 => HF.out j h1 (by omega)),HR.out]
              have hlt:pre.length < (runs l).length:=by
                have h1:=rows_first l s (by rw [HL.out,← hd]; have:=HE.out; rw [HL.out] at this; exact this) (by rw [HL.out]; exact hs8)
                rw [hrows,← HPre.out] at h1
                have:=h1.length_le
                simp at this
                omega
              obtain ⟨fn,tmps,assign,body,hy,hR⟩:=HYd.out pre ⟨(q,d),hrow⟩ wq HJ.out hlt
              have HROWS:=Lib.hid hrows
              have HHR:=Lib.hid hR
              have hsd:(s:Int) - (q:Int)=(d:Int):=by omega
              have hne:((s:Int) == (q:Int))=false:=by rw [beq_eq_false_iff_ne]; omega
              have hrw:rowArgs (l:=l) ⟨(q,d),hrow⟩=#[.int .i64 (q:Int),.int .i64 (d:Int)]:=rfl
              rw [hrw] at hy
              have HROW:=Lib.hid hrow
              clear hrows hlt hrw
              gi_wp2_with (first
                | (refine ⟨trivial,?_⟩; gi_at_call 123; refine (callsIn_wide.2 (has_any A len cap l HL.out _ _ hm)).mono ?_; rintro e w' ⟨rfl,rfl⟩; rw [HS.out]))
              refine ⟨trivial,?_⟩
              gi_wp2
              refine HHR.out.mono ?_
              rintro e W3 (⟨rfl,hJ3,hk3⟩ | ⟨rfl,hJx3⟩)
              · gi_wp2
                go_roundw
                case rel =>
                  refine ⟨s,pre ++ [⟨(q,d),HROW.out⟩],hs8,rfl,hJ3,HAd.out _ _ hk3 HNx.out.1 HNx.out.2,?_,?_⟩
                  · rw [List.map_append,HPre.out,HROWS.out]; rfl
                  · have:=HE.out; rw [HL.out,hd] at this; exact .inr this
                case measure => simp [intOf]; omega
              · gi_wp2
                rw [Exit.noGoto_normal]
                go_end0
                refine ⟨⟨_,rfl⟩,.inr ⟨_,?_,hJx3⟩⟩
                rw [List.map_append,HPre.out]
                show rows l k ++ [(q,d)] <+: runs l
                rw [← HROWS.out]
                exact rows_first l s (by have:=HE.out; rw [hd] at this; exact this) (by rw [HL.out]; exact hs8)
      · have HQE:=Lib.hid (show q=8 * len by omega)
        have HH:=Lib.hid (show has l (q:Int)=false by rw [Bool.eq_false_iff]; intro h; have:=(has_iff _ _).1 h; rw [HL.out] at this; omega)
        gi_wp2_with (refine ⟨trivial,?_⟩; gi_at_call 123; refine (callsIn_wide.2 (has_any A len cap l HL.out _ _ hm)).mono ?_; rintro e w' ⟨rfl,rfl⟩; rw [HH.out])
        refine ⟨trivial,?_⟩
        gi_wp2
        gi_loop [3] (fun i => i=.int .i64 q) (fun i => 0)
        case atStart => exact rfl
        case round =>
          obtain rfl:=hrel
          gi_wp2_with (refine ⟨trivial,?_⟩; gi_at_call 123; refine (callsIn_wide.2 (has_any A len cap l HL.out _ _ hm)).mono ?_; rintro e w' ⟨rfl,rfl⟩; rw [HH.out])
          refine ⟨trivial,?_⟩
          gi_wp2
          refine ⟨fun _ h => (by cases h),?_⟩
          gi_wp2
          rw [Exit.noGoto_normal]
          go_end0
          refine ⟨⟨_,rfl⟩,.inl ⟨pre,?_,HJ.out⟩⟩
          rw [HPre.out]
          obtain ⟨d,hd⟩:=Nat.exists_eq_add_of_le hkq
          rw [← rows_skip l k d (fun j h1 h2 => HO.out j h1 (by omega)),← hd,HQE.out,← HL.out]
          rfl
theorem runs_stopsK (n:Nat)(hn:1 ≤ n)(B len cap:Nat)(A:Option Addr)(l:List UInt8)(hlen:l.length=len)(hm:len ≤ 140737488355328)(Kp:World → World → Prop)
    (hK:∀ W1 W2,Kp W1 W2 → W1.cell? ⟨B,0,none⟩=some (.slice A len cap) → Bytes W1 A l → W2.cell? ⟨B,0,none⟩=some (.slice A len cap) ∧ Bytes W2 A l)(w:World)
    (hBc:w.cell? ⟨B,0,none⟩=some (.slice A len cap))(hb:Bytes w A l) :
    SeqStopsK Fence.wide n Tryz.prog 122 #[.pointer (some ⟨B,0,none⟩)] (rowArgs (l:=l)) Kp (fun ys => ys.map (·.1)=runs l) (fun pre => pre.map (·.1) <+: runs l) (runs l).length w:=fun r J Jx W hW _ _ hY h0 =>
  runs1_any n hn r B len cap A l hlen hm Kp hK J Jx hY W ((hW.cell (p:=⟨B,0,none⟩) (block_lt_of_cell hBc)).trans hBc) (hb.later hW) h0
def Iter (w0 w:World)(base:Nat)(l:List UInt8)(v:Value):Prop :=
  ∃ (B:Nat) (A:Option Addr) (cap:Nat),v=.func (.func 122) #[] #[.pointer (some ⟨B,0,none⟩)] ∧ w.cell? ⟨B,0,none⟩=some (.slice A l.length cap) ∧ Mine w base A cap l ∧ base ≤ B
theorem runs_any (A:Option Addr)(len cap:Nat)(l:List UInt8)(hlen:l.length=len)(w:World)(hb:Bytes w A l)(hc:A=none → cap=0)(hm:len ≤ 140737488355328) :
    Calls Tryz.prog 88 #[.slice A len cap] w fun e w' => (∃ v,e=.returned v ∧ Iter w w' w.heap.size l v) ∧ Below w.heap.size w w':=by
  have HB:=Lib.hid hb
  have HL:=Lib.hid hlen
  have HC:=Lib.hid hc
  clear hb hlen hc
  go_enter Tryz.func88,Tryz.ntmps88
  go_wp2_with (at_builtin; refine wpList_append_u8 rfl (.tmp 4) (.tmp 5) rfl w.heap.size (some ⟨w.heap.size,0,none⟩) 0 [] rfl (Mine.empty w (Nat.le_refl _)) A cap l (by rw [HL.out]; rfl) HC.out (HB.out.later (below_new w _)) (by rw [HL.out]; simpa using hm) (by simp) ?_; intro A2 c2 w2 hm2 hg2 hb2; rw [show (([]:List UInt8) ++ l).length=len from HL.out]; have hm2:Mine w2 w.heap.size A2 c2 l:=hm2; have HM2:=Lib.hid hm2; have HB2:=Lib.hid ((below_new w (.cells #[] 5)).trans hb2))
  go_ret
  exact ⟨⟨_,rfl,w2.heap.size,A2,c2,rfl,by rw [HL.out]; exact (Is.new w2 28 #[.slice A2 len c2]).cell 0,HM2.out.later (below_new w2 _),HB2.out.size⟩,HB2.out.alloc HB2.out.size _⟩
end Go.Proofs.YthkijogloebdoaaGreatDoor
end
section
namespace Go.Proofs.YthkijogloebdoaaGreatDoor
open Go.RowKit Go.Shelf
def noDefers (ops:Array Oper):Bool:=ops.toList.all fun o => match o.op with
  | .defer _ => false
  | _ => true
theorem noDefers_at {ops:Array Oper}(h:noDefers ops=true){i:Nat}{o:Oper}(hi:ops[i]? = some o):∀ c,o.op ≠ .defer c:=fun c e => by
  have hm:o ∈ ops.toList:=by
    rw [← Array.getElem?_toList] at hi
    exact List.mem_of_getElem? hi
  have:=List.all_eq_true.1 h o hm
  rw [e] at this
  cases this
section
variable {P:Program}{ops:Array Oper}{C:World → Prop}{r n:Nat}
theorem quiet_in {o:Oper}{a:Act}{K:Act → Prop}{K':Act → World → Prop}{Q':Exit → Act → World → Prop}{w:World}(hd:∀ c,o.op ≠ .defer c)(hw:C w)(h:∀ a w',C w' → K a → K' a w')(hh:o.quiet P a C K):o.wpIn (Fence.wide.inRound r) n P a w K' Q':=by
  refine ⟨fun f _ => trivial,?_⟩
  obtain ⟨v,h1,h2⟩:=hh
  have h3:=h1 w hw
  unfold Oper.quietAt at h3
  rw [Oper.semAt_eq _ _ _ hd]
  generalize (execOp a.eval o).run P w=q at *
  cases q with
  | ok x w' =>
    cases x <;> simp only [Oper.quietUpon] at h3 <;> simp only [Oper.uponIn]
    case value u =>
      obtain ⟨e1,e2⟩:=h3
      rw [e1,e2]
      exact h _ _ hw h2
    case skip =>
      obtain ⟨e1,e2⟩:=h3
      rw [e1,← e2]
      exact h _ _ hw h2
    case enter f args =>
      obtain ⟨e1,hc⟩:=h3
      rw [e1]
      exact ⟨(fun hf => by cases hf),(CallsIn.inRound r (callsIn_wide.2 hc)).mono fun e w'' ⟨he,hw''⟩ => by subst he; exact h _ _ hw'' h2⟩
  | halt x w' => simp only [Oper.quietUpon] at h3
theorem any_in (hdf:noDefers ops=true){Q:Act → Prop}{Q':Exit → Act → World → Prop}(hQ:∀ a w,C w → Q a → Q' .normal a w):∀ (fuel:Nat)(listed:Array Bool)(a:Act)(w:World),C w →
    wpAnyQ P .any ops C Q fuel listed a → wpAnyIn (Fence.wide.inRound r) n P .any ops Q' fuel listed a w
  | 0,_,_,_,hw,h => ⟨h.1,hQ _ _ hw h.2⟩
  | fuel + 1,_,_,_,hw,h => ⟨fun h0 => hQ _ _ hw (h.1 h0),fun i hi => by
      have hh:=h.2 i hi
      unfold qOp at hh
      unfold wpOpIn
      split
      · rename_i ho
        simp only [ho] at hh
        exact any_in hdf hQ fuel _ _ _ hw hh
      · rename_i o ho
        simp only [ho] at hh
        split
        · rename_i hwt
          simp only [hwt,if_true] at hh
          exact quiet_in (noDefers_at hdf ho) hw (fun a' w' hw' => any_in hdf hQ fuel _ a' w' hw') hh
        · rename_i hwt
          simp only [hwt] at hh
          exact ⟨fun f _ => trivial,any_in hdf hQ fuel _ _ _ hw hh⟩⟩
end
theorem quiet_round {P:Program}{id r n:Nat}{Q:Exit → Act → World → Prop}{a:Act}{w:World}{l:List Oper}(hm:P.follows .mixedOrders=true)(hB:Region.lexB .any l.toArray=true)(hdf:noDefers l.toArray=true)
    (h:wpQuiet P l.toArray (fun w' => ∃ n,w'=w.drewN n) (fun a' => ∀ w',(∃ n,w'=w.drewN n) → Q .normal a' w') l a):(Code.region id l.toArray true).wpIn (Fence.wide.inRound r) n P Q a w:=by
  simp only [Region.lexB,Bool.and_eq_true] at hB
  refine wpIn_region_any hm (any_in (C:=fun w' => ∃ n,w'=w.drewN n) hdf (Q:=fun a' => ∀ w',(∃ n,w'=w.drewN n) → Q .normal a' w') (fun _ w' hw' h => h w' hw') _ _ _ _ ⟨1,rfl⟩ ?_)
  have:=wpAnyQ_lex (C:=fun w' => ∃ n,w'=w.drewN n) (md:=.any) hB.1 l 0 (Array.replicate l.toArray.size false) a (by simp) (by simpa using hB.2) h
  simpa using this
end Go.Proofs.YthkijogloebdoaaGreatDoor
end
