/-
  WholeFiles, the texts QBl SumJ QHw2 QHg QWr QWh: lemmas for the proof that three files on one disk are plain rows of bytes. No conditions.
-/
import Derived.Test.YthkijogloebdoaaGreatDoorM05
import Derived.Test.YthkijogloebdoaaGreatDoorM01
import Derived.Test.YthkijogloebdoaaGreatDoorM02
import Derived.Test.YthkijogloebdoaaGreatDoorM03
import Derived.Test.YthkijogloebdoaaGreatDoorProg
import Derived.WalkKit
import Derived.Lib.Hide
set_option linter.unusedVariables false
set_option linter.unusedSimpArgs false
section
namespace Go.Proofs.YthkijogloebdoaaGreatDoor
open Go.RowKit
def BlkRow (w:World)(base a lb:Nat)(A:Option Addr)(cap:Nat)(ws:List (Nat × List UInt8)):Prop :=
  ∃ cs,Own w lb 116 2 A ws.length cap cs ∧ ∀ k (h:k < ws.length),∃ B c,cs[k * 2]? = some (.int .i64 (ws[k].1:Int)) ∧ cs[k * 2 + 1]? = some (.slice B 512 c) ∧ ws[k].2.length=512 ∧ Buf w base (some a) B ws[k].2
section
variable {w w2:World}{base a lb cap sp sb:Nat}{A:Option Addr}{ws:List (Nat × List UInt8)}
theorem BlkRow.later (h:BlkRow w base a lb A cap ws)(hb:Below w.heap.size w w2):BlkRow w2 base a lb A cap ws:=by
  obtain ⟨cs,hO,hc⟩:=h
  refine ⟨cs,hO.later hb,fun k hk => ?_⟩
  obtain ⟨B,c,h1,h2,h3,h4⟩:=hc k hk
  exact ⟨B,c,h1,h2,h3,h4.later hb⟩
theorem Buf.ktS {b:List UInt8}{cs:Array Value}(h4:Buf w base (some a) A b)(hsp:Is w sp 160 cs)(k:KT (some sp) sb stepT w w2)(hb:base ≤ sb)(hs:sb ≤ sp):Buf w2 base (some a) A b:=by
  refine h4.kt2 k hb (by simp [stepT]) (by simp [stepT]) fun g e => ?_
  injection e with e
  subst e
  refine ⟨by omega,fun ⟨cs',t,f,q1,q2⟩ => ?_⟩
  rw [show w.heap[sp]? = _ from hsp] at q1
  injection q1 with q1
  injection q1 with _ q1
  subst q1
  simp at q2
theorem BlkRow.ktS {cs:Array Value}(h:BlkRow w base a lb A cap ws)(hsp:Is w sp 160 cs)(k:KT (some sp) sb stepT w w2)(hb:base ≤ sb)(hs:sb ≤ sp):BlkRow w2 base a lb A cap ws:=by
  obtain ⟨vs,hO,hc⟩:=h
  refine ⟨vs,hO.kt k (by simp [stepT]) (fun g hg e => ?_),fun j hj => ?_⟩
  · injection e with e
    obtain ⟨_,cur,hi⟩:=hO.typed g hg
    exact is_ne hi hsp (by decide) e
  · obtain ⟨B,c,h1,h2,h3,h4⟩:=hc j hj
    exact ⟨B,c,h1,h2,h3,h4.ktS hsp k hb hs⟩
theorem BlkRow.at_ (h:BlkRow w base a lb A cap ws){k:Nat}(hk:k < ws.length) :
    ∃ g B c,A=some ⟨g,0,none⟩ ∧ w.cell? ⟨g,k * 2,none⟩=some (.int .i64 (ws[k].1:Int)) ∧ w.cell? ⟨g,k * 2 + 1,none⟩=some (.slice B 512 c) ∧ ws[k].2.length=512 ∧ Buf w base (some a) B ws[k].2:=by
  obtain ⟨cs,hO,hc⟩:=h
  obtain ⟨g,rfl,_,_⟩:=hO.form (by omega)
  obtain ⟨B,c,h1,h2,h3,h4⟩:=hc k hk
  have hl:=hO.1
  exact ⟨g,B,c,rfl,(hO.cell (k * 2) (by omega)).trans h1,(hO.cell (k * 2 + 1) (by omega)).trans h2,h3,h4⟩
end
structure Rise (n:Nat)(ws:List (Nat × List UInt8)):Prop where
  few:ws.length ≤ 96
  low:∀ k (h:k < ws.length),98 ≤ ws[k].1 ∧ ws[k].1 < n
  up:∀ k (h:k + 1 < ws.length),ws[k].1 < ws[k + 1].1
def prevNum (ws:List (Nat × List UInt8)):Nat → Nat
  | 0 => 97
  | k + 1 => (ws.getD k (0,[])).1
theorem Rise.prev {n:Nat}{ws:List (Nat × List UInt8)}(h:Rise n ws){k:Nat}(hk:k < ws.length):prevNum ws k < ws[k].1:=by
  cases k with
  | zero => have:=(h.low 0 hk).1; show 97 < _; omega
  | succ k =>
    show (ws.getD k (0,[])).1 < _
    rw [List.getD_eq_getElem?_getD,List.getElem?_eq_getElem (by omega)]
    exact h.up k hk
theorem prevNum_succ (ws:List (Nat × List UInt8))(k:Nat)(hk:k < ws.length):prevNum ws (k + 1)=ws[k].1:=by
  show (ws.getD k (0,[])).1=_
  rw [List.getD_eq_getElem?_getD,List.getElem?_eq_getElem hk]; rfl
set_option maxHeartbeats 1600000 in
theorem wmay_any (base a lb n:Nat)(A:Option Addr)(cap:Nat)(ws:List (Nat × List UInt8))(w:World)(h:BlkRow w base a lb A cap ws)(hr:Rise n ws)(hn:n ≤ 16384) :
    Calls Tryz.prog 81 #[.slice A ws.length cap,.int .i64 (n:Int)] w fun e w' => e=.returned (.bool true) ∧ Below w.heap.size w w':=by
  have H:=Lib.hid h
  have HR:=Lib.hid hr
  have hlen:=hr.few
  clear h hr
  go_enter Tryz.func81,Tryz.ntmps81
  go_wp2_with fail
  go_loopw [5,10] (fun v u wr => ∃ k:Nat,k ≤ ws.length ∧ u=.int .i64 k ∧ v=.int .i64 (prevNum ws k:Nat) ∧ Below w.heap.size w wr) (fun v u _ => ws.length - (intOf u).toNat)
  case atStart => exact ⟨0,Nat.zero_le _,rfl,rfl,Below.refl _ _⟩
  case round =>
    obtain ⟨k,hk,rfl,rfl,hb⟩:=hrel
    have HB:=Lib.hid hb
    clear hb
    by_cases hlt:k < ws.length
    · have hk0:(k:Int) < (ws.length:Int):=by omega
      have hk1:(0:Int) ≤ (k:Int):=by omega
      obtain ⟨g,B,c,rfl,c1,c2,_,_⟩:=(H.out.later HB.out).at_ hlt
      have hp:=HR.out.prev hlt
      have hl:=HR.out.low k hlt
      have hs:=prevNum_succ ws k hlt
      obtain ⟨x,hx⟩:∃ x,ws[k].1=x:=⟨_,rfl⟩
      obtain ⟨p,hp'⟩:∃ p,prevNum ws k=p:=⟨_,rfl⟩
      rw [hx] at hp hl hs c1
      rw [hp'] at hp ⊢
      have HS:=Lib.hid hs
      have hi1:(p:Int) < (x:Int):=by omega
      have hi2:(x:Int) < (n:Int):=by omega
      clear hs hx hp' hp hl
      go_wp2_with fail
      go_roundw
      case rel => exact ⟨k + 1,by omega,by go_num,by rw [HS.out],HB.out.trans ((below_new _ _).mono HB.out.size)⟩
      case measure => simp [intOf]; omega
    · obtain rfl:ws.length=k:=by omega
      go_wp2_with fail
      go_ret
      exact ⟨by show Ending.returned (.bool (decide _))=_; rw [decide_eq_true (by omega)],HB.out⟩
theorem Buf.of_mine {w:World}{base a b0 cap:Nat}{A:Option Addr}{l:List UInt8}(h:Mine w b0 A cap l)(hA:∃ cur,Is w a 72 cur):Buf w base (some a) A l:=by
  by_cases e:l=[]
  · exact .inl e
  obtain ⟨g,rfl,_,_⟩:=h.form (List.length_pos_iff.2 e)
  obtain ⟨cur,hi,_⟩:=h.row
  refine .inr ⟨g,0,cur,_,_,rfl,hi,.inr ⟨ne_a hA (t:=5) (by decide) ⟨cur,hi⟩,by simp⟩,fun k hk => ?_⟩
  rw [show (⟨g,0 + k,none⟩:Addr)=⟨g,k,none⟩ by rw [Nat.zero_add]]
  exact h.cell hk
theorem StepsAt.later {w w2:World}{base a sp sb:Nat}{S:List Stp}(h:StepsAt w base a sp sb S)(hb:Below w.heap.size w w2):StepsAt w2 base a sp sb S:=by
  obtain ⟨A,cap,h1,vs,h2,h3⟩:=h
  exact ⟨A,cap,h1.below hb h1.lt,vs,h2.later hb,fun k hk => by obtain ⟨v,q1,q2⟩:=h3 k hk; exact ⟨v,q1,q2.later hb⟩⟩
set_option maxRecDepth 100000 in
theorem empty_any (w:World):Calls Tryz.prog 115 #[] w fun e w' => (∃ A,e=.returned (.slice A 512 512) ∧ Mine w' w.heap.size A 512 Tx.zero) ∧ Below w.heap.size w w':=by
  go_enter Tryz.func115,Tryz.ntmps115
  go_wp2_with (refine wpList_make_u8 rfl _ _ rfl w.heap.size 512 rfl rfl (by decide) (Nat.le_refl _) ?_; intro w' hm hg; have HM:=Lib.hid hm; have HG:=Lib.hid hg; clear hm hg)
  go_ret
  exact ⟨⟨_,rfl,HM.out⟩,(Below.refl _ _).grown HG.out (Nat.le_refl _) (fun k hk => by cases hk)⟩
set_option maxRecDepth 100000 in
set_option maxHeartbeats 1600000 in
theorem shome_any (base a lb sp sb:Nat)(S:List Stp)(A:Option Addr)(cap:Nat)(ws:List (Nat × List UInt8))(w:World)(h:BlkRow w base a lb A cap ws)(hS:StepsAt w base a sp sb S)(hA:∃ cur,Is w a 72 cur)(hbs:base ≤ sb)(hss:sb ≤ sp)(hsw:sb ≤ w.heap.size)(hn:S.length ≤ 10000)(hn2:ws.length ≤ 10000)(has:a < sb) :
    Calls Tryz.prog 86 #[.pointer (some ⟨sp,0,none⟩),.slice A ws.length cap] w fun e w' => e=.returned (.tuple #[]) ∧ StepsAt w' base a sp sb (S ++ Tx.home ws) ∧ KT (some sp) sb stepT w w':=by
  have H:=Lib.hid h
  have HS:=Lib.hid hS
  have HA:=Lib.hid hA
  clear h hS hA
  go_enter Tryz.func86,Tryz.ntmps86
  go_wp2_with fail
  go_loopw [8] (fun u wr => ∃ k:Nat,k ≤ ws.length ∧ u=.int .i64 k ∧ StepsAt wr base a sp sb (S ++ (ws.take k).map some) ∧ KT (some sp) sb stepT w wr ∧ BlkRow wr base a lb A cap ws) (fun u _ => ws.length - (intOf u).toNat)
  case atStart => exact ⟨0,Nat.zero_le _,rfl,by simpa using HS.out,KT.refl _ _ _ _,H.out⟩
  case round =>
    obtain ⟨k,hk,rfl,hSt,hKT,hBl⟩:=hrel
    have HSt:=Lib.hid hSt
    have HKT:=Lib.hid hKT
    have HBl:=Lib.hid hBl
    obtain ⟨cur,hA⟩:=HA.out
    have hAr:∃ cur,Is wr a 72 cur:=⟨cur,hA.kt hKT (.inl has)⟩
    have HAr:=Lib.hid hAr
    have hsz:=hKT.size
    clear hSt hKT hBl hAr hA
    by_cases hlt:k < ws.length
    · have hk0 : (k:Int) < (ws.length:Int):=by omega
      have hk1:(0:Int) ≤ (k:Int):=by omega
      obtain ⟨g,B,c,rfl,c1,c2,hb5,hbuf⟩:=HBl.out.at_ hlt
      have HW:=Lib.hid (show S ++ (ws.take (k + 1)).map some=(S ++ (ws.take k).map some) ++ [some (ws[k].1,ws[k].2)] by rw [take_snoc ws k hlt,List.map_append,List.append_assoc]; rfl)
      have HSL:=Lib.hid (show (S ++ (ws.take k).map some).length ≤ 100000 by rw [List.length_append,List.length_map,List.length_take]; omega)
      obtain ⟨x,hx⟩:∃ x,ws[k].1=x:=⟨_,rfl⟩
      obtain ⟨b,hb⟩:∃ b,ws[k].2=b:=⟨_,rfl⟩
      rw [hx] at c1 HW
      rw [hb] at hb5 hbuf HW
      have HB5:=Lib.hid hb5
      have HBUF:=Lib.hid hbuf
      clear hx hb hb5 hbuf
      go_wp2_with (go_at_call 84
                   refine (swrite_any base a sp sb _ x B c b _ (HSt.out.later (below_new _ _)) (by obtain ⟨cur,hi⟩:=HAr.out; exact ⟨cur,hi.below (below_new _ _) hi.lt⟩) hbs hss (by rw [World.size_alloc]; omega) HSL.out HB5.out (HBUF.out.later (below_new _ _))).mono ?_
                   rintro e w9 ⟨rfl,hS9,hk9⟩
                   have HS9:=Lib.hid hS9
                   have HK9:=Lib.hid hk9
                   clear hS9 hk9)
      go_roundw
      case rel =>
        obtain ⟨A1,cap1,q1,_⟩:=HSt.out
        refine ⟨k + 1,by omega,by go_num,by rw [HW.out]; exact HS9.out,HKT.out.trans ((KT.of_below (below_new _ _) (Nat.le_refl _)).trans HK9.out),?_⟩
        exact (HBl.out.later (below_new _ _)).ktS (q1.below (below_new _ _) q1.lt) HK9.out hbs hss
      case measure => simp [intOf]; omega
    · obtain rfl:ws.length=k:=by omega
      have hall:ws.take ws.length=ws:=List.take_length
      rw [hall] at HSt
      have HL1:=Lib.hid (show (S ++ ws.map some).length ≤ 20000 by rw [List.length_append,List.length_map]; omega)
      have HL2:=Lib.hid (show (S ++ ws.map some ++ [none]).length ≤ 20001 by have:=HL1.out; rw [List.length_append]; simp only [List.length_singleton]; omega)
      have HL3:=Lib.hid (show (S ++ ws.map some ++ [none] ++ [some (1,Tx.zero)]).length ≤ 20002 by have:=HL2.out; rw [List.length_append]; simp only [List.length_singleton]; omega)
      go_wp2_with (first
        | (go_at_call 84
           refine (swrite_any base a sp sb _ 1 A5 512 Tx.zero _ (HS5.out.later HB6.out) HA6.out hbs hss HZ6.out (by have:=HL2.out; omega) (by simp [Tx.zero]) (Buf.of_mine HM6.out HA6.out)).mono ?_
           rintro e w7 ⟨rfl,hS7,hk7⟩
           have HS7:=Lib.hid hS7
           have HK7:=Lib.hid hk7
           clear hS7 hk7)
        | (go_at_call 85
           first
           | (refine (sflush_any base a sp sb _ _ HS7.out hbs hss (Nat.le_trans HZ6.out HK7.out.size) (by have:=HL3.out; omega)).mono ?_
              rintro e w8 ⟨rfl,hS8,hk8⟩
              have HS8:=Lib.hid hS8
              have HK8:=Lib.hid hk8
              clear hS8 hk8)
           | (refine (sflush_any base a sp sb _ _ HSt.out hbs hss (Nat.le_trans hsw hsz) (by have:=HL1.out; omega)).mono ?_
              rintro e w5 ⟨rfl,hS5,hk5⟩
              have HS5:=Lib.hid hS5
              have HK5:=Lib.hid hk5
              clear hS5 hk5))
        | (go_at_call 115
           refine (empty_any _).mono ?_
           rintro e w6 ⟨⟨A5,rfl,hM6⟩,hb6⟩
           have HM6:=Lib.hid hM6
           have HB6:=Lib.hid hb6
           have HZ6:=Lib.hid (show sb ≤ w6.heap.size from Nat.le_trans (Nat.le_trans (Nat.le_trans hsw hsz) HK5.out.size) hb6.size)
           have HA6:=Lib.hid (show ∃ cur,Is w6 a 72 cur by obtain ⟨cur,hi⟩:=HAr.out; have q:=hi.kt HK5.out (.inl has); exact ⟨cur,q.below hb6 q.lt⟩)
           clear hM6 hb6))
      go_end0
      refine ⟨rfl,?_,HKT.out.trans (HK5.out.trans ((KT.of_below HB6.out (Nat.le_refl _)).trans (HK7.out.trans HK8.out)))⟩
      have e:S ++ Tx.home ws=S ++ ws.map some ++ [none] ++ [some (1,Tx.zero)] ++ [none]:=by unfold Tx.home Dk.phase; simp
      rw [e]
      exact HS8.out
end Go.Proofs.YthkijogloebdoaaGreatDoor
end
section
namespace Go.Proofs.YthkijogloebdoaaGreatDoor
open Go.RowKit
def HalfAt (w:World):Prop := ∀ i,i < 16 → w.cell? ⟨1,i,none⟩=some (.int .u32 (n32 (Crc.half i)))
theorem HalfAt.lt {w:World}(h:HalfAt w):1 < w.heap.size:=block_lt_of_cell (h 0 (by decide))
theorem HalfAt.below {B:Nat}{w w':World}(h:HalfAt w)(hb:Below B w w')(hB:1 < B):HalfAt w':=fun i hi => (hb.cell (p:=⟨1,i,none⟩) hB).trans (h i hi)
attribute [local go_sem] u32_wrap8 u32_wrap32 u32_xor u32_xor8 u32_and15 u32_quart u32_max u32_signed u32_not Crc.half_low Crc.step_lay
set_option maxHeartbeats 400000 in
theorem step_any (v:BitVec 32)(b:UInt8)(w:World)(hw:HalfAt w) :
    Calls Tryz.prog 162 #[.int .u32 (n32 v),.int .u8 (n8 b)] w fun e w' => e=.returned (.int .u32 (n32 (Crc.step v b))) ∧ w=w':=by
  have l1:=Crc.low4_lt (Crc.lay v b)
  have h1:=hw _ l1
  have l2:=Crc.low4_lt (Crc.ones 4 (Crc.lay v b))
  have h2:=hw _ l2
  clear hw
  go_enter Tryz.func162,Tryz.ntmps162
  go_wp2_with fail
  go_ret
  exact ⟨rfl,rfl⟩
theorem n32_all:(4294967295:Int)=n32 (Crc.start):=by decide
set_option maxHeartbeats 400000 in
theorem of_any (A:Option Addr)(cap:Nat)(l:List UInt8)(w:World)(hw:HalfAt w)(hl:Bytes w A l)(hm:l.length ≤ 9223372036854775807) :
    Calls Tryz.prog 150 #[.slice A l.length cap] w fun e w' => e=.returned (.int .u32 (n32 (Crc.crc l))) ∧ w=w':=by
  go_enter Tryz.func150,Tryz.ntmps150
  go_wp2_with fail
  go_loop [3,8] (fun v i => ∃ k:Nat,k ≤ l.length ∧ i=.int .i64 k ∧ v=.int .u32 (n32 (Crc.row (Crc.start) (l.take k)))) (fun _ i => l.length - (intOf i).toNat)
  case atStart => exact ⟨0,Nat.zero_le _,rfl,by rw [n32_all]; rfl⟩
  case round =>
    obtain ⟨k,hk,rfl,rfl⟩:=hrel
    by_cases hlt:k < l.length
    · obtain ⟨b,off,rfl,hc⟩:=hl.at_ hlt
      go_wp2_with (go_at_call 162; refine (step_any _ _ _ hw).mono ?_; rintro e w' ⟨rfl,rfl⟩)
      go_round
      case rel => exact ⟨k + 1,by omega,by go_num,by rw [take_snoc l k hlt,Crc.row_snoc]⟩
      case measure => simp [intOf]; omega
    · go_wp2_with fail
      go_ret
      exact ⟨ret_int (by rw [List.take_of_length_le (by omega)]; rfl),rfl⟩
set_option maxHeartbeats 400000 in
theorem times_any (b:Nat)(m:Nat → BitVec 32)(v:BitVec 32)(w:World)(hc:∀ i,i < 32 → w.cell? ⟨b,i,none⟩=some (.int .u32 (n32 (m i)))) :
    Calls Tryz.prog 166 #[.pointer (some ⟨b,0,none⟩),.int .u32 (n32 v)] w fun e w' => e=.returned (.int .u32 (n32 (Crc.app m v 32))) ∧ w=w':=by
  have HC:=Lib.hid hc
  clear hc
  go_enter Tryz.func166,Tryz.ntmps166
  go_wp2_with fail
  go_loop [1,5,6] (fun x r i => ∃ k:Nat,k ≤ 32 ∧ i=.int .i64 k ∧ x=.int .u32 (n32 (Crc.shrk v k)) ∧ r=.int .u32 (n32 (Crc.app m v k))) (fun _ _ i => 32 - (intOf i).toNat)
  case atStart => exact ⟨0,by omega,rfl,by rw [Crc.shrk_zero],rfl⟩
  case round =>
    obtain ⟨k,hk,rfl,rfl,rfl⟩:=hrel
    by_cases hz:Crc.shrk v k=0#32
    · have h0:=n32_eq0 _ hz
      have HZ:=Lib.hid hz
      clear hz
      go_wp2_with fail
      go_ret
      exact ⟨ret_int (by rw [Crc.shrk_done v k HZ.out m hk]),rfl⟩
    · have hlt:k < 32:=by
        refine Nat.lt_of_le_of_ne hk (fun e => hz ?_)
        rw [e,Crc.shrk_32]
      have h0:=n32_ne0 _ hz
      have h1:=HC.out k hlt
      have hs:=u32_shrk v k
      cases hb:Crc.bit v k
      · have h2:=u32_bit0 v k hb
        have HB:=Lib.hid hb
        clear hb hz
        go_wp2_with fail
        go_round
        case rel => exact ⟨k + 1,by omega,by go_num,rfl,by rw [Crc.app_no m v k HB.out]⟩
        case measure => simp [intOf]; omega
      · have h2:=u32_bit1 v k hb
        have HB:=Lib.hid hb
        clear hb hz
        go_wp2_with fail
        go_round
        case rel => exact ⟨k + 1,by omega,by go_num,rfl,by rw [Crc.app_yes m v k HB.out]⟩
        case measure => simp [intOf]; omega
def mats (m:Nat → BitVec 32):Array Value:=((List.range 32).map fun i => Value.int .u32 (n32 (m i))).toArray
theorem mats_size (m:Nat → BitVec 32):(mats m).size=32:=by simp [mats]
theorem mats_at (m:Nat → BitVec 32)(i:Nat)(h:i < 32):(mats m)[i]? = some (.int .u32 (n32 (m i))):=by simp [mats,h]
theorem mats_put (m:Nat → BitVec 32)(i:Nat)(v:BitVec 32)(h:i < 32):(mats m).setIfInBounds i (.int .u32 (n32 v))=mats (fun j => if j=i then v else m j):=by
  apply Array.ext_getElem?
  intro j
  rw [Array.getElem?_setIfInBounds]
  by_cases hj:j < 32
  · rw [mats_at _ j hj,mats_at _ j hj]
    by_cases e:i=j
    · subst e; simp [mats_size,hj]
    · rw [if_neg e,if_neg (fun x => e x.symm)]
  · rw [Array.getElem?_eq_none (by rw [mats_size]; omega),Array.getElem?_eq_none (by rw [mats_size]; omega)]
    split <;> simp [mats_size]; omega
theorem mats_congr {m m':Nat → BitVec 32}(h:∀ i,i < 32 → m i=m' i):mats m=mats m':=by
  unfold mats
  congr 1
  apply List.map_congr_left
  intro i hi
  rw [h i (by simpa using hi)]
theorem mats_one (m:Nat → BitVec 32):(mats m).all (·.oneCell')=true:=by
  rw [Array.all_eq_true]
  intro i hi
  rw [mats_size] at hi
  have:=mats_at m i hi
  rw [Array.getElem?_eq_getElem (by rw [mats_size]; exact hi)] at this
  injection this with this
  rw [this]; rfl
theorem mats_start (f:Nat → BitVec 32):mats (fun i => if i < 0 then f i else 0#32)=mats (fun _ => 0#32):=mats_congr (by simp)
theorem mats_step (f:Nat → BitVec 32)(k:Nat):mats (fun j => if j=k then f k else if j < k then f j else 0#32)=mats (fun i => if i < k + 1 then f i else 0#32):=by
  apply mats_congr
  intro i _
  by_cases e:i=k
  · subst e; simp
  · simp only [e,if_false]
    by_cases h:i < k
    · rw [if_pos h,if_pos (by omega)]
    · rw [if_neg h,if_neg (by omega)]
theorem mats_all (f:Nat → BitVec 32):mats (fun i => if i < 32 then f i else 0#32)=mats f:=mats_congr (fun i h => by simp [h])
theorem size51:(Tryz.prog.info? 241).map (·.size)=some 32:=by kernel_rfl
set_option maxHeartbeats 800000 in
theorem square_any (b:Nat)(m:Nat → BitVec 32)(w:World)(hb:b < w.heap.size)(hc:∀ i,i < 32 → w.cell? ⟨b,i,none⟩=some (.int .u32 (n32 (m i)))) :
    Calls Tryz.prog 167 #[.pointer (some ⟨b,0,none⟩)] w fun e w' => e=.returned (.agg (mats fun i => Crc.app m (m i) 32)) ∧ Below w.heap.size w w':=by
  have HC:=Lib.hid hc
  clear hc
  go_enter Tryz.func167,Tryz.ntmps167
  go_wp2_with fail
  go_loopw [4,5] (fun _ i wr => ∃ k:Nat,k ≤ 32 ∧ i=.int .i64 k ∧ Below w.heap.size w wr ∧ (∃ z,z.size=32 ∧ Is wr w.heap.size 241 z) ∧ Is wr (w.heap.size + 1) 241 (mats fun i => if i < k then Crc.app m (m i) 32 else 0#32))
    (fun _ i _ => 32 - (intOf i).toNat)
  case atStart =>
    have h:=two_new w (mats fun _ => 0#32) (mats fun _ => 0#32) 241 241
    exact ⟨0,by omega,rfl,h.1,⟨_,rfl,h.2.1⟩,by rw [mats_start]; exact h.2.2⟩
  case round =>
    obtain ⟨k,hk,rfl,hB,⟨z,hz,hZ⟩,hM⟩:=hrel
    have hcr:∀ i,i < 32 → wr.cell? ⟨b,i,none⟩=some (.int .u32 (n32 (m i))):=fun i hi => (hB.cell (p:=⟨b,i,none⟩) hb).trans (HC.out i hi)
    by_cases hlt:k < 32
    · have h1:=hcr k hlt
      have HR:=Lib.hid hcr
      clear hcr
      have h2:=hM.cell k
      rw [mats_at _ k hlt] at h2
      have h3:=hM.free k
      go_wp2_with (go_at_call 166; refine (times_any _ m _ _ HR.out).mono ?_; rintro e w' ⟨rfl,rfl⟩)
      go_roundw
      case rel =>
        refine ⟨k + 1,by omega,by go_num,hB.setCell (by show w.heap.size ≤ w.heap.size + 1; omega) _,⟨z,hz,hZ.other _ (by simp) _⟩,?_⟩
        have h4:=hM.put k (.int .u32 (n32 (Crc.app m (m k) 32)))
        rw [mats_put _ _ _ hlt,mats_step (fun i => Crc.app m (m i) 32)] at h4
        exact h4
      case measure => simp [intOf]; omega
    · obtain rfl:k=32:=by omega
      rw [mats_all] at hM
      go_wp2_with (first
        | (refine wpList_load_row rfl 241 (.tmp 3) rfl (w.heap.size + 1) rfl _ _ _ _ hM Tryz.underlying241 rfl (size51.trans (by rw [mats_size])) ?_)
        | (refine wpList_store_row rfl 241 (.tmp 2) (.tmp 18) rfl w.heap.size (mats _) rfl rfl _ _ hZ (size51.trans (by rw [mats_size])) (hz.trans (mats_size _).symm) (mats_one _) ?_))
      refine bodyPost_ret (results_cell_row rfl _ _ w.heap.size _ _ _ _ rfl (hZ.row _) Tryz.underlying241 rfl (size51.trans (by rw [mats_size]))) rfl ?_
      exact ⟨rfl,below_setRow hB (Nat.le_refl _) _⟩
theorem step0_any (v:BitVec 32)(w:World)(hw:HalfAt w) :
    Calls Tryz.prog 162 #[.int .u32 (n32 v),.int .u8 0] w fun e w' => e=.returned (.int .u32 (n32 (Crc.step v 0))) ∧ w=w':=step_any v 0 w hw
set_option maxHeartbeats 800000 in
theorem behind_any (v:BitVec 32)(n:Nat)(w:World)(hw:HalfAt w)(hn:n ≤ 1099511627776) :
    Calls Tryz.prog 163 #[.int .u32 (n32 v),.int .i64 (n:Int)] w fun e w' => e=.returned (.int .u32 (n32 (Crc.zeros n v))) ∧ Below w.heap.size w w':=by
  have hG:=hw.lt
  have HW:=Lib.hid hw
  clear hw
  go_enter Tryz.func163,Tryz.ntmps163
  go_wp2_with fail
  go_loopw [6,7] (fun _ i wr => ∃ k:Nat,k ≤ 32 ∧ i=.int .i64 k ∧ Below w.heap.size w wr ∧ w.heap.size < wr.heap.size ∧ Is wr w.heap.size 241 (mats fun i => if i < k then Crc.step (Crc.unit i) 0 else 0#32))
    (fun _ i _ => 32 - (intOf i).toNat)
  case atStart =>
    have h:=one_new w (mats fun _ => 0#32) 241
    exact ⟨0,by omega,rfl,h.1,by simp,by rw [mats_start]; exact h.2⟩
  case round =>
    obtain ⟨k,hk,rfl,hB,hsz,hM⟩:=hrel
    by_cases hlt:k < 32
    · have h2:=hM.cell k
      rw [mats_at _ k hlt] at h2
      have h3:=hM.free k
      have h4:=u32_one_shl k hlt
      have HWR:=Lib.hid (HW.out.below hB hG)
      go_wp2_with (go_at_call 162; refine (step0_any _ _ HWR.out).mono ?_; rintro e w' ⟨rfl,rfl⟩)
      go_roundw
      case rel =>
        refine ⟨k + 1,by omega,by go_num,hB.setCell (Nat.le_refl _) _,by simpa using hsz,?_⟩
        have h5:=hM.put k (.int .u32 (n32 (Crc.step (Crc.unit k) 0)))
        rw [mats_put _ _ _ hlt,mats_step (fun i => Crc.step (Crc.unit i) 0)] at h5
        exact h5
      case measure => simp [intOf]; omega
    · have hM : Is wr w.heap.size 241 (mats (Crc.mat 1)):=by
        have e:k=32:=by omega
        rw [e,mats_all,mats_congr (fun i _ => (Crc.mat_one i).symm)] at hM
        exact hM
      obtain ⟨wo,rfl⟩:∃ wo:World,wo=wr:=⟨_,rfl⟩
      go_wp2_with fail
      go_loopw [0,1] (fun x i wr => ∃ (q c:Nat) (y:BitVec 32),q ≤ n ∧ i=.int .i64 q ∧ x=.int .u32 (n32 y) ∧ Crc.zeros (q * c) y=Crc.zeros n v ∧ Below w.heap.size w wr ∧ w.heap.size < wr.heap.size ∧ Is wr w.heap.size 241 (mats (Crc.mat c)))
        (fun _ i _ => (intOf i).toNat)
      case atStart => exact ⟨n,1,v,Nat.le_refl _,rfl,rfl,by rw [Nat.mul_one],hB,hsz,hM⟩
      case round =>
        obtain ⟨q,c,y,hq,rfl,rfl,hz,hB,hsz,hM⟩:=hrel
        have HZ:=Lib.hid hz
        clear hz
        by_cases h0:0 < q
        · have hcr:∀ i,i < 32 → wr.cell? ⟨w.heap.size,i,none⟩=some (.int .u32 (n32 (Crc.mat c i))):=fun i hi => by rw [hM.cell,mats_at _ i hi]
          have HR:=Lib.hid hcr
          clear hcr
          have ha:=i64_and1 q (by omega)
          have sq:=mats_congr (m:=fun i => Crc.app (Crc.mat c) (Crc.mat c i) 32) (m':=Crc.mat (c + c)) (fun i _ => Crc.mat_square c i)
          have SQ:=Lib.hid sq
          clear sq
          by_cases hodd:q % 2=1
          · rw [hodd] at ha
            have HO:=Lib.hid hodd
            clear hodd
            go_wp2_with (first
              | (go_at_call 166; refine (times_any _ (Crc.mat c) _ _ HR.out).mono ?_; rintro e w' ⟨rfl,rfl⟩)
              | (go_at_call 167; refine (square_any _ (Crc.mat c) _ hsz HR.out).mono ?_; rintro e w' ⟨rfl,hb2⟩; have hM2:=hM.below hb2 hsz; rw [SQ.out])
              | (refine wpList_store_row rfl 241 (.tmp 5) (.tmp 25) rfl w.heap.size (mats _) rfl rfl _ _ hM2 (size51.trans (by rw [mats_size])) (by rw [mats_size,mats_size]) (mats_one _) ?_))
            go_roundw
            case rel => exact ⟨q / 2,c + c,Crc.zeros c y,by omega,by go_num,by rw [Crc.app_mat],(Crc.zeros_odd q c y HO.out).trans HZ.out,below_setRow (hB.trans (hb2.mono (by omega))) (Nat.le_refl _) _,by have:=hb2.size; simp; omega,hM2.row _⟩
            case measure => simp [intOf]; omega
          · have he:q % 2=0:=by omega
            rw [he] at ha
            have HO:=Lib.hid he
            clear hodd he
            go_wp2_with (first
              | (go_at_call 167; refine (square_any _ (Crc.mat c) _ hsz HR.out).mono ?_; rintro e w' ⟨rfl,hb2⟩; have hM2:=hM.below hb2 hsz; rw [SQ.out])
              | (refine wpList_store_row rfl 241 (.tmp 5) (.tmp 25) rfl w.heap.size (mats _) rfl rfl _ _ hM2 (size51.trans (by rw [mats_size])) (by rw [mats_size,mats_size]) (mats_one _) ?_))
            go_roundw
            case rel => exact ⟨q / 2,c + c,y,by omega,by go_num,rfl,(Crc.zeros_even q c y HO.out).trans HZ.out,below_setRow (hB.trans (hb2.mono (by omega))) (Nat.le_refl _) _,by have:=hb2.size; simp; omega,hM2.row _⟩
            case measure => simp [intOf]; omega
        · obtain rfl:q=0:=by omega
          go_wp2_with fail
          go_ret
          have hz:=HZ.out
          rw [Nat.zero_mul] at hz
          exact ⟨ret_int (by rw [← hz]; rfl),hB⟩
set_option maxHeartbeats 400000 in
theorem join_ok (a b:BitVec 32)(n:Nat)(w:World)(hw:HalfAt w)(hn:n ≤ 1099511627776) :
    Calls Tryz.prog 151 #[.int .u32 (n32 a),.int .u32 (n32 b),.int .i64 (n:Int)] w fun e w' =>
      e=.returned (.tuple #[.int .u32 (n32 (Crc.zeros n a ^^^ b)),.int .i64 0]) ∧ Below w.heap.size w w':=by
  have HW:=Lib.hid hw
  clear hw
  have h1:¬ (n:Int) < 0:=by omega
  have h2:¬ 1099511627776 < (n:Int):=by omega
  go_enter Tryz.func151,Tryz.ntmps151
  go_wp2_with (go_at_call 163; refine (behind_any _ _ _ HW.out hn).mono ?_; rintro e w' ⟨rfl,hb⟩)
  go_ret2
  exact ⟨rfl,hb⟩
end Go.Proofs.YthkijogloebdoaaGreatDoor
end
section
namespace Go.Proofs.YthkijogloebdoaaGreatDoor
open Go.RowKit Rec
def DataRow (w:World)(base a db:Nat)(A:Option Addr)(cap:Nat)(data:List (List UInt8)):Prop :=
  ∃ cs,Own w db 28 1 A data.length cap cs ∧ ∀ k (h:k < data.length),∃ B c,cs[k]? = some (.slice B 512 c) ∧ data[k].length=512 ∧ Buf w base (some a) B data[k]
theorem DataRow.later {w w2:World}{base a db cap:Nat}{A:Option Addr}{data:List (List UInt8)}(h:DataRow w base a db A cap data)(hb:Below w.heap.size w w2):DataRow w2 base a db A cap data:=by
  obtain ⟨cs,hO,hc⟩:=h
  refine ⟨cs,hO.later hb,fun k hk => ?_⟩
  obtain ⟨B,c,h1,h2,h3⟩:=hc k hk
  exact ⟨B,c,h1,h2,h3.later hb⟩
theorem DataRow.at_ {w:World}{base a db cap:Nat}{A:Option Addr}{data:List (List UInt8)}(h:DataRow w base a db A cap data){k:Nat}(hk:k < data.length) :
    ∃ g B c,A=some ⟨g,0,none⟩ ∧ w.cell? ⟨g,k,none⟩=some (.slice B 512 c) ∧ data[k].length=512 ∧ Buf w base (some a) B data[k]:=by
  obtain ⟨cs,hO,hc⟩:=h
  obtain ⟨B,c,h1,h2,h3⟩:=hc k hk
  obtain ⟨g,rfl,hcell⟩:=hO.at1 hk h1
  exact ⟨g,B,c,rfl,hcell,h2,h3⟩
structure RiseN (n:Nat)(nums:List Nat):Prop where
  one:1 ≤ nums.length
  few:nums.length ≤ 96
  low:∀ k (h:k < nums.length),98 ≤ nums[k] ∧ nums[k] < n
  up:∀ k (h:k + 1 < nums.length),nums[k] < nums[k + 1]
def prevN (nums:List Nat):Nat → Nat
  | 0 => 97
  | k + 1 => nums.getD k 0
theorem RiseN.prev {n:Nat}{nums:List Nat}(h:RiseN n nums){k:Nat}(hk:k < nums.length):prevN nums k < nums[k]:=by
  cases k with
  | zero => have:=(h.low 0 hk).1; show 97 < _; omega
  | succ k =>
    show nums.getD k 0 < _
    rw [List.getD_eq_getElem?_getD,List.getElem?_eq_getElem (by omega)]
    exact h.up k hk
theorem prevN_succ (nums:List Nat)(k:Nat)(hk:k < nums.length):prevN nums (k + 1)=nums[k]:=by
  show nums.getD k 0=_
  rw [List.getD_eq_getElem?_getD,List.getElem?_eq_getElem hk]; rfl
abbrev ints (nums:List Nat):List Int:=List.map (fun (i:Nat) => ((i:Nat):Int)) nums
theorem ints_len (nums:List Nat):(ints nums).length=nums.length:=by simp [ints]
theorem nums_at {w:World}{base cap:Nat}{A:Option Addr}{nums:List Nat}(h:Nums w base A cap (ints nums)){k:Nat}(hk:k < nums.length):∃ g,A=some ⟨g,0,none⟩ ∧ w.cell? ⟨g,k,none⟩=some (.int .i64 (nums[k]:Int)):=by
  obtain ⟨g,h1,h2⟩:=h.cell (k:=k) (by rw [ints_len]; exact hk)
  exact ⟨g,h1,by rw [h2]; simp [ints]⟩
set_option maxHeartbeats 800000 in
theorem hmay1_any (bl bn last n i:Nat)(w:World)(h1:Is w bl 3 #[.int .i64 (last:Int)])(h2:Is w bn 3 #[.int .i64 (n:Int)])(hlt:last < i)(hin:i < n)(hne:bl ≠ bn) :
    Calls Tryz.prog 147 #[.int .i64 (i:Int),.pointer (some ⟨bl,0,none⟩),.pointer (some ⟨bn,0,none⟩)] w fun e w' => e=.returned (.bool false) ∧ w'=w.setCell ⟨bl,0,none⟩ (.int .i64 (i:Int)):=by
  have c1:w.cell? ⟨bl,0,none⟩=some (.int .i64 (last:Int)):=h1.cell 0
  have f1:=h1.free 0
  have c2:w.cell? ⟨bn,0,none⟩=some (.int .i64 (n:Int)):=h2.cell 0
  have c2':(w.setCell ⟨bl,0,none⟩ (.int .i64 (i:Int))).cell? ⟨bn,0,none⟩=some (.int .i64 (n:Int)):=(World.cell?_of_block (a:=⟨bn,0,none⟩) (heap_setCell_other w ⟨bl,0,none⟩ bn _ (fun e => hne e.symm))).trans c2
  have h3:(last:Int) < (i:Int):=by omega
  have h4:(i:Int) < (n:Int):=by omega
  clear h1 h2 hlt hin hne
  go_enter Tryz.func147,Tryz.ntmps147
  go_wp2_with fail
  go_ret
  exact ⟨by show Ending.returned (.bool (decide (i ≤ last) || decide (n ≤ i)))=_; rw [decide_eq_false (by omega),decide_eq_false (by omega)]; rfl,rfl⟩
set_option maxHeartbeats 1600000 in
theorem hmay_any (nb n:Nat)(A:Option Addr)(cap:Nat)(nums:List Nat)(w:World)(h:Nums w nb A cap (ints nums))(hr:RiseN n nums) :
    Calls Tryz.prog 113 #[.slice A nums.length cap,.int .i64 (n:Int)] w fun e w' => e=.returned (.bool true) ∧ Below w.heap.size w w':=by
  have H:=Lib.hid h
  have HR:=Lib.hid hr
  have hlen:=hr.few
  have hone:=hr.one
  obtain ⟨hb2,j1,j2⟩:=two_new w #[.int .i64 (n:Int)] #[.int .i64 97] 3 3
  clear h hr
  go_enter Tryz.func113,Tryz.ntmps113
  go_wp2_with fail
  go_loopw [12] (fun u wr => ∃ k:Nat,k ≤ nums.length ∧ u=.int .i64 k ∧ Below w.heap.size w wr ∧ Is wr w.heap.size 3 #[.int .i64 (n:Int)] ∧ Is wr (w.heap.size + 1) 3 #[.int .i64 (prevN nums k:Nat)]) (fun u _ => nums.length - (intOf u).toNat)
  case atStart => exact ⟨0,Nat.zero_le _,rfl,hb2,j1,j2⟩
  case round =>
    obtain ⟨k,hk,rfl,hb,q1,q2⟩:=hrel
    have HB:=Lib.hid hb
    have Q1:=Lib.hid q1
    have Q2:=Lib.hid q2
    clear hb q1 q2
    by_cases hlt:k < nums.length
    · have hk0 : (k:Int) < (nums.length:Int):=by omega
      have hk1:(0:Int) ≤ (k:Int):=by omega
      obtain ⟨g,rfl,c1⟩:=nums_at (H.out.later HB.out) hlt
      have hp:=HR.out.prev hlt
      have hl:=(HR.out.low k hlt).2
      have hs:=prevN_succ nums k hlt
      obtain ⟨x,hx⟩:∃ x,nums[k]=x:=⟨_,rfl⟩
      obtain ⟨p,hp'⟩:∃ p,prevN nums k=p:=⟨_,rfl⟩
      rw [hx] at hp hl hs c1
      rw [hp'] at hp Q2
      have HS:=Lib.hid hs
      have HP:=Lib.hid hp
      have HL:=Lib.hid hl
      clear hs hx hp' hp hl
      go_wp2_with (go_at_call 147
                   refine (hmay1_any (w.heap.size + 1) w.heap.size p n x wr Q2.out Q1.out HP.out HL.out (by omega)).mono ?_
                   rintro e w9 ⟨rfl,rfl⟩)
      go_roundw
      case rel =>
        refine ⟨k + 1,by omega,by go_num,HB.out.setCell (p:=⟨w.heap.size + 1,0,none⟩) (Nat.le_succ _) _,?_,?_⟩
        · exact (heap_setCell_other wr ⟨w.heap.size + 1,0,none⟩ w.heap.size _ (by show w.heap.size ≠ w.heap.size + 1; omega)).trans Q1.out
        · rw [HS.out]; exact Q2.out.put 0 _
      case measure => simp [intOf]; omega
    · obtain rfl:nums.length=k:=by omega
      have e1:(1:Int) ≤ (nums.length:Int):=by omega
      have e2:(nums.length:Int) ≤ 96:=by omega
      go_wp2_with fail
      go_ret
      exact ⟨rfl,HB.out⟩
end Go.Proofs.YthkijogloebdoaaGreatDoor
namespace Go.Proofs.YthkijogloebdoaaGreatDoor
open Go.RowKit Rec
set_option maxHeartbeats 1600000 in
theorem are_any (base a db:Nat)(A:Option Addr)(cap:Nat)(data:List (List UInt8))(n:Nat)(w:World)(h:DataRow w base a db A cap data)(hn:data.length=n)(hm:n ≤ 1000000) :
    Calls Tryz.prog 114 #[.slice A n cap,.int .i64 (n:Int)] w fun e w' => e=.returned (.bool true) ∧ w=w':=by
  subst hn
  have H:=Lib.hid h
  clear h
  go_enter Tryz.func114,Tryz.ntmps114
  go_wp2_with fail
  go_loop [9] (fun u => ∃ k:Nat,k ≤ data.length ∧ u=.int .i64 k) (fun u => data.length - (intOf u).toNat)
  case atStart => exact ⟨0,Nat.zero_le _,rfl⟩
  case round =>
    obtain ⟨k,hk,rfl⟩:=hrel
    by_cases hlt:k < data.length
    · have hk0:(k:Int) < (data.length:Int):=by omega
      have hk1:(0:Int) ≤ (k:Int):=by omega
      obtain ⟨g,B,c,rfl,c1,_,_⟩:=H.out.at_ hlt
      go_wp2_with fail
      go_round
      case rel => exact ⟨k + 1,by omega,by go_num⟩
      case measure => simp [intOf]; omega
    · obtain rfl:data.length=k:=by omega
      go_wp2_with fail
      go_ret
      exact ⟨by first | rfl | (simp),rfl⟩
theorem of_to (A:Option Addr)(cap:Nat)(l:List UInt8)(len:Nat)(hlen:l.length=len)(w:World)(hw:HalfAt w)(hl:Bytes w A l)(hm:len ≤ 9223372036854775807) :
    Calls Tryz.prog 150 #[.slice A len cap] w fun e w' => e=.returned (.int .u32 (n32 (Crc.crc l))) ∧ w=w':=by
  subst hlen
  exact of_any A cap l w hw hl hm
theorem sumS_next (h:List UInt8)(data:List (List UInt8))(k:Nat)(hk:k < data.length)(h5:data[k].length=512):Hd.sumS h (data.take (k + 1))=Crc.zeros 512 (Hd.sumS h (data.take k)) ^^^ Crc.crc data[k]:=by
  rw [take_snoc data k hk]
  unfold Hd.sumS
  rw [List.foldl_append]
  show Crc.zeros data[k].length _ ^^^ _=_
  rw [h5]
set_option maxHeartbeats 1600000 in
theorem sumOf_any (base a db:Nat)(H0:Option Addr)(hc:Nat)(hb h2:List UInt8)(A:Option Addr)(cap:Nat)(data:List (List UInt8))(n:Nat)(w:World)(h:DataRow w base a db A cap data)(hn:data.length=n)(hm:n ≤ 1000000)
    (hw:WidthsAt w)(hh:HalfAt w)(h5:hb.length=512)(hby:Bytes w H0 hb)(hp:putE hb.length 12 4 0=0 ∧ putL hb 12 4 0=h2)(h25:h2.length=512) :
    Calls Tryz.prog 117 #[.slice H0 512 hc,.slice A n cap] w fun e w' => e=.returned (.int .u32 (n32 (Hd.sumS h2 data))) ∧ Below w.heap.size w w':=by
  subst hn
  have hA:H0 ≠ none:=by
    obtain ⟨b,off,rfl,_⟩:=hby.at_ (k:=0) (by omega)
    simp
  have HD:=Lib.hid h
  have HW:=Lib.hid hw
  have HH:=Lib.hid hh
  have H5:=Lib.hid h5
  have H25:=Lib.hid h25
  have HBY:=Lib.hid hby
  have HP:=Lib.hid hp
  have HA:=Lib.hid hA
  clear h hw hh h5 hby hp h25 hA
  go_enter Tryz.func117,Tryz.ntmps117
  go_wp2_with (first
    | (go_at_call 149
       refine (bclone_any H0 512 hc hb H5.out w HBY.out (fun e => absurd e HA.out) HA.out (by decide)).mono ?_
       rintro e w1 ⟨⟨A2,c2,rfl,hM⟩,hb1⟩
       have HM:=Lib.hid hM
       have HB1:=Lib.hid hb1
       have HW1:=Lib.hid (HW.out.below hb1 HW.out.lt)
       clear hM hb1)
    | (go_at_call 94
       refine (put_to w.heap.size A2 c2 hb 512 H5.out 12 4 0 0 h2 HP.out.1 HP.out.2 w1 HW1.out HM.out (by decide) (by decide) (by decide) (by decide)).mono ?_
       rintro e w2 ⟨rfl,hM2,hK2⟩
       have HM2:=Lib.hid hM2
       have HB2:=Lib.hid (show Below w.heap.size w w2 from HB1.out.trans (hK2.below HB1.out.size (fun i hi => HM.out.of_ge i hi)))
       clear hM2 hK2)
    | (go_at_call 150
       refine (of_to A2 c2 h2 512 H25.out w2 (HH.out.below HB2.out HH.out.lt) HM2.out.bytes (by decide)).mono ?_
       rintro e w3 ⟨rfl,rfl⟩))
  have HH2:=Lib.hid (HH.out.below HB2.out HH.out.lt)
  go_loopw [6,17] (fun v u wr => ∃ k:Nat,k ≤ data.length ∧ u=.int .i64 k ∧ v=.int .u32 (n32 (Hd.sumS h2 (data.take k))) ∧ Below w.heap.size w wr) (fun v u _ => data.length - (intOf u).toNat)
  case atStart => exact ⟨0,Nat.zero_le _,rfl,rfl,HB2.out⟩
  case round =>
    obtain ⟨k,hk,rfl,rfl,hb⟩:=hrel
    have HB:=Lib.hid hb
    clear hb
    by_cases hlt:k < data.length
    · have hk0:(k:Int) < (data.length:Int):=by omega
      have hk1:(0:Int) ≤ (k:Int):=by omega
      obtain ⟨g,B,c,rfl,c1,hx5,hbuf⟩:=(HD.out.later HB.out).at_ hlt
      have hnx:=sumS_next h2 data k hlt hx5
      obtain ⟨x,hx⟩:∃ x,data[k]=x:=⟨_,rfl⟩
      rw [hx] at hx5 hbuf hnx
      have HX5:=Lib.hid hx5
      have HBF:=Lib.hid hbuf.bytes
      have HNX:=Lib.hid hnx
      clear hx hx5 hbuf hnx
      go_wp2_with (first
        | (go_at_call 150
           refine (of_to B c x 512 HX5.out wr (HH.out.below HB.out HH.out.lt) HBF.out (by decide)).mono ?_
           rintro e w3 ⟨rfl,rfl⟩)
        | (go_at_call 151
           refine (join_ok (Hd.sumS h2 (data.take k)) (Crc.crc x) 512 wr (HH.out.below HB.out HH.out.lt) (by decide)).mono ?_
           rintro e w4 ⟨rfl,hb4⟩
           have HB4:=Lib.hid hb4
           clear hb4))
      go_roundw
      case rel => exact ⟨k + 1,by omega,by go_num,by rw [HNX.out],HB.out.trans (HB4.out.mono HB.out.size)⟩
      case measure => simp [intOf]; omega
    · obtain rfl:data.length=k:=by omega
      have hall:data.take data.length=data:=List.take_length
      rw [hall]
      go_wp2_with fail
      go_ret
      exact ⟨rfl,HB.out⟩
end Go.Proofs.YthkijogloebdoaaGreatDoor
end
section
namespace Go.Proofs.YthkijogloebdoaaGreatDoor
open Go.RowKit Rec
theorem put_num2 (n:Nat)(nums:List Nat)(k:Nat)(v:Nat)(hk:nums.length=k)(hk2:k < 96)(hv:v < 4294967296) :
    putE (Hd.st n nums).length (16 + 4 * (k:Int)) 4 v=0 ∧ putL (Hd.st n nums) (16 + 4 * (k:Int)) 4 v=Hd.st n (nums ++ [v]):=by
  subst hk
  have e:(16 + 4 * (nums.length:Int))=((16 + 4 * nums.length:Nat):Int):=by omega
  rw [e]
  exact Hd.put_num n nums v hk2 hv
theorem u64_n32 (s:BitVec 32):IntKind.u64.wrap (n32 s)=(s.toNat:Int):=by
  have h:=s.isLt
  unfold n32
  rw [show IntKind.u64.wrap (s.toNat:Int)=(s.toNat:Int) % 18446744073709551616 from rfl]
  omega
theorem zero_len:(Tx.zero).length=512:=by unfold Tx.zero; exact List.length_replicate
set_option maxRecDepth 100000 in
set_option maxHeartbeats 3200000 in
theorem make_any (base a db nb:Nat)(An:Option Addr)(cn:Nat)(nums:List Nat)(A:Option Addr)(cap:Nat)(data:List (List UInt8))(n:Nat)(w:World)(h:DataRow w base a db A cap data)(hn:data.length=n)(hN:Nums w nb An cn (ints nums))(hnn:nums.length=n)
    (hr:RiseN 16384 nums)(hw:WidthsAt w)(hh:HalfAt w) :
    Calls Tryz.prog 82 #[.slice An n cn,.slice A n cap] w fun e w' => (∃ B,e=.returned (.tuple #[.slice B 512 512,.int .i64 0]) ∧ Mine w' w.heap.size B 512 (Hd.made nums data)) ∧ Below w.heap.size w w':=by
  subst hnn
  have hone:=hr.one
  have hfew:=hr.few
  have HD:=Lib.hid h
  have HN:=Lib.hid hN
  have HNN:=Lib.hid hn
  have HR:=Lib.hid hr
  have HW:=Lib.hid hw
  have HH:=Lib.hid hh
  clear h hN hn hr hw hh
  go_enter Tryz.func82,Tryz.ntmps82
  go_wp2_with (first
    | (go_at_call 113
       refine (hmay_any nb 16384 An cn nums w HN.out HR.out).mono ?_
       rintro e w1 ⟨rfl,hb1⟩
       have HB1:=Lib.hid hb1
       clear hb1)
    | (go_at_call 114
       refine (are_any base a db A cap data nums.length w1 (HD.out.later HB1.out) HNN.out (by omega)).mono ?_
       rintro e w2 ⟨rfl,rfl⟩)
    | (go_at_call 115
       refine (empty_any w1).mono ?_
       rintro e w3 ⟨⟨B,rfl,hM⟩,hb3⟩
       have HM3:=Lib.hid (Mine.base_le hM HB1.out.size)
       have HB3:=Lib.hid (HB1.out.trans (hb3.mono HB1.out.size))
       clear hM hb3)
    | (go_at_call 116
       refine (putText_to w.heap.size B 512 Tx.zero 512 zero_len 0 8 Hd.magic 0 _ Hd.put_magic.1 Hd.put_magic.2 w3 HM3.out HB3.out.size (by decide) (by decide) (by decide) (by decide)).mono ?_
       rintro e w4 ⟨rfl,hM4,hk4⟩
       have HM4:=Lib.hid hM4
       have HB4:=Lib.hid (HB3.out.trans (hk4.below HB3.out.size (fun i hi => HM3.out.of_ge i hi)))
       clear hM4 hk4)
    | (go_at_call 94
       refine (put_to w.heap.size B 512 _ 512 (by simp [Hd.magic]) 8 2 nums.length 0 _ (Hd.put_many nums.length (by omega)).1 (Hd.put_many nums.length (by omega)).2 w4 (HW.out.below HB4.out HW.out.lt) HM4.out (by decide) (by decide) (by decide) (by omega)).mono ?_
       rintro e w5 ⟨rfl,hM5,hk5⟩
       have HM5:=Lib.hid hM5
       have HB5:=Lib.hid (HB4.out.trans (hk5.below HB4.out.size (fun i hi => HM4.out.of_ge i hi)))
       clear hM5 hk5))
  go_loopw [29] (fun u wr => ∃ k:Nat,k ≤ nums.length ∧ u=.int .i64 k ∧ Mine wr w.heap.size B 512 (Hd.st nums.length (nums.take k)) ∧ Below w.heap.size w wr) (fun u _ => nums.length - (intOf u).toNat)
  case atStart => exact ⟨0,Nat.zero_le _,rfl,HM5.out,HB5.out⟩
  case round =>
    obtain ⟨k,hk,rfl,hMr,hb⟩:=hrel
    have HMr:=Lib.hid hMr
    have HB:=Lib.hid hb
    clear hb hMr
    by_cases hlt:k < nums.length
    · have hk0 : (k:Int) < (nums.length:Int):=by omega
      have hk1:(0:Int) ≤ (k:Int):=by omega
      obtain ⟨g,rfl,c1⟩:=nums_at (HN.out.later HB.out) hlt
      have hl:=(HR.out.low k hlt).2
      have hkl:(nums.take k).length=k:=by rw [List.length_take]; omega
      have hpn:=put_num2 nums.length (nums.take k) k nums[k] hkl (by omega) (by omega)
      have hst:(Hd.st nums.length (nums.take k)).length=512:=Hd.st_length (by omega) _
      rw [← take_snoc nums k hlt] at hpn
      obtain ⟨x,hx⟩:∃ x,nums[k]=x:=⟨_,rfl⟩
      rw [hx] at c1 hl hpn
      have HPN:=Lib.hid hpn
      have HST:=Lib.hid hst
      clear hx hpn hst
      go_wp2_with (go_at_call 94
                   refine (put_to w.heap.size B 512 _ 512 HST.out (16 + 4 * (k:Int)) 4 x 0 _ HPN.out.1 HPN.out.2 wr (HW.out.below HB.out HW.out.lt) HMr.out (by decide) (by omega) (by omega) (by omega)).mono ?_
                   rintro e w6 ⟨rfl,hM6,hk6⟩
                   have HM6:=Lib.hid hM6
                   have HB6:=Lib.hid (HB.out.trans (hk6.below HB.out.size (fun i hi => HMr.out.of_ge i hi)))
                   clear hM6 hk6)
      go_roundw
      case rel => exact ⟨k + 1,by omega,by go_num,HM6.out,HB6.out⟩
      case measure => simp [intOf]; omega
    · obtain rfl:nums.length=k:=by omega
      have hall:nums.take nums.length=nums:=List.take_length
      rw [hall,Hd.st_hd] at HMr
      have hhl:(Hd.hd nums 0).length=512:=Hd.hd_length hfew _
      have HHL:=Lib.hid hhl
      have HPS:=Lib.hid (Hd.put_sum nums 0 0 (by decide))
      obtain ⟨s,hs⟩:∃ s,Hd.sumS (Hd.hd nums 0) data=s:=⟨_,rfl⟩
      have hsl:s.toNat < 4294967296:=s.isLt
      have HPT:=Lib.hid (Hd.put_sum nums 0 s.toNat hsl)
      have HMD:=Lib.hid (show Hd.made nums data=Hd.hd nums s.toNat from by unfold Hd.made; rw [hs])
      have HS:=Lib.hid hs
      clear hhl hs hall
      go_wp2_with (first
        | (go_at_call 117
           refine (sumOf_any base a db B 512 (Hd.hd nums 0) (Hd.hd nums 0) A cap data nums.length wr (HD.out.later HB.out) HNN.out (by omega) (HW.out.below HB.out HW.out.lt) (HH.out.below HB.out HH.out.lt) HHL.out HMr.out.bytes HPS.out HHL.out).mono ?_
           rw [HS.out]
           rintro e w7 ⟨rfl,hb7⟩
           have HB7:=Lib.hid (HB.out.trans (hb7.mono HB.out.size))
           have HM7:=Lib.hid (HMr.out.later hb7)
           clear hb7)
        | (go_at_call 94
           rw [u64_n32]
           refine (put_to w.heap.size B 512 _ 512 HHL.out 12 4 s.toNat 0 _ HPT.out.1 HPT.out.2 w7 (HW.out.below HB7.out HW.out.lt) HM7.out (by decide) (by decide) (by decide) (by omega)).mono ?_
           rintro e w8 ⟨rfl,hM8,hk8⟩
           have HM8:=Lib.hid hM8
           have HB8:=Lib.hid (HB7.out.trans (hk8.below HB7.out.size (fun i hi => HM7.out.of_ge i hi)))
           clear hM8 hk8))
      go_ret2
      exact ⟨⟨B,rfl,by rw [HMD.out]; exact HM8.out⟩,HB8.out⟩
end Go.Proofs.YthkijogloebdoaaGreatDoor
namespace Go.Proofs.YthkijogloebdoaaGreatDoor
open Go.RowKit Rec
theorem ints_snoc (nums:List Nat)(k:Nat)(hk:k < nums.length):ints (nums.take (k + 1))=ints (nums.take k) ++ [((nums[k]:Nat):Int)]:=by
  rw [take_snoc nums k hk]; unfold ints; rw [List.map_append]; rfl
end Go.Proofs.YthkijogloebdoaaGreatDoor
namespace Go.Proofs.YthkijogloebdoaaGreatDoor
open Go.RowKit Rec
end Go.Proofs.YthkijogloebdoaaGreatDoor
end
section
namespace Go.Proofs.YthkijogloebdoaaGreatDoor
open Go.RowKit Rec
theorem infoBlk:(Tryz.prog.info? 116).map (fun i => (i.zero,i.size,i.bytes))=some (some (.agg #[.int .i64 0,.slice none 0 0]),2,32):=by kernel_rfl
theorem infoBs:(Tryz.prog.info? 28).map (fun i => (i.zero,i.size,i.bytes))=some (some (.slice none 0 0),1,24):=by kernel_rfl
section
variable {w w2:World}{base a lb db sb cap:Nat}{A:Option Addr}{ws:List (Nat × List UInt8)}{data:List (List UInt8)}{Ts:List TypeId}
theorem Buf.kt0 {b:List UInt8}(h:Buf w base (some a) A b)(k:KT none sb Ts w w2)(hb:base ≤ sb)(h1:5 ∉ Ts)(h2:72 ∉ Ts):Buf w2 base (some a) A b:=h.kt2 k hb h1 h2 (fun g e => by cases e)
theorem DataRow.kt0 (h:DataRow w base a db A cap data)(k:KT none sb Ts w w2)(hb:base ≤ sb)(h0:28 ∉ Ts)(h1:5 ∉ Ts)(h2:72 ∉ Ts):DataRow w2 base a db A cap data:=by
  obtain ⟨cs,hO,hc⟩:=h
  refine ⟨cs,hO.kt k h0 (fun g _ e => by cases e),fun j hj => ?_⟩
  obtain ⟨B,c,q1,q2,q3⟩:=hc j hj
  exact ⟨B,c,q1,q2,q3.kt0 k hb h1 h2⟩
end
theorem BlkRow.nil (w:World)(base a lb:Nat):BlkRow w base a lb none 0 []:=⟨[],Own.nil _ _ _ _,fun k h => by simp at h⟩
theorem DataRow.nil (w:World)(base a db:Nat):DataRow w base a db none 0 []:=⟨[],Own.nil _ _ _ _,fun k h => by simp at h⟩
set_option maxRecDepth 100000 in
theorem wpList_append_blk {ops:Array Oper}{rest:List Oper}{o:Oper}{a':Act}{w:World}{Q:Exit → Act → World → Prop}(hgd:o.guard=none)(s x:Operand)
    (ho:o.op=.call { callee:=.builtin .append,args := #[s,x],argTypes := #[114,114] })
    (base a lb:Nat)(A:Option Addr)(cap:Nat)(ws:List (Nat × List UInt8))(hs:a'.eval s=.slice A ws.length cap)(hrow:BlkRow w base a lb A cap ws)
    (g c i:Nat)(B:Option Addr)(bc:Nat)(b:List UInt8)(hx:a'.eval x=.slice (some ⟨g,0,none⟩) 1 c)(hc1:w.cell? ⟨g,0,none⟩=some (.int .i64 (i:Int)))(hc2:w.cell? ⟨g,1,none⟩=some (.slice B 512 bc))
    (hb5:b.length=512)(hbuf:Buf w base (some a) B b)(hlen:ws.length ≤ 1000000)(hlb:lb ≤ w.heap.size)(hbl:base ≤ lb)
    (h:∀ A' cap' w',BlkRow w' base a lb A' cap' (ws ++ [(i,b)]) → KT none lb [116] w w' → wpList Tryz.prog ops Q rest (a'.put o.dst (.slice A' (ws ++ [(i,b)]).length cap')) w') :
    wpList Tryz.prog ops Q (o :: rest) a' w:=by
  obtain ⟨i0,hi,hz0,hz1,hz2⟩:=info_parts infoBlk
  obtain ⟨cs,hO,hc⟩:=hrow
  have hnew:∀ j u,[Value.int .i64 (i:Int),Value.slice B 512 bc][j]? = some u → w.cell? ((⟨g,0,none⟩:Addr).add j)=some u:=fun j u hu => by
    cases j with
    | zero => simp at hu; rw [← hu]; exact hc1
    | succ j =>
      cases j with
      | zero => simp at hu; rw [← hu]; exact hc2
      | succ j => simp at hu
  refine wpList_append_lies w hgd s x _ ho lb 116 i0 _ 2 32 Tryz.underlying114 hi hz0 hz1 hz2 rfl (by decide) (.slice A ws.length cap) ws.length cs hs hO ⟨g,0,none⟩ 1 c [.int .i64 (i:Int),.slice B 512 bc] hx rfl hnew (by simp [Value.oneCell']) (by decide) (by simp only [maxLen]; omega) (by omega) hlb w.heap.size rfl ?_
  intro gg cap2 w1 hown1 hgrow hat hlt
  have kn:KT none lb [116] w w1:=KT.of_grown hO (Nat.le_refl _) (by simp) hgrow
  have hl:(ws ++ [(i,b)]).length=ws.length + 1:=by simp
  have hcl:cs.length=ws.length * 2:=hO.1
  have:=h (some ⟨gg,0,none⟩) cap2 w1 ⟨cs ++ [.int .i64 (i:Int),.slice B 512 bc],by rw [hl]; exact hown1,fun k hk => ?_⟩ kn
  · rw [hl] at this; exact this
  · rw [hl] at hk
    by_cases hk2:k < ws.length
    · obtain ⟨B',c',q1,q2,q3,q4⟩:=hc k hk2
      rw [List.getElem_append_left hk2]
      exact ⟨B',c',by rw [List.getElem?_append_left (by omega)]; exact q1,by rw [List.getElem?_append_left (by omega)]; exact q2,q3,q4.kt0 kn hbl (by simp) (by simp)⟩
    · obtain rfl:k=ws.length:=by omega
      have e:(ws ++ [(i,b)])[ws.length]'(by simp)=(i,b):=by simp
      rw [e]
      exact ⟨B,bc,by rw [List.getElem?_append_right (by omega),hcl,Nat.sub_self]; rfl,by rw [List.getElem?_append_right (by omega),hcl,show ws.length * 2 + 1 - ws.length * 2=1 by omega]; rfl,hb5,hbuf.kt0 kn hbl (by simp) (by simp)⟩
set_option maxRecDepth 100000 in
theorem wpList_append_data {ops:Array Oper}{rest:List Oper}{o:Oper}{a':Act}{w:World}{Q:Exit → Act → World → Prop}(hgd:o.guard=none)(s x:Operand)
    (ho:o.op=.call { callee:=.builtin .append,args := #[s,x],argTypes := #[156,156] })
    (base a lb:Nat)(A:Option Addr)(cap:Nat)(data:List (List UInt8))(hs:a'.eval s=.slice A data.length cap)(hrow:DataRow w base a lb A cap data)
    (g c:Nat)(B:Option Addr)(bc:Nat)(b:List UInt8)(hx:a'.eval x=.slice (some ⟨g,0,none⟩) 1 c)(hc1:w.cell? ⟨g,0,none⟩=some (.slice B 512 bc))
    (hb5:b.length=512)(hbuf:Buf w base (some a) B b)(hlen:data.length ≤ 1000000)(hlb:lb ≤ w.heap.size)(hbl:base ≤ lb)
    (h:∀ A' cap' w',DataRow w' base a lb A' cap' (data ++ [b]) → KT none lb [28] w w' → wpList Tryz.prog ops Q rest (a'.put o.dst (.slice A' (data ++ [b]).length cap')) w') :
    wpList Tryz.prog ops Q (o :: rest) a' w:=by
  obtain ⟨i0,hi,hz0,hz1,hz2⟩:=info_parts infoBs
  obtain ⟨cs,hO,hc⟩:=hrow
  have hnew:∀ j u,[Value.slice B 512 bc][j]? = some u → w.cell? ((⟨g,0,none⟩:Addr).add j)=some u:=fun j u hu => by
    cases j with
    | zero => simp at hu; rw [← hu]; exact hc1
    | succ j => simp at hu
  refine wpList_append_lies w hgd s x _ ho lb 28 i0 _ 1 24 Tryz.underlying156 hi hz0 hz1 hz2 rfl (by decide) (.slice A data.length cap) data.length cs hs hO ⟨g,0,none⟩ 1 c [.slice B 512 bc] hx rfl hnew (by simp [Value.oneCell']) (by decide) (by simp only [maxLen]; omega) (by omega) hlb w.heap.size rfl ?_
  intro gg cap2 w1 hown1 hgrow hat hlt
  have kn:KT none lb [28] w w1:=KT.of_grown hO (Nat.le_refl _) (by simp) hgrow
  have hl:(data ++ [b]).length=data.length + 1:=by simp
  have hcl:cs.length=data.length:=by rw [hO.1,Nat.mul_one]
  have:=h (some ⟨gg,0,none⟩) cap2 w1 ⟨cs ++ [.slice B 512 bc],by rw [hl]; exact hown1,fun k hk => ?_⟩ kn
  · rw [hl] at this; exact this
  · rw [hl] at hk
    by_cases hk2:k < data.length
    · obtain ⟨B',c',q1,q2,q3⟩:=hc k hk2
      rw [List.getElem_append_left hk2]
      exact ⟨B',c',by rw [List.getElem?_append_left (by omega)]; exact q1,q2,q3.kt0 kn hbl (by simp) (by simp)⟩
    · obtain rfl:k=data.length:=by omega
      have e:(data ++ [b])[data.length]'(by simp)=b:=by simp
      rw [e]
      exact ⟨B,bc,by rw [List.getElem?_append_right (by omega),hcl,Nat.sub_self]; rfl,hb5,hbuf.kt0 kn hbl (by simp) (by simp)⟩
end Go.Proofs.YthkijogloebdoaaGreatDoor
end
section
namespace Go.Proofs.YthkijogloebdoaaGreatDoor
open Go.RowKit Rec
theorem Nums.kt {w w2:World}{base b cap:Nat}{A:Option Addr}{ts:List Int}{Ts:List TypeId}(h:Nums w base A cap ts)(k:KT none b Ts w w2)(ht:3 ∉ Ts):Nums w2 base A cap ts :=
  (show Own w base 3 1 A ts.length cap (numCells ts) from h).kt k ht (fun g _ e => by cases e)
theorem nums_of {ws:List (Nat × List UInt8)}(k:Nat)(hk:k < ws.length):(ws.map (·.1))[k]'(by simpa using hk)=ws[k].1:=by simp
theorem rise_n {n : Nat} {ws : List (Nat × List UInt8)} (h : Rise n ws)(h1:1 ≤ ws.length):RiseN n (ws.map (·.1)) :=
  ⟨by simpa using h1, by simpa using h.few, fun k hk => by have hk':k < ws.length:=by simpa using hk
                                                           rw [nums_of k hk']; exact h.low k hk',
   fun k hk => by have hk':k + 1 < ws.length:=by simpa using hk
                  rw [nums_of k (by omega),nums_of (k + 1) hk']; exact h.up k hk'⟩
end Go.Proofs.YthkijogloebdoaaGreatDoor
end
