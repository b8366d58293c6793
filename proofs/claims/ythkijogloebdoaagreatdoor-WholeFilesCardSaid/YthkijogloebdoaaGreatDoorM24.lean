/-
  WholeFiles, the texts Alb Alc Ald Ale Fgb Ptd: lemmas for the proof that three files on one disk are plain rows of bytes. No conditions.
-/
import Derived.Test.YthkijogloebdoaaGreatDoorM23
import Derived.Test.YthkijogloebdoaaGreatDoorM18
import Derived.Test.YthkijogloebdoaaGreatDoorM15
import Derived.Test.YthkijogloebdoaaGreatDoorM16
import Derived.StillTailTactics
set_option linter.unusedVariables false
set_option linter.unusedSimpArgs false
section
namespace Go.Proofs.YthkijogloebdoaaGreatDoor
open Go.RowKit Go.Maps Rec Gp Fs
def sumN (f:Nat → Nat):Nat → Nat
  | 0 => 0
  | k + 1 => sumN f k + f k
set_option maxRecDepth 100000 in
theorem each0_any (w:World)(fb bb tb base a b:Nat)(G:Nat → Prop)(hA:AllAt w base bb tb a b G)(v:Value) :
    Calls Tryz.prog 126 #[.int .i64 0,v,.pointer (some ⟨fb,0,none⟩),.pointer (some ⟨tb,0,none⟩)] w (AllStep base bb tb w a b G 0 0):=by
  have HA:=Lib.hid hA
  clear hA
  go_enter Tryz.func126,Tryz.ntmps126
  go_wp2_with fail
  go_ret
  exact ⟨rfl,G,HA.out,FrX.of_below (Below.refl _ _)⟩
set_option maxRecDepth 100000 in
set_option maxHeartbeats 1600000 in
theorem each_any (c:Cx)(w:World)(O:Nat → Prop)(T:Tn)(n:Nat)(x:Ino)(F fb ob eb bb tb base:Nat)(h:AllB c w O T n x F fb ob eb bb tb base)(a b:Nat)(G:Nat → Prop)(hA:AllAt w base bb tb a b G)(hw:base ≤ w.heap.size)(q:Nat)(hd:dat n ≤ q)(hi:q < n)
    (dofn:Nat)(hen:∀ args w,(callFunc dofn args).run Tryz.prog w=.ok (.enter dofn args) w)(caps:Array Value)(da db:Nat → Nat)(hb:b + 1 ≤ 100000)
    (hdo:∀ (i:Nat)(w2:World)(G2:Nat → Prop),i < 128 → AllB c w2 O T n x F fb ob eb bb tb base → AllAt w2 base bb tb (a + sumN da i) (b + 1 + sumN db i) G2 → base ≤ w2.heap.size → FrX (fun i => i=bb ∨ i=tb) w G w2 G2 →
      Calls Tryz.prog dofn (#[.int .i64 (i:Int),.int .i64 (nm (T.view c.D q) (4 * i) 4:Int)] ++ caps) w2 (AllStep base bb tb w2 (a + sumN da i) (b + 1 + sumN db i) G2 (da i) (db i))) :
    Calls Tryz.prog 126 #[.int .i64 (q:Int),.func (.func dofn) #[] caps,.pointer (some ⟨fb,0,none⟩),.pointer (some ⟨tb,0,none⟩)] w (AllStep base bb tb w a b G (sumN da 128) (1 + sumN db 128)):=by
  have HN:=Lib.hid (fnumbers_any c w O T n h.env x F q h.file hd hi)
  have hqb:((q:Int) == 0)=false:=by rw [beq_eq_false_iff_ne]; have:=dat_pos n; omega
  obtain ⟨l,hl⟩:∃ l,T.view c.D q=l:=⟨_,rfl⟩
  rw [hl] at HN hdo
  have HDO:=Lib.hid hdo
  have HH:=Lib.hid h
  have HGE:=Lib.hid hA.ge
  obtain ⟨A,cA,ps,B,cB,ts,i1,i2,p1,p2,hpa,htb,hG⟩:=hA
  have c1:w.cell? ⟨fb,0,none⟩=some (.pointer (some ⟨F,0,none⟩)):=h.f.cell 0
  have I1:=Lib.hid i1
  have I2:=Lib.hid i2
  have P1:=Lib.hid p1
  have P2:=Lib.hid p2
  have HGG:=Lib.hid hG
  have HPA:=Lib.hid hpa
  have HTB:=Lib.hid htb
  have hbl:=i1.lt
  have htl:=i2.lt
  obtain ⟨l1,l2,l3,l4,l5,l6⟩:=h.lt
  obtain ⟨n1,n2,n3,n4,n5,n6,n7,n8,n9⟩:=h.ne
  clear h hd hi i1 i2 p1 p2 hG hpa htb hdo hl
  go_enter Tryz.func126,Tryz.ntmps126
  go_wp2_with (first
    | (go_at_call 110
       refine HN.out.mono ?_
       rintro e w1 ⟨⟨g,cp,lg,rfl,hg,hn,hgs,hls,hne⟩,hb1⟩
       have HNS:=Lib.hid hn
       have HB1:=Lib.hid hb1
       have hs1:=hb1.size
       have hlgl:lg < w1.heap.size:=by obtain ⟨cs,q1,_⟩:=hn; exact q1.lt
       have c2:w1.cell? ⟨tb,0,none⟩=some (.slice B ts.length cB):=(I2.out.below hb1 htl).cell 0
       clear hg hn hb1)
    | (at_builtin
       refine wpList_append_num rfl (.tmp 20) (.tmp 22) rfl base B cB ts (by rfl) ((P2.out.later HB1.out).later (below_new w1 _)) w1.heap.size _ (q:Int) (by rfl) ((one_new w1 #[.int .i64 (q:Int)] 3).2.cell 0) (by rw [HTB.out]; omega) (by simp; omega) ?_
       intro B5 c5 w5 hS5 hk5 hB5
       have HS5:=Lib.hid hS5
       have HK5:=Lib.hid hk5
       have HB5:=Lib.hid hB5
       have HB2:=Lib.hid (HB1.out.trans (((one_new w1 #[.int .i64 (q:Int)] 3).1).mono hs1))
       have HTT5:=Lib.hid ((I2.out.below HB2.out htl).keeps hk5 (fun e => by have:=P2.out.ge _ e; omega))
       have f5:=HTT5.out.free 0
       have c15:w5.cell? ⟨tb,0,none⟩=some (.slice B ts.length cB):=HTT5.out.cell 0
       clear hS5 hk5 hB5))
  have hB2s:=HB2.out.size
  have hA3:AllAt (w5.setCell ⟨tb,0,none⟩ (.slice B5 (ts.length + 1) c5)) base bb tb a (b + 1) (fun i => Of A i ∨ Of B5 i):=by
    refine ⟨A,cA,ps,B5,c5,_,((I1.out.below HB2.out hbl).keeps HK5.out (fun e => by have:=P2.out.ge _ e; omega)).other ⟨tb,0,none⟩ (by show bb ≠ tb; omega) _,by rw [show (ts ++ [(q:Int)]).length=ts.length + 1 by simp]; exact HTT5.out.put 0 _,((P1.out.later HB2.out).keeps HK5.out ?_).kept (fun g hg => heap_setCell_other _ _ _ _ (by rintro rfl; have:=P1.out.ge _ hg; omega)),HS5.out.kept (fun g hg => heap_setCell_other _ _ _ _ (by rintro rfl; have:=HS5.out.ge _ hg; omega)),HPA.out,by rw [List.length_append,HTB.out]; rfl,fun i => Iff.rfl⟩
    intro i ha hb
    rcases P1.out.2 with ⟨hv,_⟩ | ⟨g,cap',cur,hv,_,hh,_⟩
    · injection hv with hA; unfold Of at ha; rw [hA] at ha; cases ha
    rcases P2.out.2 with ⟨hv2,_⟩ | ⟨g2,cap2,cur2,hv2,_,hh2,_⟩
    · injection hv2 with hA; unfold Of at hb; rw [hA] at hb; cases hb
    injection hv with hA
    injection hv2 with hA2
    unfold Of at ha hb
    rw [hA] at ha
    rw [hA2] at hb
    injection ha with ha; injection ha with ha
    injection hb with hb; injection hb with hb
    subst ha
    subst hb
    rw [hh] at hh2
    injection hh2 with hh2
    injection hh2 with _ ht
    exact absurd ht (by decide)
  have hfx3:FrX (fun i => i=bb ∨ i=tb) w G (w5.setCell ⟨tb,0,none⟩ (.slice B5 (ts.length + 1) c5)) (fun i => Of A i ∨ Of B5 i):=by
    refine ⟨((Keeps.of_below HB2.out).trans (HK5.out.mono (fun i e => .inl ((HGG.out i).2 (.inr e))))).trans ((keeps_set _ tb 0 _).mono (fun i e => .inr (.inr e))),fun i e => ?_⟩
    rcases e with e | e
    · exact .inl ((HGG.out i).2 (.inl e))
    · rcases HB5.out i e with e2 | e2
      · exact .inl ((HGG.out i).2 (.inr e2))
      · right; rw [e2]; omega
  have hlg3:NumsAt (w5.setCell ⟨tb,0,none⟩ (.slice B5 (ts.length + 1) c5)) lg l:=by
    obtain ⟨cs,q1,q2⟩:=HNS.out
    exact ⟨cs,((q1.below (below_new w1 _) hlgl).keeps HK5.out (fun e => by have:=P2.out.lt _ e; omega)).other ⟨tb,0,none⟩ (by show lg ≠ tb; omega) _,q2⟩
  have hno3:¬ (Of A lg ∨ Of B5 lg):=by
    rintro (e | e)
    · have:=P1.out.lt _ e; omega
    · rcases HB5.out lg e with e2 | e2
      · have:=P2.out.lt _ e2; omega
      · rw [World.size_alloc] at e2; omega
  obtain ⟨w3,hw3⟩:∃ w3,w5.setCell ⟨tb,0,none⟩ (.slice B5 (ts.length + 1) c5)=w3:=⟨_,rfl⟩
  obtain ⟨G3,hG3⟩:∃ G3:Nat → Prop,(fun i => Of A i ∨ Of B5 i)=G3:=⟨_,rfl⟩
  rw [hw3] at hA3 hfx3 hlg3 ⊢
  rw [show (Of A lg ∨ Of B5 lg)=G3 lg from congrFun hG3 lg] at hno3
  rw [hG3] at hA3 hfx3
  have hsz3:=hfx3.size
  have hlg3l:lg < w3.heap.size:=by obtain ⟨cs,q1,_⟩:=hlg3; exact q1.lt
  have HA3:=Lib.hid hA3
  have HX3:=Lib.hid hfx3
  have HL3:=Lib.hid hlg3
  have HNO:=Lib.hid hno3
  clear hA3 hfx3 hlg3 hno3 hw3 hG3 f5 c15 c1 c2
  go_loopw [9,10] (fun v9 v10 wr => ∃ i:Nat,i ≤ 128 ∧ v9=.int .i64 0 ∧ v10=.int .i64 (i:Int) ∧ ∃ G2,AllAt wr base bb tb (a + sumN da i) (b + 1 + sumN db i) G2 ∧ FrX (fun i => i=bb ∨ i=tb) w3 G3 wr G2) (fun _ v _ => 128 - (intOf v).toNat)
  case atStart => exact ⟨0,by omega,rfl,rfl,G3,HA3.out,FrX.of_below (Below.refl _ _)⟩
  case round =>
    obtain ⟨i,hi,rfl,rfl,G2,hA2,hF2⟩:=hrel
    have HA2:=Lib.hid hA2
    have HF2:=Lib.hid hF2
    have HFX:=Lib.hid (HX3.out.trans hF2)
    by_cases hlt:i < 128
    · have hlt2:(i:Int) < 128:=by omega
      have hc:wr.cell? ⟨lg,i,none⟩=some (.int .i64 (nm l (4 * i) 4:Int)):=by
        obtain ⟨cs,q1,q2,q3⟩:=HL3.out
        rw [(q1.frX hF2 HNO.out (by omega)).cell i]; exact q3 i hlt
      have HC:=Lib.hid (HDO.out i wr G2 hlt (HH.out.frX HFX.out (fun i e => (HGE.out i e).1)) hA2 (by have:=HFX.out.size; omega) HFX.out)
      obtain ⟨num,hnum⟩:∃ num,nm l (4 * i) 4=num:=⟨_,rfl⟩
      rw [hnum] at hc HC
      clear hA2 hF2 hnum
      go_wp2_with (
        refine (show Calls _ _ _ _ _ from HC.out.mono ?_)
        rintro e w6 ⟨rfl,G6,hA6,hF6⟩
        have HA6:=Lib.hid hA6
        have HF6:=Lib.hid hF6
        clear hA6 hF6)
      go_roundw
      case rel => exact ⟨i + 1,by omega,rfl,by go_num,G6,by rw [show a + sumN da (i + 1)=a + sumN da i + da i from (Nat.add_assoc _ _ _).symm,show b + 1 + sumN db (i + 1)=b + 1 + sumN db i + db i from (Nat.add_assoc _ _ _).symm]; exact HA6.out,HF2.out.trans HF6.out⟩
      case measure => simp [intOf]; omega
    · have hge:¬ (i:Int) < 128:=by omega
      have hi128:i=128:=by omega
      rw [hi128] at HA2
      clear hi128 hA2 hF2 hi
      go_wp2_with fail
      go_ret
      exact ⟨rfl,G2,by rw [← Nat.add_assoc]; exact HA2.out,HFX.out⟩
end Go.Proofs.YthkijogloebdoaaGreatDoor
end
section
namespace Go.Proofs.YthkijogloebdoaaGreatDoor
open Go.RowKit Go.Maps Rec Gp Fs
def one1 (v:Nat):Nat:=if v=0 then 0 else 1
section
variable (c:Cx)(w:World)(O:Nat → Prop)(T:Tn)(n:Nat)(x:Ino)(F fb ob eb bb tb base:Nat)(h:AllB c w O T n x F fb ob eb bb tb base)(a b:Nat)(G:Nat → Prop)(hA:AllAt w base bb tb a b G)(hw:base ≤ w.heap.size)
include h hA hw
set_option maxRecDepth 100000 in
theorem all3_any (i num:Nat)(hi:i < 128)(hd:num ≠ 0 → dat n ≤ num ∧ num < n)(ha:a ≤ 100000) :
    Calls Tryz.prog 127 #[.int .i64 (i:Int),.int .i64 (num:Int),.pointer (some ⟨ob,0,none⟩)] w (AllStep base bb tb w a b G (one1 num) 0):=by
  have HC:=Lib.hid (own1_any c w O T n x F fb ob eb bb tb base h a b G hA hw (10 + i) num hd ha)
  have c0:w.cell? ⟨ob,0,none⟩=some (.func (.func 125) #[] #[.pointer (some ⟨bb,0,none⟩),.pointer (some ⟨fb,0,none⟩)]):=h.o.cell 0
  have u1:=IntWalk.i64_in (n:=(10:Int) + (i:Int)) (by omega)
  have e1:(10:Int) + (i:Int)=((10 + i:Nat):Int):=by omega
  obtain ⟨k,hk⟩:∃ k,10 + i=k:=⟨_,rfl⟩
  rw [hk] at HC e1
  have HK:=Lib.hid hk
  clear h hA hd hk
  go_enter Tryz.func127,Tryz.ntmps127
  go_wp2_with (
    go_at_call 125
    refine HC.out.mono ?_
    rintro e w1 ⟨rfl,G1,hA1,hF1⟩
    have HA1:=Lib.hid hA1
    have HF1:=Lib.hid hF1
    clear hA1 hF1)
  go_ret
  exact ⟨rfl,G1,HA1.out,HF1.out⟩
set_option maxRecDepth 100000 in
theorem all41_any (ib i j num:Nat)(hib:Is w ib 3 #[.int .i64 (i:Int)])(hi:i < 128)(hj:j < 128)(hd:num ≠ 0 → dat n ≤ num ∧ num < n)(ha:a ≤ 100000) :
    Calls Tryz.prog 129 #[.int .i64 (j:Int),.int .i64 (num:Int),.pointer (some ⟨ob,0,none⟩),.pointer (some ⟨ib,0,none⟩)] w (AllStep base bb tb w a b G (one1 num) 0):=by
  have HC:=Lib.hid (own1_any c w O T n x F fb ob eb bb tb base h a b G hA hw (138 + i * 128 + j) num hd ha)
  have c0:w.cell? ⟨ob,0,none⟩=some (.func (.func 125) #[] #[.pointer (some ⟨bb,0,none⟩),.pointer (some ⟨fb,0,none⟩)]):=h.o.cell 0
  have c1:w.cell? ⟨ib,0,none⟩=some (.int .i64 (i:Int)):=hib.cell 0
  have u1:=IntWalk.i64_in (n:=(i:Int) * 128) (by omega)
  have u2:=IntWalk.i64_in (n:=(138:Int) + (i:Int) * 128) (by omega)
  have u3:=IntWalk.i64_in (n:=(138:Int) + (i:Int) * 128 + (j:Int)) (by omega)
  have e1:(138:Int) + (i:Int) * 128 + (j:Int)=((138 + i * 128 + j:Nat):Int):=by omega
  obtain ⟨k,hk⟩:∃ k,138 + i * 128 + j=k:=⟨_,rfl⟩
  rw [hk] at HC e1
  have HK:=Lib.hid hk
  clear h hA hd hk hib
  go_enter Tryz.func129,Tryz.ntmps129
  go_wp2_with (
    go_at_call 125
    refine HC.out.mono ?_
    rintro e w1 ⟨rfl,G1,hA1,hF1⟩
    have HA1:=Lib.hid hA1
    have HF1:=Lib.hid hF1
    clear hA1 hF1)
  go_ret
  exact ⟨rfl,G1,HA1.out,HF1.out⟩
set_option maxRecDepth 100000 in
set_option maxHeartbeats 800000 in
theorem all4_any (i q:Nat)(hi:i < 128)(hd:q ≠ 0 → dat n ≤ q ∧ q < n)(hds:q ≠ 0 → ∀ s,s < 128 → nm (T.view c.D q) (4 * s) 4 ≠ 0 → dat n ≤ nm (T.view c.D q) (4 * s) 4 ∧ nm (T.view c.D q) (4 * s) 4 < n)(ha:a ≤ 50000)(hb:b ≤ 50000) :
    Calls Tryz.prog 128 #[.int .i64 (i:Int),.int .i64 (q:Int),.pointer (some ⟨eb,0,none⟩),.pointer (some ⟨ob,0,none⟩)] w (AllStep base bb tb w a b G (if q=0 then 0 else sumN (fun s => one1 (nm (T.view c.D q) (4 * s) 4)) 128) (one1 q)):=by
  obtain ⟨hb0,i0⟩:=one_new w #[.int .i64 (i:Int)] 3
  have hB0:=h.later hb0
  have hA0:=hA.later hb0
  have hw0:base ≤ (w.alloc (.cells #[.int .i64 (i:Int)] 3)).heap.size:=by rw [World.size_alloc]; omega
  have hC : Calls Tryz.prog 126 #[.int .i64 (q:Int),.func (.func 129) #[] #[.pointer (some ⟨ob,0,none⟩),.pointer (some ⟨w.heap.size,0,none⟩)],.pointer (some ⟨fb,0,none⟩),.pointer (some ⟨tb,0,none⟩)] (w.alloc (.cells #[.int .i64 (i:Int)] 3)) (AllStep base bb tb (w.alloc (.cells #[.int .i64 (i:Int)] 3)) a b G (if q=0 then 0 else sumN (fun s => one1 (nm (T.view c.D q) (4 * s) 4)) 128) (one1 q)):=by
    by_cases hq:q=0
    · rw [if_pos hq,show one1 q=0 from if_pos hq,show (q:Int)=0 by omega]
      exact each0_any _ fb bb tb base a b G hA0 _
    · rw [if_neg hq,show one1 q=1 from if_neg hq]
      obtain ⟨d1,d2⟩:=hd hq
      have hs0:∀ k,sumN (fun _:Nat => 0) k=0:=fun k => by
        induction k with
        | zero => rfl
        | succ k ih => show sumN _ k + 0=0; omega
      have hs1:∀ k,sumN (fun s => one1 (nm (T.view c.D q) (4 * s) 4)) k ≤ k:=fun k => by
        induction k with
        | zero => exact Nat.le_refl _
        | succ k ih =>
          show sumN _ k + one1 _ ≤ k + 1
          have:one1 (nm (T.view c.D q) (4 * k) 4) ≤ 1:=by unfold one1; split <;> omega
          omega
      have h1:=each_any c (w.alloc (.cells #[.int .i64 (i:Int)] 3)) O T n x F fb ob eb bb tb base hB0 a b G hA0 hw0 q d1 d2 129 (enters_of Tryz.func129 (by kernel_rfl) rfl) #[.pointer (some ⟨ob,0,none⟩),.pointer (some ⟨w.heap.size,0,none⟩)] (fun s => one1 (nm (T.view c.D q) (4 * s) 4)) (fun _ => 0) (by omega) (fun j w2 G2 hj hB2 hA2 hw2 hF2 =>
        all41_any c w2 O T n x F fb ob eb bb tb base hB2 _ _ G2 hA2 hw2 w.heap.size i j _ (i0.frX hF2 (fun e => by have:=(hA.ge _ e).2; omega) (by have:=h.lt; omega)) hi hj (hds hq j hj) (by have:=hs1 j; omega))
      rw [hs0] at h1
      exact h1
  generalize (if q=0 then 0 else sumN (fun s => one1 (nm (T.view c.D q) (4 * s) 4)) 128)=da at hC ⊢
  generalize one1 q=db at hC ⊢
  have HC:=Lib.hid hC
  have c0:w.cell? ⟨eb,0,none⟩=some (.func (.func 126) #[] #[.pointer (some ⟨fb,0,none⟩),.pointer (some ⟨tb,0,none⟩)]):=h.e.cell 0
  have hel:=h.e.lt
  have HB0:=Lib.hid hb0
  clear h hA hd hds hb0 i0 hB0 hA0 hC
  go_enter Tryz.func128,Tryz.ntmps128
  go_wp2_with (
    go_at_call 126
    refine HC.out.mono ?_
    rintro e w1 ⟨rfl,G1,hA1,hF1⟩
    have HA1:=Lib.hid hA1
    have HF1:=Lib.hid hF1
    clear hA1 hF1)
  go_ret
  exact ⟨rfl,G1,HA1.out,(FrX.of_below HB0.out).trans HF1.out⟩
end
end Go.Proofs.YthkijogloebdoaaGreatDoor
end
section
namespace Go.Proofs.YthkijogloebdoaaGreatDoor
open Go.RowKit Go.Maps Rec Gp Fs
theorem sumN_congr {f g:Nat → Nat}:∀ (k:Nat),(∀ i,i < k → f i=g i) → sumN f k=sumN g k
  | 0,_ => rfl
  | k + 1,h => by
    show sumN f k + f k=sumN g k + g k
    rw [sumN_congr k (fun i hi => h i (by omega)),h k (by omega)]
theorem sumN_zero {f:Nat → Nat}(k:Nat)(h:∀ i,i < k → f i=0):sumN f k=0:=by
  induction k with
  | zero => rfl
  | succ k ih =>
    show sumN f k + f k=0
    rw [ih (fun i hi => h i (by omega)),h k (by omega)]
theorem sumN_add (f:Nat → Nat)(a:Nat):∀ b,sumN f (a + b)=sumN f a + sumN (fun j => f (a + j)) b
  | 0 => rfl
  | b + 1 => by
    show sumN f (a + b) + f (a + b)=sumN f a + (sumN (fun j => f (a + j)) b + f (a + b))
    rw [sumN_add f a b]; omega
theorem sumN_mul (f:Nat → Nat)(d:Nat):∀ m,sumN f (d * m)=sumN (fun i => sumN (fun s => f (d * i + s)) d) m
  | 0 => rfl
  | m + 1 => by
    rw [Nat.mul_succ,sumN_add,sumN_mul f d m]; rfl
theorem sumN_le1 {f:Nat → Nat}(h:∀ i,f i ≤ 1):∀ k,sumN f k ≤ k
  | 0 => Nat.le_refl _
  | k + 1 => by
    have:=sumN_le1 h k
    have:=h k
    show sumN f k + f k ≤ k + 1
    omega
theorem one1_le (v:Nat):one1 v ≤ 1:=by unfold one1; split <;> omega
theorem cnt_sum (L:Nat → Nat → Nat)(f:Nat):∀ k,cntP (pres L f) k=sumN (fun p => one1 (L f p)) k
  | 0 => rfl
  | k + 1 => by
    show cntP (pres L f) k + _=sumN _ k + one1 (L f k)
    rw [cnt_sum L f k]
    unfold pres one1
    by_cases e:L f k=0
    · rw [if_pos e,if_neg (by simp [e])]
    · rw [if_neg e,if_pos (by simp [e])]
def leafs (L:Nat → Nat → Nat)(f q:Nat):Nat:=if L f q=0 then 0 else sumN (fun s => one1 (L f (kid q s))) 128
def tabs (L:Nat → Nat → Nat)(f:Nat):Nat:=if L f 16523=0 then 0 else sumN (fun i => leafs L f (16524 + i)) 128
def tabs1 (L:Nat → Nat → Nat)(f:Nat):Nat:=if L f 16523=0 then 0 else 1 + sumN (fun i => one1 (L f (16524 + i))) 128
section
variable {n:Nat}{V:Nat → List UInt8}{X:Nat → Ino}{L:Nat → Nat → Nat}{f:Nat}
theorem kid_nm (h:Tree0 n V X L)(hf:f < 3){q s:Nat}(h0:16522 ≤ q)(h1:q < 16652)(hs:s < 128)(hz:L f q ≠ 0):nm (V (L f q)) (4 * s) 4=L f (kid q s):=by
  obtain ⟨k1,k2,k3⟩:=par_kid h0 h1 hs
  have hr:=h.ref f (kid q s) hf k3 (fun e => e)
  rw [refn_tab (by rw [k1]; omega) (by rw [k1]; exact hz),k1,k2] at hr
  exact hr.symm
theorem kid_zero (h:Tree0 n V X L){q s:Nat}(h0:16522 ≤ q)(h1:q < 16652)(hs:s < 128)(hz:L f q=0):L f (kid q s)=0 :=
  Classical.byContradiction fun hne => by
    obtain ⟨k1,k2,k3⟩:=par_kid h0 h1 hs
    have:=h.up hne (by rw [k1]; omega)
    rw [k1] at this
    exact this hz
theorem leafs_eq (h:Tree0 n V X L){q:Nat}(h0:16522 ≤ q)(h1:q < 16652):leafs L f q=sumN (fun s => one1 (L f (kid q s))) 128:=by
  unfold leafs
  by_cases hz:L f q=0
  · rw [if_pos hz,sumN_zero 128 (fun s hs => by rw [kid_zero h h0 h1 hs hz]; rfl)]
  · rw [if_neg hz]
theorem all_count (h:Tree0 n V X L):sumN (fun k => one1 (L f k)) 10 + leafs L f 16522 + tabs L f + (one1 (L f 16522) + tabs1 L f)=cntP (pres L f) 16652:=by
  rw [cnt_sum,show 16652=10 + (128 + (128 * 128 + (1 + (1 + 128)))) from rfl,sumN_add,sumN_add,sumN_add,sumN_add,sumN_add,sumN_mul]
  have e1:leafs L f 16522=sumN (fun j => one1 (L f (10 + j))) 128:=by
    rw [leafs_eq h (by omega) (by omega)]
    exact sumN_congr _ (fun s _ => by rw [kid_one])
  have e3:∀ i,i < 128 → leafs L f (16524 + i)=sumN (fun s => one1 (L f (10 + (128 + (128 * i + s))))) 128:=fun i hi => by
    rw [leafs_eq h (by omega) (by omega)]
    refine sumN_congr _ (fun s _ => ?_)
    rw [kid_tab (by omega),show 138 + 128 * (16524 + i - 16524) + s=10 + (128 + (128 * i + s)) by omega]
  have e2:tabs L f=sumN (fun i => sumN (fun s => one1 (L f (10 + (128 + (128 * i + s))))) 128) 128:=by
    unfold tabs
    by_cases hz:L f 16523=0
    · rw [if_pos hz]
      refine (sumN_zero 128 (fun i hi => ?_)).symm
      have ht:=kid_zero h (q:=16523) (s:=i) (by omega) (by omega) hi hz
      rw [kid_two] at ht
      rw [← e3 i hi]
      unfold leafs
      rw [if_pos ht]
    · rw [if_neg hz]
      exact sumN_congr _ e3
  have e4:tabs1 L f=one1 (L f 16523) + sumN (fun i => one1 (L f (16524 + i))) 128:=by
    unfold tabs1
    by_cases hz:L f 16523=0
    · rw [if_pos hz,show one1 (L f 16523)=0 from if_pos hz,sumN_zero 128 (fun i hi => by
        have ht:=kid_zero h (q:=16523) (s:=i) (by omega) (by omega) hi hz
        rw [kid_two] at ht
        rw [ht]; rfl)]
    · rw [if_neg hz,show one1 (L f 16523)=1 from if_neg hz]
  have e5:sumN (fun j => one1 (L f (10 + (128 + (128 * 128 + (1 + (1 + j))))))) 128=sumN (fun i => one1 (L f (16524 + i))) 128:=sumN_congr _ (fun i _ => by rw [show 10 + (128 + (128 * 128 + (1 + (1 + i))))=16524 + i by omega])
  rw [e1,e2,e4,e5]
  show _=_ + (_ + (_ + ((0 + one1 (L f 16522)) + ((0 + one1 (L f 16523)) + _))))
  omega
end
end Go.Proofs.YthkijogloebdoaaGreatDoor
end
section
namespace Go.Proofs.YthkijogloebdoaaGreatDoor
open Go.RowKit Go.Maps Rec Gp Fs
theorem inoC_num (x:Ino)(k:Nat)(hk:k < 12):x.C[3 + k]? = some (.int .i64 (x.num k:Int)):=by
  match k,hk with
  | 0,_ => rfl
  | 1,_ => rfl
  | 2,_ => rfl
  | 3,_ => rfl
  | 4,_ => rfl
  | 5,_ => rfl
  | 6,_ => rfl
  | 7,_ => rfl
  | 8,_ => rfl
  | 9,_ => rfl
  | 10,_ => rfl
  | 11,_ => rfl
section
variable (c:Cx)(w:World)(O:Nat → Prop)(T:Tn)(n:Nat)(x:Ino)(F fb ob eb bb tb base:Nat)(h:AllB c w O T n x F fb ob eb bb tb base)(a b:Nat)(G:Nat → Prop)(hA:AllAt w base bb tb a b G)(hw:base ≤ w.heap.size)
include h hA hw
theorem allOne (X:Nat → Ino)(L:Nat → Nat → Nat)(f:Nat)(ht:Tree0 n (T.view c.D) X L)(hf:f < 3)(ha:a ≤ 10)(hb:b=0) :
    Calls Tryz.prog 126 #[.int .i64 (L f 16522:Int),.func (.func 127) #[] #[.pointer (some ⟨ob,0,none⟩)],.pointer (some ⟨fb,0,none⟩),.pointer (some ⟨tb,0,none⟩)] w (AllStep base bb tb w a b G (leafs L f 16522) (one1 (L f 16522))):=by
  by_cases hq:L f 16522=0
  · rw [show leafs L f 16522=0 from if_pos hq,hq]
    exact each0_any _ fb bb tb base a b G hA _
  · rw [show leafs L f 16522=_ from if_neg hq,show one1 (L f 16522)=1 from if_neg hq]
    obtain ⟨_,_,d1,d2⟩:=ht.inn f 16522 hq
    have hkn:∀ s,s < 128 → nm (T.view c.D (L f 16522)) (4 * s) 4=L f (kid 16522 s):=fun s hs => kid_nm ht hf (by omega) (by omega) hs hq
    have h1:=each_any c w O T n x F fb ob eb bb tb base h a b G hA hw (L f 16522) d1 d2 127 (enters_of Tryz.func127 (by kernel_rfl) rfl) #[.pointer (some ⟨ob,0,none⟩)] (fun s => one1 (L f (kid 16522 s))) (fun _ => 0) (by omega) (fun j w2 G2 hj hB2 hA2 hw2 hF2 => by
      rw [hkn j hj]
      exact all3_any c w2 O T n x F fb ob eb bb tb base hB2 _ _ G2 hA2 hw2 j _ hj (fun hne => by obtain ⟨_,_,q1,q2⟩:=ht.inn f _ hne; exact ⟨q1,q2⟩) (by have:=sumN_le1 (f:=fun s => one1 (L f (kid 16522 s))) (fun i => one1_le _) j; omega))
    rw [sumN_zero 128 (fun _ _ => rfl)] at h1
    exact h1
theorem allTwo (X:Nat → Ino)(L:Nat → Nat → Nat)(f:Nat)(ht:Tree0 n (T.view c.D) X L)(hf:f < 3)(ha:a ≤ 138)(hb:b ≤ 1) :
    Calls Tryz.prog 126 #[.int .i64 (L f 16523:Int),.func (.func 128) #[] #[.pointer (some ⟨eb,0,none⟩),.pointer (some ⟨ob,0,none⟩)],.pointer (some ⟨fb,0,none⟩),.pointer (some ⟨tb,0,none⟩)] w (AllStep base bb tb w a b G (tabs L f) (tabs1 L f)):=by
  by_cases hq:L f 16523=0
  · rw [show tabs L f=0 from if_pos hq,show tabs1 L f=0 from if_pos hq,hq]
    exact each0_any _ fb bb tb base a b G hA _
  · rw [show tabs L f=_ from if_neg hq,show tabs1 L f=_ from if_neg hq]
    obtain ⟨_,_,d1,d2⟩:=ht.inn f 16523 hq
    have hkn:∀ s,s < 128 → nm (T.view c.D (L f 16523)) (4 * s) 4=L f (16524 + s):=fun s hs => (kid_nm ht hf (by omega) (by omega) hs hq).trans (by rw [kid_two])
    have hl:∀ q,leafs L f q ≤ 128:=fun q => by unfold leafs; split; omega; exact sumN_le1 (fun i => one1_le _) 128
    have hls:∀ k,sumN (fun i => leafs L f (16524 + i)) k ≤ 128 * k:=fun k => by
      induction k with
      | zero => exact Nat.le_refl _
      | succ k ih =>
        have:=hl (16524 + k)
        show sumN _ k + leafs L f (16524 + k) ≤ 128 * (k + 1)
        omega
    exact each_any c w O T n x F fb ob eb bb tb base h a b G hA hw (L f 16523) d1 d2 128 (enters_of Tryz.func128 (by kernel_rfl) rfl) #[.pointer (some ⟨eb,0,none⟩),.pointer (some ⟨ob,0,none⟩)] (fun i => leafs L f (16524 + i)) (fun i => one1 (L f (16524 + i))) (by omega) (fun j w2 G2 hj hB2 hA2 hw2 hF2 => by
      rw [hkn j hj]
      have hk2:∀ s,s < 128 → L f (16524 + j) ≠ 0 → nm (T.view c.D (L f (16524 + j))) (4 * s) 4=L f (kid (16524 + j) s):=fun s hs hz => kid_nm ht hf (by omega) (by omega) hs hz
      have h4:=all4_any c w2 O T n x F fb ob eb bb tb base hB2 _ _ G2 hA2 hw2 j (L f (16524 + j)) hj (fun hne => by obtain ⟨_,_,q1,q2⟩:=ht.inn f _ hne; exact ⟨q1,q2⟩) (fun hne s hs hne2 => by
        rw [hk2 s hs hne] at hne2 ⊢
        obtain ⟨_,_,q1,q2⟩:=ht.inn f _ hne2; exact ⟨q1,q2⟩) (by have:=hls j; omega) (by have:=sumN_le1 (f:=fun i => one1 (L f (16524 + i))) (fun i => one1_le _) j; omega)
      have e:(if L f (16524 + j)=0 then 0 else sumN (fun s => one1 (nm (T.view c.D (L f (16524 + j))) (4 * s) 4)) 128)=leafs L f (16524 + j):=by
        unfold leafs
        by_cases hz:L f (16524 + j)=0
        · rw [if_pos hz,if_pos hz]
        · rw [if_neg hz,if_neg hz]
          exact sumN_congr _ (fun s hs => by rw [hk2 s hs hz])
      rw [e] at h4
      exact h4)
end
set_option maxRecDepth 100000 in
set_option maxHeartbeats 1600000 in
theorem ball_any (c:Cx)(w:World)(O:Nat → Prop)(T:Tn)(n:Nat)(he:Env c w O T n)(X:Nat → Ino)(L:Nat → Nat → Nat)(h:Tree0 n (T.view c.D) X L)(f:Nat)(hf:f < 3) :
    Calls Tryz.prog 89 #[.pointer (some ⟨c.t,0,none⟩),geoV n,.agg (X f).C] w fun e w' => (∃ A cA B cB a b,e=.returned (.tuple #[.slice A a cA,.slice B b cB,.int .i64 0]) ∧ a + b=cntP (pres L f) 16652) ∧ Below w.heap.size w w':=by
  obtain ⟨x,hx⟩:∃ x,X f=x:=⟨_,rfl⟩
  have hnum:∀ k,k < 10 → x.num k=L f k:=fun k hk => by
    have:=h.ref f k hf (by omega) (fun e => e)
    rw [refn_root (by unfold par; rw [if_pos hk]),show slot k=k by unfold slot; rw [if_pos hk],hx] at this
    exact this.symm
  have hn10:x.num 10=L f 16522:=by
    have:=h.ref f 16522 hf (by omega) (fun e => e)
    rw [refn_root (by decide),show slot 16522=10 by decide,hx] at this
    exact this.symm
  have hn11:x.num 11=L f 16523:=by
    have:=h.ref f 16523 hf (by omega) (fun e => e)
    rw [refn_root (by decide),show slot 16523=11 by decide,hx] at this
    exact this.symm
  rw [hx]
  unfold Ino.C
  obtain ⟨hb0,i0,i1⟩:=two_new w #[.int .i64 (n:Int),.int .i64 98,.int .i64 (ino n:Int),.int .i64 (dat n:Int),.int .i64 (cnt n:Int)] x.C 31 44
  obtain ⟨W1,hW1⟩:∃ W1,(w.alloc (.cells #[.int .i64 (n:Int),.int .i64 98,.int .i64 (ino n:Int),.int .i64 (dat n:Int),.int .i64 (cnt n:Int)] 31)).alloc (.cells x.C 44)=W1:=⟨_,rfl⟩
  have hz1:W1.heap.size=w.heap.size + 2:=by rw [← hW1]; simp [World.size_alloc]
  rw [hW1] at hb0 i0 i1
  have hWW:=hW1
  unfold Ino.C at hWW
  have HE:=Lib.hid (he.later hb0)
  have HB0:=Lib.hid hb0
  have HX1:=Lib.hid i1
  have hwl:=he.wd.lt
  have hOl:=he.tx.lt
  have d10:W1.cell? ⟨w.heap.size,0,none⟩=some (.int .i64 (n:Int)):=i0.cell 0
  have d11:W1.cell? ⟨w.heap.size,1,none⟩=some (.int .i64 98):=i0.cell 1
  have d12:W1.cell? ⟨w.heap.size,2,none⟩=some (.int .i64 (ino n:Int)):=i0.cell 2
  have d13:W1.cell? ⟨w.heap.size,3,none⟩=some (.int .i64 (dat n:Int)):=i0.cell 3
  have d14:W1.cell? ⟨w.heap.size,4,none⟩=some (.int .i64 (cnt n:Int)):=i0.cell 4
  have d20:W1.cell? ⟨w.heap.size + 1,0,none⟩=some (.int .i64 (x.kind:Int)):=i1.cell 0
  have d21:W1.cell? ⟨w.heap.size + 1,1,none⟩=some (.int .i64 (x.links:Int)):=i1.cell 1
  have d22:W1.cell? ⟨w.heap.size + 1,2,none⟩=some (.int .i64 (x.size:Int)):=i1.cell 2
  have d23:W1.cell? ⟨w.heap.size + 1,3,none⟩=some (.int .i64 (x.num 0:Int)):=i1.cell 3
  have d24:W1.cell? ⟨w.heap.size + 1,4,none⟩=some (.int .i64 (x.num 1:Int)):=i1.cell 4
  have d25:W1.cell? ⟨w.heap.size + 1,5,none⟩=some (.int .i64 (x.num 2:Int)):=i1.cell 5
  have d26:W1.cell? ⟨w.heap.size + 1,6,none⟩=some (.int .i64 (x.num 3:Int)):=i1.cell 6
  have d27:W1.cell? ⟨w.heap.size + 1,7,none⟩=some (.int .i64 (x.num 4:Int)):=i1.cell 7
  have d28:W1.cell? ⟨w.heap.size + 1,8,none⟩=some (.int .i64 (x.num 5:Int)):=i1.cell 8
  have d29:W1.cell? ⟨w.heap.size + 1,9,none⟩=some (.int .i64 (x.num 6:Int)):=i1.cell 9
  have d210:W1.cell? ⟨w.heap.size + 1,10,none⟩=some (.int .i64 (x.num 7:Int)):=i1.cell 10
  have d211:W1.cell? ⟨w.heap.size + 1,11,none⟩=some (.int .i64 (x.num 8:Int)):=i1.cell 11
  have d212:W1.cell? ⟨w.heap.size + 1,12,none⟩=some (.int .i64 (x.num 9:Int)):=i1.cell 12
  have d213:W1.cell? ⟨w.heap.size + 1,13,none⟩=some (.int .i64 (x.num 10:Int)):=i1.cell 13
  have d214:W1.cell? ⟨w.heap.size + 1,14,none⟩=some (.int .i64 (x.num 11:Int)):=i1.cell 14
  have HH:=Lib.hid h
  have HNM:=Lib.hid hnum
  have HN10:=Lib.hid hn10
  have HN11:=Lib.hid hn11
  have HOL:=Lib.hid hOl
  obtain ⟨t,ht⟩:∃ t,c.t=t:=⟨_,rfl⟩
  have HTT:=Lib.hid ht
  rw [ht]
  clear hW1 hb0 i0 i1 he h hnum hn10 hn11 hOl ht
  go_enter Tryz.func89,Tryz.ntmps89
  obtain ⟨hb2,iF,iP⟩:=two_new W1 (fileC t n x) #[.pointer (some ⟨w.heap.size + 2,0,none⟩)] 142 140
  rw [hz1] at iF iP
  obtain ⟨W2,hW2⟩:∃ W2,(W1.alloc (.cells (fileC t n x) 142)).alloc (.cells #[.pointer (some ⟨w.heap.size + 2,0,none⟩)] 140)=W2:=⟨_,rfl⟩
  have hz2:W2.heap.size=w.heap.size + 4:=by rw [← hW2]; simp [World.size_alloc,hz1]
  rw [hW2] at hb2 iF iP
  obtain ⟨hb3,ib,it⟩:=two_new W2 #[.slice none 0 0] #[.slice none 0 0] 167 39
  rw [hz2] at ib it
  obtain ⟨W3,hW3⟩:∃ W3,(W2.alloc (.cells #[.slice none 0 0] 167)).alloc (.cells #[.slice none 0 0] 39)=W3:=⟨_,rfl⟩
  have hz3:W3.heap.size=w.heap.size + 6:=by rw [← hW3]; simp [World.size_alloc,hz2]
  rw [hW3] at hb3 ib it
  obtain ⟨hb4,io,ie⟩:=two_new W3 #[.func (.func 125) #[] #[.pointer (some ⟨w.heap.size + 4,0,none⟩),.pointer (some ⟨w.heap.size + 3,0,none⟩)]] #[.func (.func 126) #[] #[.pointer (some ⟨w.heap.size + 3,0,none⟩),.pointer (some ⟨w.heap.size + 5,0,none⟩)]] 204 205
  rw [hz3] at io ie
  obtain ⟨W,hW⟩:∃ W,(W3.alloc (.cells #[.func (.func 125) #[] #[.pointer (some ⟨w.heap.size + 4,0,none⟩),.pointer (some ⟨w.heap.size + 3,0,none⟩)]] 204)).alloc (.cells #[.func (.func 126) #[] #[.pointer (some ⟨w.heap.size + 3,0,none⟩),.pointer (some ⟨w.heap.size + 5,0,none⟩)]] 205)=W:=⟨_,rfl⟩
  have hz4:W.heap.size=w.heap.size + 8:=by rw [← hW]; simp [World.size_alloc,hz3]
  rw [hW] at hb4 io ie
  have hW2':=hW2
  have hW3':=hW3
  have hW4':=hW
  unfold fileC at hW2'
  clear hW2 hW3 hW
  have hbW:=hb2.trans ((hb3.mono hb2.size).trans (hb4.mono (by omega)))
  have HBW:=Lib.hid hbW
  have J0:=Lib.hid ((iF.below hb3 iF.lt).below hb4 (by omega))
  have J1:=Lib.hid ((iP.below hb3 iP.lt).below hb4 (by omega))
  have J2:=Lib.hid (ib.below hb4 ib.lt)
  have J3:=Lib.hid (it.below hb4 it.lt)
  have J4:=Lib.hid io
  have J5:=Lib.hid ie
  have J6:=Lib.hid (HX1.out.below hbW HX1.out.lt)
  clear iF iP ib it io ie hb2 hb3 hb4 hbW
  go_wp2_with fail
  generalize q7:w.heap.size + 6 + 1=eb
  generalize q6:w.heap.size + 6=ob
  generalize q5:w.heap.size + 4 + 1=tb
  generalize q4:w.heap.size + 4=bb
  generalize q3:w.heap.size + 2 + 1=fb
  generalize q2:w.heap.size + 2=F
  generalize q1:w.heap.size + 1=xb
  rw [show w.heap.size + 6 + 1=eb by omega] at J5
  rw [show w.heap.size + 6=ob by omega] at J4
  rw [show w.heap.size + 4 + 1=tb by omega] at J3
  rw [show w.heap.size + 4=bb by omega] at J2
  rw [show w.heap.size + 2 + 1=fb by omega] at J1
  rw [show w.heap.size + 2=F by omega] at J0
  rw [show w.heap.size + 1=xb by omega] at J6
  have hlt:=HOL.out
  have hB:AllB c W O T n x F fb ob eb bb tb (w.heap.size + 8):=⟨HE.out.below HBW.out (Nat.le_refl _),by rw [← HTT.out] at J0; exact J0.out,by have:=J1.out; rw [show w.heap.size + 2=F by omega] at this; exact this,by have:=J4.out; rw [show w.heap.size + 4=bb by omega,show w.heap.size + 3=fb by omega] at this; exact this,by have:=J5.out; rw [show w.heap.size + 3=fb by omega,show w.heap.size + 5=tb by omega] at this; exact this,by omega,by omega,fun i hi => by have:=hlt i hi; omega,by omega⟩
  have hA:AllAt W (w.heap.size + 8) bb tb 0 0 (fun _ => False):=⟨none,0,[],none,0,[],J2.out,J3.out,Prs.nil _ _,Nums.nil _ _,rfl,rfl,fun i => by unfold Of; simp⟩
  obtain ⟨base,hbase⟩:∃ base,w.heap.size + 8=base:=⟨_,rfl⟩
  rw [hbase] at hB hA
  have hWs:base ≤ W.heap.size:=by omega
  have HWW:=Lib.hid (HB0.out.trans (HBW.out.mono HB0.out.size))
  have hbw:w.heap.size ≤ bb ∧ w.heap.size ≤ tb:=by omega
  have HBB:=Lib.hid hB
  have HAA:=Lib.hid hA
  have hne1:xb ≠ bb ∧ xb ≠ tb:=by omega
  have hxl:xb < base:=by omega
  obtain ⟨l1,l2,l3,l4,l5,l6⟩:=hB.lt
  obtain ⟨n1,n2,n3,n4,n5,n6,n7,n8,n9⟩:=hB.ne
  clear hB hA q1 q2 q3 q4 q5 q6 q7 hbase hlt hwl hz1 hz2 hz3 hz4 hWW hW2' hW3' hW4' d10 d11 d12 d13 d14 d20 d21 d22 d23 d24 d25 d26 d27 d28 d29 d210 d211 d212 d213 d214
  go_loopw [14,15] (fun v14 v15 wr => ∃ k:Nat,k ≤ 10 ∧ v14=.int .i64 0 ∧ v15=.int .i64 (k:Int) ∧ ∃ G2,AllAt wr base bb tb (sumN (fun j => one1 (L f j)) k) 0 G2 ∧ FrX (fun i => i=bb ∨ i=tb) W (fun _ => False) wr G2) (fun _ v _ => 10 - (intOf v).toNat)
  case atStart => exact ⟨0,by omega,rfl,rfl,_,HAA.out,FrX.of_below (Below.refl _ _)⟩
  case round =>
    obtain ⟨k,hk,rfl,rfl,G2,hA2,hF2⟩:=hrel
    have hB2:=HBB.out.frX hF2 (fun _ e => e.elim)
    have hws2:=hF2.size
    have hs2:=sumN_le1 (f:=fun j => one1 (L f j)) (fun i => one1_le _) k
    have co:wr.cell? ⟨ob,0,none⟩=some (.func (.func 125) #[] #[.pointer (some ⟨bb,0,none⟩),.pointer (some ⟨fb,0,none⟩)]):=hB2.o.cell 0
    have ce:wr.cell? ⟨eb,0,none⟩=some (.func (.func 126) #[] #[.pointer (some ⟨fb,0,none⟩),.pointer (some ⟨tb,0,none⟩)]):=hB2.e.cell 0
    have HX2:=Lib.hid (J6.out.frX hF2 (fun e => e.elim) (by omega))
    have HF2:=Lib.hid hF2
    have HA2:=Lib.hid hA2
    have HB2:=Lib.hid hB2
    by_cases hlt:k < 10
    · have hlt2:(k:Int) < 10:=by omega
      have hge2:(0:Int) ≤ (k:Int):=by omega
      obtain ⟨num,hnm⟩:∃ num,L f k=num:=⟨_,rfl⟩
      have hc:wr.cell? ⟨xb,3 + k,none⟩=some (.int .i64 (num:Int)):=by
        rw [← hnm,← HNM.out k hlt]; exact (HX2.out.cell (3 + k)).trans (inoC_num x k (by omega))
      have HC:=Lib.hid (own1_any c wr.drew O T n x F fb ob eb bb tb base (hB2.later (Below.refl _ wr).drew) _ 0 G2 (hA2.later (Below.refl _ wr).drew) (by show base ≤ wr.heap.size; omega) k num (fun hne => by rw [← hnm] at hne ⊢; obtain ⟨_,_,q1,q2⟩:=HH.out.inn f k hne; exact ⟨q1,q2⟩) (by omega))
      have HNU:=Lib.hid hnm
      rw [show (if num=0 then 0 else 1)=one1 num from rfl] at HC
      clear hA2 hF2 hB2 hnm
      go_wp2_with fail
      go_still_tail 6,(by kernel_rfl)
      go_wp2_with (
        go_at_call 125
        refine HC.out.mono ?_
        rintro e w6 ⟨rfl,G6,hA6,hF6⟩
        have HA6:=Lib.hid hA6
        have HF6:=Lib.hid hF6
        clear hA6 hF6)
      go_roundw
      case rel => exact ⟨k + 1,by omega,rfl,by go_num,G6,by rw [← HNU.out] at HA6; exact HA6.out,HF2.out.trans ((FrX.of_below (Below.refl _ wr).drew).trans HF6.out)⟩
      case measure => simp [intOf]; omega
    · have hge:¬ (k:Int) < 10:=by omega
      have hk10:k=10:=by omega
      rw [hk10] at HA2 hs2
      have hc13:wr.cell? ⟨xb,13,none⟩=some (.int .i64 (L f 16522:Int)):=by rw [← HN10.out]; exact HX2.out.cell 13
      have hc14:wr.cell? ⟨xb,14,none⟩=some (.int .i64 (L f 16523:Int)):=by rw [← HN11.out]; exact HX2.out.cell 14
      have HC1:=Lib.hid (allOne c wr O T n x F fb ob eb bb tb base hB2 _ 0 G2 HA2.out (by omega) X L f HH.out hf hs2 rfl)
      clear hA2 hF2 hB2 hk10 hk
      go_wp2_with fail
      go_at_call 126
      refine HC1.out.mono ?_
      rintro e w6 ⟨rfl,G6,hA6,hF6⟩
      have hG2:∀ i,G2 i → base ≤ i:=fun i e => (HA2.out.ge i e).1
      have hB6:=HB2.out.frX hF6 hG2
      have hs6:=hF6.size
      have ce6:w6.cell? ⟨eb,0,none⟩=some (.func (.func 126) #[] #[.pointer (some ⟨fb,0,none⟩),.pointer (some ⟨tb,0,none⟩)]):=hB6.e.cell 0
      have hc146:w6.cell? ⟨xb,14,none⟩=some (.int .i64 (L f 16523:Int)):=by rw [← HN11.out]; exact (HX2.out.frX hF6 (fun e => by have:=hG2 _ e; omega) (by omega)).cell 14
      have h1le:=one1_le (L f 16522)
      have hl1:leafs L f 16522 ≤ 128:=by unfold leafs; split; omega; exact sumN_le1 (fun i => one1_le _) 128
      have HC2:=Lib.hid (allTwo c w6 O T n x F fb ob eb bb tb base hB6 _ _ G6 hA6 (by omega) X L f HH.out hf (by omega) (by omega))
      have HF6:=Lib.hid (HF2.out.trans hF6)
      have HGE6:=Lib.hid hA6.ge
      clear hB6 hA6 hF6 hG2
      go_wp2_with fail
      go_at_call 126
      refine HC2.out.mono ?_
      rintro e w7 ⟨rfl,G7,hA7,hF7⟩
      obtain ⟨A,cA,ps,B,cB,ts,i1,i2,p1,p2,hpa,htb,hG⟩:=hA7
      have cA7:w7.cell? ⟨bb,0,none⟩=some (.slice A ps.length cA):=i1.cell 0
      have cB7:w7.cell? ⟨tb,0,none⟩=some (.slice B ts.length cB):=i2.cell 0
      have HF7:=Lib.hid (HF6.out.trans hF7)
      have HPA:=Lib.hid hpa
      have HTB:=Lib.hid htb
      clear i1 i2 p1 p2 hpa htb hG hF7
      go_wp2_with fail
      go_quiet (fail)
      all_goals go_wp2_with fail
      all_goals refine bodyPost_ret (v:=.tuple #[.slice A ps.length cA,.slice B ts.length cB,.int .i64 0]) (by simp [results,Tryz.results89,go_sem]) rfl ?_
      have HBF:=HF7.out.1.below (by have:=HWW.out.size; omega) (fun i e => by rcases e with e | e | e; exact e.elim; omega; omega)
      all_goals refine ⟨⟨A,cA,B,cB,ps.length,ts.length,rfl,?_⟩,by first | exact HWW.out.trans HBF | exact HWW.out.trans HBF.drew | exact HWW.out.trans (below_drewN HBF _)⟩
      rw [HPA.out,HTB.out]
      have:=all_count HH.out (f:=f)
      omega
end Go.Proofs.YthkijogloebdoaaGreatDoor
end
section
namespace Go.Proofs.YthkijogloebdoaaGreatDoor
open Go.RowKit Go.Maps Rec Gp Fs
set_option maxRecDepth 100000 in
set_option maxHeartbeats 800000 in
theorem fblocks_any (c:Cx)(w:World)(O:Nat → Prop)(T:Tn)(n:Nat)(he:Env c w O T n)(X:Nat → Ino)(L:Nat → Nat → Nat)(h:Tree0 n (T.view c.D) X L)(f:Nat)(hf:f < 3)(hi:f + 2 < cnt n)(hx:InoAt (T.view c.D) n (f + 2) (X f))(hk:(X f).kind ≠ 0) :
    Calls Tryz.prog 50 #[.pointer (some ⟨c.t,0,none⟩),geoV n,.int .i64 ((f + 2:Nat):Int)] w fun e w' => e=.returned (.tuple #[.int .i64 (cntP (pres L f) 16652:Int),.int .i64 0]) ∧ Below w.heap.size w w':=by
  obtain ⟨hb0,i0⟩:=one_new w #[.int .i64 (n:Int),.int .i64 98,.int .i64 (ino n:Int),.int .i64 (dat n:Int),.int .i64 (cnt n:Int)] 31
  obtain ⟨W,hW⟩:∃ W,w.alloc (.cells #[.int .i64 (n:Int),.int .i64 98,.int .i64 (ino n:Int),.int .i64 (dat n:Int),.int .i64 (cnt n:Int)] 31)=W:=⟨_,rfl⟩
  rw [hW] at hb0 i0
  have hE:=he.later hb0
  have HG:=Lib.hid (fget_any c W O T n hE (f + 2) (X f) (by omega) hi hx hk)
  obtain ⟨i,hii⟩:∃ i,f + 2=i:=⟨_,rfl⟩
  rw [hii] at HG ⊢
  have d10:W.cell? ⟨w.heap.size,0,none⟩=some (.int .i64 (n:Int)):=i0.cell 0
  have d11:W.cell? ⟨w.heap.size,1,none⟩=some (.int .i64 98):=i0.cell 1
  have d12:W.cell? ⟨w.heap.size,2,none⟩=some (.int .i64 (ino n:Int)):=i0.cell 2
  have d13:W.cell? ⟨w.heap.size,3,none⟩=some (.int .i64 (dat n:Int)):=i0.cell 3
  have d14:W.cell? ⟨w.heap.size,4,none⟩=some (.int .i64 (cnt n:Int)):=i0.cell 4
  have hle:cntP (pres L f) 16652 ≤ 16652:=cntP_le _ _
  have HE:=Lib.hid hE
  have HH:=Lib.hid h
  have HB0:=Lib.hid hb0
  have HI0:=Lib.hid i0
  obtain ⟨x,hxx⟩:∃ x,X f=x:=⟨_,rfl⟩
  have HAL:=Lib.hid (fun w1 (hb:Below W.heap.size W w1) => ball_any c w1 O T n (hE.later hb) X L h f hf)
  rw [hxx] at HG HAL
  obtain ⟨m,hm⟩:∃ m,cntP (pres L f) 16652=m:=⟨_,rfl⟩
  rw [hm] at HAL hle ⊢
  obtain ⟨t,ht⟩:∃ t,c.t=t:=⟨_,rfl⟩
  rw [ht] at HG HAL ⊢
  unfold Ino.C at HG HAL
  clear he h hx hk hE hb0 i0 hxx hm ht
  go_enter Tryz.func50,Tryz.ntmps50
  go_wp2_with (first
    | (go_at_call 33
       refine HG.out.mono ?_
       rintro e w1 ⟨rfl,hb1⟩
       have HB1:=Lib.hid hb1
       have e10:w1.cell? ⟨w.heap.size,0,none⟩=some (.int .i64 (n:Int)):=(HI0.out.below hb1 HI0.out.lt).cell 0
       have e11:w1.cell? ⟨w.heap.size,1,none⟩=some (.int .i64 98):=(HI0.out.below hb1 HI0.out.lt).cell 1
       have e12:w1.cell? ⟨w.heap.size,2,none⟩=some (.int .i64 (ino n:Int)):=(HI0.out.below hb1 HI0.out.lt).cell 2
       have e13:w1.cell? ⟨w.heap.size,3,none⟩=some (.int .i64 (dat n:Int)):=(HI0.out.below hb1 HI0.out.lt).cell 3
       have e14:w1.cell? ⟨w.heap.size,4,none⟩=some (.int .i64 (cnt n:Int)):=(HI0.out.below hb1 HI0.out.lt).cell 4
       have hs1:=hb1.size
       have hl0:=HI0.out.lt
       have hl1:w.heap.size < w1.heap.size:=by omega
       have HB2:=Lib.hid (hb1.trans ((below_new w1 (.cells x.C 44)).mono hs1))
       clear hb1)
    | (go_at_call 89
       refine (HAL.out _ HB2.out).mono ?_
       rintro e w2 ⟨⟨A,cA,B,cB,a,b,rfl,hab⟩,hb2⟩
       have HB3:=Lib.hid hb2
       have habi:(a:Int) + (b:Int)=(m:Int):=by omega
       have hwr:=IntWalk.i64_in (n:=(m:Int)) (by omega)
       have hwr2:IntKind.i64.wrap ((a:Int) + (b:Int))=(m:Int):=by rw [habi]; exact hwr
       clear hb2))
  refine bodyPost_ret (v:=.tuple #[.int .i64 (m:Int),.int .i64 0]) (by simp [results,Tryz.results50,go_sem]) rfl ?_
  have hs0:=HB0.out.size
  exact ⟨rfl,HB0.out.trans ((HB2.out.mono hs0).trans (HB3.out.mono (by have:=HB2.out.size; omega)))⟩
end Go.Proofs.YthkijogloebdoaaGreatDoor
end
section
namespace Go.Proofs.YthkijogloebdoaaGreatDoor
open Go.RowKit Go.Maps Rec Gp Fs
set_option maxRecDepth 100000 in
set_option maxHeartbeats 6400000 in
theorem told_any (c:Cx)(w:World)(O:Nat → Prop)(T:Tn)(n:Nat)(he:Env c w O T n)(X:Nat → Ino)(L:Nat → Nat → Nat)(Q:Nat → Pl)(h:FsIn n (T.view c.D) X L Q)(f:Nat)(hf:f < 3)
    (lo hi m:Nat)(G C:Nat → Nat)(D:DataW Value)(hp:PM w lo hi m (Q f).B G C D)(hhi:hi ≤ w.heap.size) :
    Calls Tryz.prog 23 #[.pointer (some ⟨c.t,0,none⟩),geoV n,.int .i64 ((f + 2:Nat):Int),.agg #[.map (some m),.int .i64 ((Q f).size:Int)]] w fun e w' => e=.returned (.bool true) ∧ Below w.heap.size w w':=by
  obtain ⟨hb0,i0,i1⟩:=two_new w (geoL n) #[.map (some m),.int .i64 ((Q f).size:Int)] 31 47
  obtain ⟨W,hW⟩:∃ W,(w.alloc (.cells (geoL n) 31)).alloc (.cells #[.map (some m),.int .i64 ((Q f).size:Int)] 47)=W:=⟨_,rfl⟩
  have hz1:W.heap.size=w.heap.size + 2:=by rw [← hW]; simp [World.size_alloc]
  rw [hW] at hb0 i0 i1
  have hcnt:f + 2 < cnt n:=by have:=(geo_facts he.hn).1; unfold cnt; omega
  obtain ⟨hk1,_,hk3⟩:=h.kind f hf
  have htk:=takes_of h.tree (h.live f hf) (h.has f hf)
  have htl:=takes_le (Q f)
  have hok:=h.ok f hf
  have hszP:=hok.size
  have HGET:=Lib.hid (iget_any c W O T (he.later hb0).tx n (f + 2) (X f) he.hn he.hN (by omega) hcnt (h.ino f hf) (he.later hb0).wd)
  have HBLK:=Lib.hid (fun w1 (hb:Below W.heap.size W w1) => fblocks_any c w1 O T n ((he.later hb0).later hb) X L h.tree f hf hcnt (h.ino f hf) (by omega))
  have HTK:=Lib.hid (fun w1 (hb:Below W.heap.size W w1) => ptakes_any w1 lo hi m (Q f) G C D ((hp.below hb0 hhi).below hb (by omega)) (by have:=hb.size; omega))
  have HRD:=Lib.hid (fun w1 (hb:Below W.heap.size W w1) (off size:Nat) (h5:size ≤ 5000) (ho:off ≤ 9223372036854775807) => fread_any c w1 O T n ((he.later hb0).later hb) X L Q h f hf off size h5 ho)
  have HPR:=Lib.hid (fun w1 (hb:Below W.heap.size W w1) (off size:Nat) (h5:size ≤ 5000) (ho:off ≤ 9223372036854775807) => pread_any w1 lo hi m (Q f) hok G C D ((hp.below hb0 hhi).below hb (by omega)) (by have:=hb.size; omega) off size ho h5)
  have HPM:=Lib.hid (hp.below hb0 hhi)
  have HB0:=Lib.hid hb0
  have HI0:=Lib.hid i0
  have HI1:=Lib.hid i1
  have hml:=hp.m1
  rw [htk] at HBLK
  obtain ⟨x,hx⟩:∃ x,X f=x:=⟨_,rfl⟩
  obtain ⟨sz,hsz⟩:∃ sz,(Q f).size=sz:=⟨_,rfl⟩
  obtain ⟨tk,htk⟩:∃ tk,(Q f).takes=tk:=⟨_,rfl⟩
  obtain ⟨t,ht⟩:∃ t,c.t=t:=⟨_,rfl⟩
  obtain ⟨i,hii⟩:∃ i,f + 2=i:=⟨_,rfl⟩
  rw [hx,hsz] at hk3
  rw [hx,ht,hii] at HGET
  rw [htk] at htl
  rw [hsz] at hszP
  simp only [htk,ht,hii,hsz] at HBLK HTK HRD HPR HI1 hW ⊢
  have d20:W.cell? ⟨w.heap.size + 1,0,none⟩=some (.map (some m)):=HI1.out.cell 0
  have d21:W.cell? ⟨w.heap.size + 1,1,none⟩=some (.int .i64 (sz:Int)):=HI1.out.cell 1
  obtain ⟨d10,d11,d12,d13,d14⟩:=geo5 i0
  unfold geoL at hW
  clear he h hp hb0 i0 i1 hx ht hii hok
  go_enter Tryz.func23,Tryz.ntmps23
  go_upto_region 3 with (first
    | (go_at_call 27
       refine HGET.out.mono ?_
       rintro e w1 ⟨rfl,hb1⟩
       have HB1:=Lib.hid hb1
       have hs1:=hb1.size
       have HY1:=Lib.hid (Is.new w1 44 zeroC)
       clear hb1)
    | (refine wpList_store_row_k rfl 44 (.tmp 9) (.tmp 23) rfl w1.heap.size x.C rfl rfl 44 zeroC HY1.out size15 rfl (inoC_one _) ?_
       intro w2 hy2 hk2
       have HY2:=Lib.hid hy2
       have HB2:=Lib.hid (show Below W.heap.size W w2 from HB1.out.trans (((below_new w1 _).mono (by omega)).trans (hk2.below (by rw [World.size_alloc]; omega) (fun j e => by rw [show j=w1.heap.size from e]; omega))))
       obtain ⟨e10,e11,e12,e13,e14⟩:=geo5 (HI0.out.below HB2.out HI0.out.lt)
       clear hy2 hk2)
    | (go_at_call 50
       refine (HBLK.out _ HB2.out).mono ?_
       rintro e w3 ⟨rfl,hb3⟩
       have HB3:=Lib.hid (HB2.out.trans (hb3.mono HB2.out.size))
       have HY3:=Lib.hid (HY2.out.below hb3 HY2.out.lt)
       have hs3:=HB3.out.size
       have f9:w3.cell? ⟨w1.heap.size,2,none⟩=some (.int .i64 (x.size:Int)):=x15 HY3.out
       have g0:w3.cell? ⟨w.heap.size + 1,0,none⟩=some (.map (some m)):=(HI1.out.below HB3.out HI1.out.lt).cell 0
       have g1:w3.cell? ⟨w.heap.size + 1,1,none⟩=some (.int .i64 (sz:Int)):=(HI1.out.below HB3.out HI1.out.lt).cell 1
       rw [hk3] at f9
       clear hb3))
  clear HGET HBLK
  go_wp2_with (first
    | (go_at_call 32
       refine (HTK.out _ HB3.out).mono ?_
       rintro e w4 ⟨rfl,hb4⟩
       have HB4:=Lib.hid (HB3.out.trans (hb4.mono HB3.out.size))
       have hs4:=HB4.out.size
       have e0:w4.cell? ⟨w.heap.size + 1,0,none⟩=some (.map (some m)):=(HI1.out.below HB4.out HI1.out.lt).cell 0
       have HOWN:=Lib.hid (HPM.out.below HB4.out (by omega)).own
       clear hb4)
    | (at_range; refine wpList_range_own _ rfl _ 45 rfl 3 28 lawI Tryz.underlying45 _ m (Maps.size D) _ rfl HOWN.out ?_; intro w0 hrg0 hg0 hs0))
  go_frame
  obtain ⟨r,hr⟩:∃ r,w4.heap.size=r:=⟨_,rfl⟩
  rw [hr] at hrg0 hs0 ⊢
  have HRG0:=Lib.hid hrg0
  have HB0':=Lib.hid (show Below W.heap.size W w0 from HB4.out.grown hg0 (by omega) (fun j hj => by cases hj))
  have hrW:W.heap.size ≤ r:=by omega
  clear hrg0 hg0
  go_loopw [13] (fun _ wr => ∃ (left:Lit → Bool) (cnt:Nat),wr.ranges Tryz.prog 3 RV m r (Maps.size D) D left cnt ∧ Below W.heap.size W wr) (fun _ wr => wr.rangeLeft m r)
  case atStart => exact ⟨_,_,HRG0.out,HB0'.out⟩
  case round =>
    obtain ⟨left,cnt,hrg,hbw⟩:=hrel
    have HRG:=Lib.hid hrg
    have HBW:=Lib.hid hbw
    have hsw:=hbw.size
    have hrl:=hrg.lt
    clear hrg hbw
    go_wp2_with (first
      | (at_next; refine wpList_next_ranges _ rfl (.tmp 53) rfl 3 lawI RV (fun x:Int => .int .i64 x) (fun v:Value => v) (fun key kl hk => by obtain ⟨x,e,_⟩:=Maps.keyOf_int_inv Tryz.underlying3 hk; exact ⟨x,e⟩) (fun v y _ => ⟨v,rfl⟩) m r (Maps.size D) D left cnt rfl HRG.out ?_ ?_))
    · intro hc0 hl0
      have g1:wr.cell? ⟨w.heap.size + 1,1,none⟩=some (.int .i64 (sz:Int)):=(HI1.out.below HBW.out HI1.out.lt).cell 1
      have g0:wr.cell? ⟨w.heap.size + 1,0,none⟩=some (.map (some m)):=(HI1.out.below HBW.out HI1.out.lt).cell 0
      obtain ⟨e10,e11,e12,e13,e14⟩:=geo5 (HI0.out.below HBW.out HI0.out.lt)
      obtain ⟨at_,hat⟩:∃ at_:Nat,sz - 700=at_:=⟨_,rfl⟩
      have u1:=i64_wr ((sz:Int) - 700) (by omega)
      have hmx:=run_max_ii 0 ((sz:Int) - 700) (at_:Int) (by rw [← hat]; split <;> omega)
      have hat9:at_ ≤ 9223372036854775807:=by omega
      clear hl0
      go_wp2_with (first
        | (go_at_call 19
           refine (HRD.out _ HBW.out at_ 2000 (by omega) hat9).mono ?_
           rintro e w5 ⟨rfl,hb5⟩
           have HB5:=Lib.hid (HBW.out.trans (hb5.mono HBW.out.size))
           have hs5:=HB5.out.size
           have k1:w5.cell? ⟨w.heap.size + 1,1,none⟩=some (.int .i64 (sz:Int)):=(HI1.out.below HB5.out HI1.out.lt).cell 1
           have k0:w5.cell? ⟨w.heap.size + 1,0,none⟩=some (.map (some m)):=(HI1.out.below HB5.out HI1.out.lt).cell 0
           clear hb5)
        | (go_at_call 20
           refine (HPR.out _ HB5.out at_ 2000 (by omega) hat9).mono ?_
           rintro e w6 ⟨rfl,hb6⟩
           have HB6:=Lib.hid (HB5.out.trans (hb6.mono HB5.out.size))
           clear hb6))
      go_ret
      exact ⟨rfl,HB0.out.trans (HB6.out.mono (by omega))⟩
    · intro x' c' kl y1 y2 w1' cnt1 hkey hlk hR hat hrg1 hlt hg1 hs1' hen
      obtain ⟨j,l,rfl,rfl,hi5,hbi,rfl⟩:=PM.entry (y:=(y1,y2)) HPM.out hkey hR hat
      have hb1:Below W.heap.size W w1':=HBW.out.grown hg1 (by omega) (fun k hk => by injection hk with hk; omega)
      have HB1:=Lib.hid hb1
      have hs1W:=hb1.size
      obtain ⟨e10,e11,e12,e13,e14⟩:=geo5 (HI0.out.below hb1 HI0.out.lt)
      have u1:=i64_wr ((j:Int) * 512) (by omega)
      have hj9:j * 512 ≤ 9223372036854775807:=by omega
      have HEJ:=Lib.hid (show ((j:Int) * 512)=((j * 512:Nat):Int) by omega)
      clear hb1
      go_wp2_with (first
        | (go_at_call 19
           rw [HEJ.out]
           refine (HRD.out _ HB1.out (j * 512) 512 (by omega) hj9).mono ?_
           rintro e w5 ⟨rfl,hb5⟩
           have HB5:=Lib.hid (HB1.out.trans (hb5.mono HB1.out.size))
           have HG5:=Lib.hid (show w1'.grownBy w5 none from ⟨hb5.os,hb5.tape,hb5.output,hb5.size,fun k hk _ => hb5.block k hk⟩)
           have hs5:=HB5.out.size
           have k1:w5.cell? ⟨w.heap.size + 1,1,none⟩=some (.int .i64 (sz:Int)):=(HI1.out.below HB5.out HI1.out.lt).cell 1
           have k0:w5.cell? ⟨w.heap.size + 1,0,none⟩=some (.map (some m)):=(HI1.out.below HB5.out HI1.out.lt).cell 0
           clear hb5)
        | (go_at_call 20
           rw [HEJ.out]
           refine (HPR.out _ HB5.out (j * 512) 512 (by omega) hj9).mono ?_
           rintro e w6 ⟨rfl,hb6⟩
           have HB6:=Lib.hid (HB5.out.trans (hb6.mono HB5.out.size))
           have HG6:=Lib.hid (HG5.out.trans (show w5.grownBy w6 none from ⟨hb6.os,hb6.tape,hb6.output,hb6.size,fun k hk _ => hb6.block k hk⟩))
           clear hb6))
      have hrg2:=hrg1.kept HG6.out (fun e => by cases e) (fun e => by cases e)
      refine ⟨⟨_,_,hrg2,HB6.out⟩,?_⟩
      rw [hrg2.left_eq,HRG.out.left_eq]; exact hlt
end Go.Proofs.YthkijogloebdoaaGreatDoor
end
