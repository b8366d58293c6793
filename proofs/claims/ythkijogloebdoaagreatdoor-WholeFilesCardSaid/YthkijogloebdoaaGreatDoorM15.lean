/-
  WholeFiles, the texts Pq Fst Fpa Pt Pal: lemmas for the proof that three files on one disk are plain rows of bytes. No conditions.
-/
import Derived.Test.YthkijogloebdoaaGreatDoorM14
import Derived.Test.YthkijogloebdoaaGreatDoorM07
import Derived.Test.YthkijogloebdoaaGreatDoorM09
import Derived.Test.YthkijogloebdoaaGreatDoorM10
import Derived.Test.YthkijogloebdoaaGreatDoorM12
import Derived.Deep.AppendLies
import Derived.Deep.RegionLaw
set_option linter.unusedVariables false
set_option linter.unusedSimpArgs false
section
namespace Go.Proofs.YthkijogloebdoaaGreatDoor
open Go.RowKit Go.Maps Rec Gp Fs
theorem lawI:Keyed Tryz.prog 3:=int_keyed Tryz.underlying3
theorem keyD_ne {i j:Nat}(h:j ≠ i):(keyD j).sameKey (keyD i)=false:=by
  refine Maps.sameKey_ne ?_
  intro e
  injection e with _ e
  omega
theorem keyD_same (i:Nat):(keyD i).sameKey (keyD i)=true:=by simp [keyD,Lit.sameKey]
theorem PM.agreeG {w w2:World}{lo hi m:Nat}{B:Nat → Option (List UInt8)}{G C:Nat → Nat}{D:DataW Value}(h:PM w lo hi m B G C D)(e:∀ k,lo ≤ k → k < hi → (k=m ∨ ∃ i,(B i).isSome=true ∧ G i=k) → w2.heap[k]? = w.heap[k]?):PM w2 lo hi m B G C D :=
  ⟨ownsMap_heap h.own (e m h.m0 h.m1 (.inl rfl)),h.m0,h.m1,h.keys,h.no,fun i l hb => by
    obtain ⟨q1,q2,q3,q4,q5,q6,q7⟩:=h.yes i l hb
    exact ⟨q1,q2,q3,q4,q5,q6.kept (e _ q4 q5 (.inr ⟨i,by rw [hb]; rfl,rfl⟩)),q7⟩,h.inj⟩
def doneB (B:Nat → Option (List UInt8))(left:Lit → Bool)(i:Nat):Option (List UInt8):=if left (keyD i)=true then none else B i
theorem doneB_step (B:Nat → Option (List UInt8))(left:Lit → Bool)(i:Nat):doneB B (fun z => left z && !z.sameKey (keyD i))=updB (doneB B left) i (B i):=by
  funext j
  unfold doneB updB
  by_cases e:j=i
  · subst e
    rw [if_pos rfl]
    simp only [keyD_same]
    simp
  · rw [if_neg e]
    simp only [keyD_ne e]
    simp
theorem doneB_end (B:Nat → Option (List UInt8))(left:Lit → Bool)(h:∀ k,left k=false):doneB B left=B:=by
  funext j
  unfold doneB
  rw [h]; rfl
theorem doneB_start {w:World}{lo hi m:Nat}{B:Nat → Option (List UInt8)}{G C:Nat → Nat}{D:DataW Value}(h:PM w lo hi m B G C D):doneB B (Maps.has D)=fun _ => none:=by
  funext j
  unfold doneB
  cases hb:B j with
  | none => split <;> rfl
  | some l => rw [if_pos (h.yes j l hb).1]
theorem step_append_u8 {ops:Array Oper}{o:Oper}{a:Act}{w:World}{K:Act → World → Prop}{Q:Exit → Act → World → Prop}{E:Prop}(hgd:o.guard=none)(s x:Operand)
    (ho:o.op=.call { callee:=.builtin .append,args := #[s,x],argTypes := #[28,28] })
    (base:Nat)(A:Option Addr)(cap:Nat)(l:List UInt8)(hs:a.eval s=.slice A l.length cap)(hown:Mine w base A cap l)
    (ad:Addr)(c:Nat)(news:List UInt8)(hx:a.eval x=.slice (some ad) news.length c)(hnews:Bytes w (some ad) news)(hpos:0 < news.length)
    (hbytes:l.length + news.length ≤ 140737488355328)(hbase:base ≤ w.heap.size)
    (h:∀ g cap' w',Mine w' base (some ⟨g,0,none⟩) cap' (l ++ news) → w.grownBy w' (Value.slice A l.length cap).ownBlock → Below base w w' → K (a.put o.dst (.slice (some ⟨g,0,none⟩) (l.length + news.length) cap')) w') :
    if Region.wanted o (yielded ops a.tmps)=true then Oper.wp Tryz.prog o a w K Q else E:=by
  obtain ⟨i0,hi,hz0,hz1,hz2⟩:=info_parts infoU8
  refine step_append_lies _ hgd s x 28 ho base 5 i0 (.int .u8 0) 1 1 Tryz.underlying28 hi hz0 hz1 hz2 rfl (by decide) _ l.length (cellsOf8 l) hs hown ad news.length c (cellsOf8 news) hx
      (by rw [cellsOf8_length,Nat.mul_one]) hnews.cells (cellsOf8_one _) hpos (by simp only [maxLen]; omega) (by omega) hbase w.heap.size rfl ?_
  intro g cap' w' hown' hg _ _
  rw [← cellsOf8_append] at hown'
  refine h g cap' w' (by unfold Mine; rw [List.length_append]; exact hown') hg ((Below.refl _ _).grown hg hbase (fun k hk => ?_))
  cases A with
  | none => cases hk
  | some aa =>
    injection hk with hk
    rcases hown.2 with ⟨hv,_⟩ | ⟨g,cap'',cur,hv,hgb,_⟩
    · cases hv
    · injection hv with hA
      injection hA with hA
      subst hA
      rw [← hk]; exact hgb
set_option maxRecDepth 100000 in
set_option maxHeartbeats 3200000 in
theorem copied_any (w:World)(lo hi m:Nat)(B:Nat → Option (List UInt8))(G C:Nat → Nat)(D:DataW Value)(sz:Nat)(h:PM w lo hi m B G C D)(hhi:hi ≤ w.heap.size) :
    Calls Tryz.prog 31 #[.agg #[.map (some m),.int .i64 (sz:Int)]] w fun e w' =>
      ∃ (m':Nat) (G' C':Nat → Nat) (D':DataW Value),e=.returned (.agg #[.map (some m'),.int .i64 (sz:Int)]) ∧ PM w' w.heap.size w'.heap.size m' B G' C' D' ∧ Below w.heap.size w w':=by
  obtain ⟨hb0,i0,i1⟩:=two_new w #[.map (some m),.int .i64 (sz:Int)] #[.map none,.int .i64 0] 47 47
  obtain ⟨W,hW⟩:∃ W,(w.alloc (.cells #[.map (some m),.int .i64 (sz:Int)] 47)).alloc (.cells #[.map none,.int .i64 0] 47)=W:=⟨_,rfl⟩
  have hz1:W.heap.size=w.heap.size + 2:=by rw [← hW]; simp [World.size_alloc]
  rw [hW] at hb0 i0 i1
  have hmm:=@run_makeMap Tryz.prog
  have c0:W.cell? ⟨w.heap.size,0,none⟩=some (.map (some m)):=i0.cell 0
  have c1:W.cell? ⟨w.heap.size,1,none⟩=some (.int .i64 (sz:Int)):=i0.cell 1
  have hbm:=below_new W (.map #[] 0)
  have hpm:=PM.new W G C
  obtain ⟨W1,hW1⟩:∃ W1,W.alloc (.map #[] 0)=W1:=⟨_,rfl⟩
  have hz2:W1.heap.size=w.heap.size + 3:=by rw [← hW1,World.size_alloc,hz1]
  rw [hW1] at hbm hpm
  rw [hz1] at hpm
  have d0:W1.cell? ⟨w.heap.size,0,none⟩=some (.map (some m)):=(i0.below hbm i0.lt).cell 0
  have d1:W1.cell? ⟨w.heap.size,1,none⟩=some (.int .i64 (sz:Int)):=(i0.below hbm i0.lt).cell 1
  have hb2:=below_new W1 (.cells #[.map (some (w.heap.size + 2)),.int .i64 (sz:Int)] 47)
  have i2:=Is.new W1 47 #[.map (some (w.heap.size + 2)),.int .i64 (sz:Int)]
  have hpm2:=hpm.below hb2 (by omega)
  obtain ⟨W2,hW2⟩:∃ W2,W1.alloc (.cells #[.map (some (w.heap.size + 2)),.int .i64 (sz:Int)] 47)=W2:=⟨_,rfl⟩
  have hz3:W2.heap.size=w.heap.size + 4:=by rw [← hW2,World.size_alloc,hz2]
  rw [hW2] at hb2 i2 hpm2
  rw [hz2] at i2
  have hb3:Below w.heap.size w W2:=hb0.trans ((hbm.mono (by omega)).trans (hb2.mono (by omega)))
  have e0:W2.cell? ⟨w.heap.size,0,none⟩=some (.map (some m)):=((i0.below hbm i0.lt).below hb2 (by omega)).cell 0
  have i1:=(i1.below hbm i1.lt).below hb2 (by omega)
  have hcm:=h.below hb3 hhi
  have hml:=h.m1
  have HB3:=Lib.hid hb3
  have HI1:=Lib.hid i1
  have HI2:=Lib.hid i2
  have HPM:=Lib.hid h
  have HPM2:=Lib.hid hpm2
  have HOWN:=Lib.hid hcm.own
  have HCM:=Lib.hid hcm
  clear i0 i1 hb0 h hbm hpm hb2 i2 hpm2 hb3 hcm
  go_enter Tryz.func31,Tryz.ntmps31
  go_wp2_with (first
    | (at_range; refine wpList_range_own _ rfl _ 45 rfl 3 28 lawI Tryz.underlying45 _ m (Maps.size D) _ rfl HOWN.out ?_; intro w0 hrg0 hg0 hs0))
  go_frame
  have HRG0:=Lib.hid hrg0
  have hk0:∀ {k:Nat} {ty:TypeId} {cs:Array Value},Is W2 k ty cs → Is w0 k ty cs:=fun h1 => (hg0.block _ h1.lt (by simp)).trans h1
  have HI1:=Lib.hid (hk0 HI1.out)
  have HI2:=Lib.hid (hk0 HI2.out)
  have HB0:=Lib.hid (show Below w.heap.size w w0 from HB3.out.grown hg0 (by omega) (fun j hj => by cases hj))
  have hpm0:=HPM2.out.agree (fun k h1 h2 => hg0.block k (by omega) (by simp)) (w2:=w0)
  have HPM0:=Lib.hid (hpm0.wide (lo2:=w.heap.size + 2) (hi2:=w0.heap.size) (by omega) (by omega))
  have hs0':w0.heap.size=w.heap.size + 5:=by omega
  rw [hz3] at HRG0 hs0 ⊢
  clear hrg0 hg0 hk0 hpm0 e0 d0 d1
  go_loopw [4] (fun _ wr => ∃ (left:Lit → Bool) (cnt:Nat) (G' C':Nat → Nat) (D':DataW Value),wr.ranges Tryz.prog 3 RV m (w.heap.size + 4) (Maps.size D) D left cnt ∧ PM wr (w.heap.size + 2) wr.heap.size (w.heap.size + 2) (doneB B left) G' C' D' ∧ Is wr (w.heap.size + 1) 47 #[.map none,.int .i64 0] ∧ Is wr (w.heap.size + 3) 47 #[.map (some (w.heap.size + 2)),.int .i64 (sz:Int)] ∧ Below w.heap.size w wr ∧ w.heap.size + 5 ≤ wr.heap.size ∧ (∀ i,(doneB B left i).isSome=true → G' i ≠ w.heap.size + 4))
    (fun _ wr => wr.rangeLeft m (w.heap.size + 4))
  case atStart => exact ⟨_,_,_,_,_,HRG0.out,HPM0.out.cast (doneB_start HPM.out),HI1.out,HI2.out,HB0.out,by omega,fun i hi => by rw [doneB_start HPM.out] at hi; cases hi⟩
  case round =>
    obtain ⟨left,cnt,G1,C1,D1,hrg,hpm,hi1,hi2,hbw,hsw,hgr⟩:=hrel
    have HRG:=Lib.hid hrg
    have HP:=Lib.hid hpm
    have HJ1:=Lib.hid hi1
    have HJ2:=Lib.hid hi2
    have HBW:=Lib.hid hbw
    have HGR:=Lib.hid hgr
    clear hrg hpm hi1 hi2 hbw hgr
    go_wp2_with (first
      | (at_next; refine wpList_next_ranges _ rfl (.tmp 12) rfl 3 lawI RV (fun x:Int => .int .i64 x) (fun v:Value => v) (fun key kl hk => by obtain ⟨x,e,_⟩:=Maps.keyOf_int_inv Tryz.underlying3 hk; exact ⟨x,e⟩) (fun v y _ => ⟨v,rfl⟩) m (w.heap.size + 4) (Maps.size D) D left cnt rfl HRG.out ?_ ?_))
    · intro hc0 hl0
      have c2:wr.cell? ⟨w.heap.size + 3,0,none⟩=some (.map (some (w.heap.size + 2))):=HJ2.out.cell 0
      have c3:wr.cell? ⟨w.heap.size + 3,1,none⟩=some (.int .i64 (sz:Int)):=HJ2.out.cell 1
      have c4:wr.cell? ⟨w.heap.size + 1,0,none⟩=some (.map none):=HJ1.out.cell 0
      have c5:wr.cell? ⟨w.heap.size + 1,1,none⟩=some (.int .i64 0):=HJ1.out.cell 1
      have f4:=HJ1.out.free 0
      have f5:=HJ1.out.free 1
      have HL0:=Lib.hid hl0
      clear hl0
      go_wp2_with fail
      have hI:=(HJ1.out.put 0 (.map (some (w.heap.size + 2)))).put 1 (.int .i64 (sz:Int))
      refine bodyPost_ret (results_cell_row (P:=Tryz.prog) rfl _ _ (w.heap.size + 1) 47 _ (0,0) _ rfl hI Tryz.underlying47 rfl (by kernel_rfl)) rfl ?_
      have hk:=(keeps_set wr (w.heap.size + 1) 0 (.map (some (w.heap.size + 2)))).trans (keeps_set _ (w.heap.size + 1) 1 (.int .i64 (sz:Int)))
      have hsz:=hk.size
      refine ⟨_,_,_,_,rfl,((HP.out.agree (fun k h1 h2 => hk.block k h2 (fun e => by have e:k=w.heap.size + 1:=e; omega))).wide (by omega) hsz).cast (doneB_end B left HL0.out).symm,HBW.out.trans (hk.below (by omega) (fun j e => by have e:j=w.heap.size + 1:=e; omega))⟩
    · intro x c kl y1 y2 w1 cnt1 hkey hlk hR hat hrg1 hlt hg1 hs1 hen
      obtain ⟨i,l,rfl,rfl,hi5,hbi,rfl⟩:=PM.entry (y:=(y1,y2)) HPM.out hkey hR hat
      have hBm:Below w.heap.size w w1:=HBW.out.grown hg1 (by omega) (fun j hj => by injection hj with hj; have:=HRG.out.lt; omega)
      have hcm:=HPM.out.below hBm hhi
      obtain ⟨_,hl5,_,_,hgh,hrl,_⟩:=hcm.yes i l hbi
      have hK1:∀ k,w.heap.size ≤ k → k < wr.heap.size → k ≠ w.heap.size + 4 → w1.heap[k]? = wr.heap[k]?:=fun k h1 h2 h3 => hg1.block k h2 (fun e => by injection e with e; exact h3 (by omega))
      have hp1:PM w1 (w.heap.size + 2) wr.heap.size (w.heap.size + 2) (doneB B left) G1 C1 D1 :=
        HP.out.agreeG (fun k h1 h2 h3 => hK1 k (by omega) h2 (by
          rcases h3 with h3 | ⟨j,h3,h4⟩
          · omega
          · rw [← h4]; exact HGR.out j h3))
      have HRL:=Lib.hid hrl
      have HP1:=Lib.hid hp1
      have HBM:=Lib.hid hBm
      have c2:w1.cell? ⟨w.heap.size + 3,0,none⟩=some (.map (some (w.heap.size + 2))):=by
        rw [World.cell?_of_block (hK1 (w.heap.size + 3) (by omega) (by omega) (by omega))]; exact HJ2.out.cell 0
      have HL5:=Lib.hid hl5
      clear hrl hp1 hBm hcm
      have c2a:(w1.alloc (.cells #[] 5)).cell? ⟨w.heap.size + 3,0,none⟩=some (.map (some (w.heap.size + 2))):=by
        rw [(below_new w1 (.cells #[] 5)).cell (p:=⟨w.heap.size + 3,0,none⟩) (by show w.heap.size + 3 < w1.heap.size; omega)]; exact c2
      have HS1:=Lib.hid hs1
      clear hs1
      go_upto_region 5 with fail
      go_region_law (
        refine step_append_u8 (by rfl) (.tmp 21) (.tmp 22) (by rfl) w1.heap.size (some ⟨w1.heap.size,0,none⟩) 0 [] (by simp [Act.eval,Act.put]) (Mine.empty w1.drew (Nat.le_refl _)) ⟨G i,0,none⟩ (C i) l (by rw [HL5.out]; simp [Act.eval,Act.put]) ((HRL.out.drew.later (below_new w1.drew _)).bytes) (by rw [HL5.out]; decide) (by rw [HL5.out]; decide) (by simp) ?_
        intro g cap2 w2 hm2 hg2 hb2
        rw [show (([]:List UInt8).length + l.length)=512 by rw [HL5.out]; rfl]
        have hbb:Below w1.heap.size w1.drew w2:=(below_new w1.drew (.cells #[] 5)).trans hb2
        have hr2:RwU w2 g l:=RwU.of_mine hm2 (fun e => by have:=HL5.out; rw [e] at this; cases this)
        have hgl:=hr2.lt
        have hgg:=hm2.ge g rfl
        have hp2:=HP1.out.agree (w2:=w2) (fun k h1 h2 => hbb.block k (by show k < w1.heap.size; have:=HS1.out; omega))
        obtain ⟨w6,D6,hrun,hP6,hgr6,hsz6⟩:=hp2.store i hi5 g cap2 l hr2 HL5.out (by have:=HS1.out; omega) hgl
        have c2':w2.cell? ⟨w.heap.size + 3,0,none⟩=some (.map (some (w.heap.size + 2))):=by
          rw [World.cell?_of_block (hbb.block (w.heap.size + 3) (by show w.heap.size + 3 < w1.heap.size; have:=HS1.out; omega))]; exact c2)
      all_goals (
        have hgr7:w1.grownBy w6 (some (w.heap.size + 2)):=(show w1.grownBy w2 _ from ⟨hbb.os,hbb.tape,hbb.output,hbb.size,fun k hk _ => hbb.block k hk⟩).trans hgr6
        have hrg2:=hrg1.kept hgr7 (fun e => by injection e with e; omega) (fun e => by injection e with e; omega)
        have hs7:=hgr7.size
        have hs9:=HS1.out
        have hI:=fun {k:Nat} {ty:TypeId} {cs:Array Value} (h1:Is wr k ty cs) (h2:w.heap.size ≤ k) (h3:k ≠ w.heap.size + 4) (h4:k ≠ w.heap.size + 2) => (show Is w6 k ty cs from ((hgr7.block k (by have:=h1.lt; omega) (fun e => by injection e with e; omega)).trans (hK1 k h2 h1.lt h3)).trans h1)
        have HRG2:=Lib.hid hrg2
        have HG7:=Lib.hid hgr7
        have HP6:=Lib.hid ((hP6.wide (Nat.le_refl _) (Nat.le_of_eq hsz6.symm)).cast ((doneB_step B left i).trans (by rw [hbi])))
        have HJ3:=Lib.hid (hI HJ1.out (by omega) (by omega) (by omega))
        have HJ4:=Lib.hid (hI HJ2.out (by omega) (by omega) (by omega))
        clear hgr7 hrg2 hI hP6 hp2)
      all_goals (
        refine ⟨?_,by rw [HRG2.out.left_eq,HRG.out.left_eq]; exact hlt⟩
        repeat apply Exists.intro
        refine ⟨?_,rfl⟩
        exact ⟨_,_,_,_,_,HRG2.out,HP6.out,HJ3.out,HJ4.out,HBM.out.grown HG7.out (by omega) (fun j hj => by injection hj with hj; omega),by omega,fun j hj => by
          rw [doneB_step] at hj
          by_cases ej:j=i
          · rw [ej,upd1_same]; omega
          · rw [upd1_other _ _ _ ej]
            rw [updB_other _ _ _ ej] at hj
            exact HGR.out j hj⟩)
end Go.Proofs.YthkijogloebdoaaGreatDoor
end
section
namespace Go.Proofs.YthkijogloebdoaaGreatDoor
open Go.RowKit Go.Maps
def partT:List TypeId := [97]
def offP (w:World)(O:Nat → Prop):Nat → Prop:=fun k => O k ∧ ¬ Tk w k partT
theorem Hb.strip {w:World}{O:Nat → Prop}{a:Nat}{A:Addr}{l:List UInt8}(h:Hb w O a A l)(hl:l.length=512):Hb w (offP w O) a A l:=by
  obtain ⟨g,rfl,ho,hb⟩:=h
  refine ⟨g,rfl,⟨ho,fun ⟨cs',t',f',q1,q2⟩ => ?_⟩,hb⟩
  rcases hb with hb | ⟨g',off,cs,t,f,e,hg,hs,_⟩
  · subst hb; simp at hl
  · injection e with e
    injection e with e1 e2
    subst e1
    rw [hg] at q1
    injection q1 with q1
    injection q1 with _ q3
    rcases hs with hs | hs
    · omega
    · unfold partT at q2
      rw [List.mem_singleton] at q2
      subst q3
      subst q2
      exact absurd hs.2 (by decide)
theorem offP_is {w:World}{O:Nat → Prop}{g:Nat}{t:TypeId}{cs:Array Value}(h:Is w g t cs)(ho:O g)(ht:t ∉ partT):offP w O g:=⟨ho,not_tk_is h ht⟩
theorem TxnAt.strip {c:Cx}{w:World}{O:Nat → Prop}{T:Tn}(h:TxnAt c w O T):TxnAt c w (offP w O) T:=by
  obtain ⟨F,hF,hD⟩:=h.disk
  obtain ⟨Dm,U,uc,ucs,h1,h2,h3,h4,h5,h6⟩:=h.ex
  refine ⟨h.up,h.len,fun k hk => h.lt k hk.1,⟨F,fun k hk => ⟨⟨(hF k hk).1,fun ⟨cs,t,f,q1,q2⟩ => ?_⟩,(hF k hk).2⟩,hD⟩,offP_is h1 h.own (by decide),⟨h.ownb,fun ⟨cs,t,f,q1,q2⟩ => ?_⟩,h.his,Dm,U,uc,ucs,h1,⟨h2.own,h2.keys,h2.no,fun i l hi => ?_⟩,h3,fun g hg => ?_,h5,fun j hj => ?_⟩
  · obtain ⟨cs2,t2,f2,r1,r2⟩:=(hF k hk).2
    rw [q1] at r1
    injection r1 with r1
    injection r1 with _ r3
    unfold partT at q2
    rw [List.mem_singleton] at q2
    subst q2
    subst r3
    exact absurd r2 (by decide)
  · obtain ⟨es,ck,hm,_⟩:=h2.own
    rw [hm] at q1
    cases q1
  · obtain ⟨q1,q2,g,c',q3,q4⟩:=h2.yes i l hi
    exact ⟨q1,q2,g,c',q3,q4.strip q2⟩
  · obtain ⟨_,cur,hi⟩:=h3.typed g hg
    exact offP_is hi (h4 g hg) (by decide)
  · obtain ⟨v,q1,bo,bw,bt,bi,hv,o1,o2,o3,o4,r1,r2,r3,r4⟩:=h6 j hj
    refine ⟨v,q1,bo,bw,bt,bi,hv,offP_is r1 o1 (by decide),?_,offP_is r2 o3 (by decide),offP_is r3 o4 (by decide),r1,r2,r3,?_⟩
    · rcases r4 with ⟨_,r5⟩ | ⟨l,g,c',_,_,r5,_⟩
      · exact offP_is r5 o2 (by decide)
      · exact offP_is r5 o2 (by decide)
    · rcases r4 with r5 | ⟨l,g,c',r6,r7,r5,r8⟩
      · exact .inl r5
      · exact .inr ⟨l,g,c',r6,r7,r5,r8.strip r7⟩
end Go.Proofs.YthkijogloebdoaaGreatDoor
end
section
namespace Go.Proofs.YthkijogloebdoaaGreatDoor
open Go.RowKit Go.Shelf
attribute [local go_sem] Oper.semAt_some
def pAt (off j:Nat):Nat:=if j=0 then 0 else 512 * (off / 512 + j) - off
def pFrom (off j:Nat):Nat:=if j=0 then off % 512 else 0
def pTo (off m j:Nat):Nat:=min 512 (pFrom off j + (m - pAt off j))
def pMany (off m:Nat):Nat:=if m=0 then 0 else (off % 512 + m + 511) / 512
theorem part_facts {off m j:Nat}(hj:j < pMany off m):pAt off j < m ∧ off + pAt off j=512 * (off / 512 + j) + pFrom off j ∧ pFrom off j < 512 ∧ pFrom off j < pTo off m j ∧ pTo off m j ≤ 512 ∧ pTo off m j - pFrom off j ≤ m - pAt off j:=by
  unfold pMany at hj
  by_cases h0:m=0
  · rw [if_pos h0] at hj; omega
  rw [if_neg h0] at hj
  unfold pTo pFrom pAt
  by_cases e:j=0
  · subst e
    simp only [if_pos]
    refine ⟨by omega,by omega,by omega,by omega,by omega,by omega⟩
  · simp only [if_neg e]
    refine ⟨by omega,by omega,by omega,by omega,by omega,by omega⟩
theorem part_next {off m j:Nat}(hj:j < pMany off m):pAt off j + (pTo off m j - pFrom off j)=if j + 1 < pMany off m then pAt off (j + 1) else m:=by
  unfold pMany at hj ⊢
  by_cases h0:m=0
  · rw [if_pos h0] at hj; omega
  rw [if_neg h0] at hj ⊢
  unfold pTo pFrom pAt
  by_cases e:j=0
  · subst e
    simp only [if_pos,if_neg (show ¬ (0 + 1=0) by omega)]
    split <;> omega
  · simp only [if_neg e,if_neg (show ¬ (j + 1=0) by omega)]
    split <;> omega
abbrev PartOf (off m:Nat) := { j:Nat // j < pMany off m }
def firsts {off m:Nat}(ys:List (PartOf off m)):List Nat:=ys.map (·.1)
def partV (off m j:Nat):Array Value := #[.int .i64 ((off / 512 + j:Nat):Int),.int .i64 (pFrom off j:Int),.int .i64 (pTo off m j:Int),.int .i64 (pAt off j:Int)]
def partArgs {off m:Nat}(x:PartOf off m):Array Value := #[.agg (partV off m x.1)]
theorem part_less {m a z tt fr:Nat}(h:(a:Int) + ((tt:Int) - (fr:Int))=(z:Int))(h1:fr < tt)(_h2:True)(h3:a < m):m - z < m - a:=by omega
theorem i64_wr (v:Int)(h : -9000000000 ≤ v ∧ v ≤ 9000000000):IntKind.i64.wrap v=v:=by
  exact IntWalk.i64_in _ (by omega)
set_option maxRecDepth 100000 in
set_option maxHeartbeats 4000000 in
theorem parts1_any (n:Nat)(hn:1 ≤ n)(r ob nb off m B:Nat)(ho:off ≤ 9000000)(hm:m ≤ 9000000)(Kp:World → World → Prop)
    (hK:∀ W1 W2,Kp W1 W2 → W1.cell? ⟨ob,0,none⟩=some (.int .i64 (off:Int)) → W1.cell? ⟨nb,0,none⟩=some (.int .i64 (m:Int)) → W2.cell? ⟨ob,0,none⟩=some (.int .i64 (off:Int)) ∧ W2.cell? ⟨nb,0,none⟩=some (.int .i64 (m:Int)) ∧ ∀ g cs,Is W1 g 97 cs → Is W2 g 97 cs)
    (J Jx:List (PartOf off m) → World → Prop)(hJ:AbidesFrom B J)
    (hY:∀ pre (x:PartOf off m) W,J pre W → pre.length < pMany off m → YieldAt Fence.wide (n - 1) Tryz.prog r (partArgs x) W fun e W' =>
      (e=.returned (.bool true) ∧ J (pre ++ [x]) W' ∧ Kp W W') ∨ (e=.returned (.bool false) ∧ Jx (pre ++ [x]) W'))
    (W:World)(hob:W.cell? ⟨ob,0,none⟩=some (.int .i64 (off:Int)))(hnb:W.cell? ⟨nb,0,none⟩=some (.int .i64 (m:Int)))(h0:J [] W) :
    CallsIn Fence.wide n Tryz.prog 63 #[.func (.yield r) #[] #[],.pointer (some ⟨nb,0,none⟩),.pointer (some ⟨ob,0,none⟩)] W fun e W' => (∃ v,e=.returned v) ∧
      ((∃ ys:List (PartOf off m),firsts ys=List.range (pMany off m) ∧ J ys W') ∨ (∃ pre:List (PartOf off m),Jx pre W')):=by
  have HAd:=Lib.hid hK
  have HYd:=Lib.hid hY
  have HJA:=Lib.hid hJ
  clear hK hY hJ
  refine callsIn_of_wp Tryz.func63 rfl trivial ?_ rfl
  simp only [Tryz.ntmps63,List.size_toArray,List.length_cons,List.length_nil,Nat.reduceAdd,Nat.reduceSub,Array.replicate_succ,Array.replicate_zero,List.push_toArray,List.append_toArray,List.nil_append,List.cons_append]
  gi_wp2
  gi_loopw [4] (fun i wr => ∃ (j:Nat) (a:Nat) (pre:List (PartOf off m)),i=.int .i64 (a:Int) ∧ J pre wr ∧ wr.cell? ⟨ob,0,none⟩=some (.int .i64 (off:Int)) ∧ wr.cell? ⟨nb,0,none⟩=some (.int .i64 (m:Int)) ∧ firsts pre=List.range j ∧ ((j < pMany off m ∧ a=pAt off j) ∨ (j=pMany off m ∧ a=m)))
    (fun i _ => m - (intOf i).toNat)
  case atStart =>
    refine ⟨0,0,[],rfl,h0,hob,hnb,rfl,?_⟩
    unfold pMany
    by_cases e:m=0
    · right; rw [if_pos e]; exact ⟨rfl,e.symm⟩
    · left; rw [if_neg e]; exact ⟨by omega,rfl⟩
  case round =>
    obtain ⟨j,a,pre,rfl,hJp,hc1,hc2,hpre,hst⟩:=hrel
    have HJ:=Lib.hid hJp
    have HPre:=Lib.hid hpre
    have hlen:pre.length=j:=by have:=congrArg List.length hpre; unfold firsts at this; simpa using this
    clear hJp hpre
    rcases hst with ⟨hj,ha⟩ | ⟨hj,ha⟩
    · obtain ⟨f1,f2,f3,f4,f5,f6⟩:=part_facts hj
      have hnx:=part_next hj
      rw [← ha] at f1 f2 f6 hnx
      have hlt:(a:Int) < (m:Int):=by omega
      obtain ⟨k,hk⟩:∃ k,off / 512 + j=k:=⟨_,rfl⟩
      obtain ⟨fr,hfr⟩:∃ fr,pFrom off j=fr:=⟨_,rfl⟩
      obtain ⟨tt,hto⟩:∃ tt,pTo off m j=tt:=⟨_,rfl⟩
      have hto2:tt=min 512 (fr + (m - a)):=by rw [← hto,← hfr,ha]; rfl
      rw [hk,hfr] at f2
      rw [hfr] at f3 f4 f6 hnx
      rw [hto] at f4 f5 f6 hnx
      have u1:=i64_wr ((off:Int) + (a:Int)) (by omega)
      have u2:((off:Int) + (a:Int)) / 512=(k:Int):=by omega
      have u3:((off:Int) + (a:Int)) % 512=(fr:Int):=by omega
      have u4:=i64_wr ((fr:Int) + (m:Int)) (by omega)
      have u5:=i64_wr ((fr:Int) + (m:Int) - (a:Int)) (by omega)
      have u6:=i64_wr ((tt:Int) - (fr:Int)) (by omega)
      have u7:=i64_wr ((a:Int) + ((tt:Int) - (fr:Int))) (by omega)
      have hmin:=fun W => run_min_ii 512 ((fr:Int) + (m:Int) - (a:Int)) (tt:Int) (by split <;> omega) W
      have HH:=Lib.hid (And.intro hto2 (And.intro ha hnx))
      have HF:=Lib.hid (And.intro f2 (And.intro f4 f5))
      have hnl:=block_lt_of_cell hc2
      have hol:=block_lt_of_cell hc1
      have HLT:=Lib.hid f1
      have HK:=Lib.hid (And.intro hk (And.intro hfr hto))
      have hJ2:J pre (wr.alloc (.cells #[.int .i64 (k:Int),.int .i64 (fr:Int),.int .i64 (tt:Int),.int .i64 (a:Int)] 97)) :=
        HJA.out pre wr _ none HJ.out (World.grownBy_alloc _ _ _) (fun r e => by cases e)
      have hpv:partArgs (off:=off) (m:=m) ⟨j,hj⟩=#[.agg #[.int .i64 (k:Int),.int .i64 (fr:Int),.int .i64 (tt:Int),.int .i64 (a:Int)]]:=by
        unfold partArgs partV; rw [hk,hfr,hto,← ha]
      obtain ⟨fn,tmps,assign,body,hy,hR⟩:=HYd.out pre ⟨j,hj⟩ _ hJ2 (by rw [hlen]; exact hj)
      rw [hpv] at hy
      obtain ⟨hb2,i2⟩:=one_new wr #[.int .i64 (k:Int),.int .i64 (fr:Int),.int .i64 (tt:Int),.int .i64 (a:Int)] 97
      have e1:=(hb2.cell (p:=⟨ob,0,none⟩) hol).trans hc1
      have e2:=(hb2.cell (p:=⟨nb,0,none⟩) hnl).trans hc2
      have HHR:=Lib.hid hR
      have HE1:=Lib.hid e1
      have HE2:=Lib.hid e2
      have HI2:=Lib.hid i2
      have HJJ:=Lib.hid hj
      have hsub:(fr:Int) ≤ (tt:Int):=by omega
      clear hto2 ha hnx f2 f4 f5 f1 f3 f6 hk hfr hto hR hb2 i2 e1 e2 hJ2 hpv
      gi_wp2
      refine HHR.out.mono ?_
      rintro e W3 (⟨rfl,hJ3,hk3⟩ | ⟨rfl,hJx3⟩)
      · obtain ⟨g1,g2,g3⟩:=HAd.out _ _ hk3 HE1.out HE2.out
        have g4:=g3 _ _ HI2.out
        have q1:W3.cell? ⟨wr.heap.size,1,none⟩=some (.int .i64 (fr:Int)):=g4.cell 1
        have q2:W3.cell? ⟨wr.heap.size,2,none⟩=some (.int .i64 (tt:Int)):=g4.cell 2
        have HG:=Lib.hid (And.intro hJ3 (And.intro g1 g2))
        clear hJ3 hk3 g1 g2 g3 g4
        have u8:0 ≤ (a:Int) + ((tt:Int) - (fr:Int)):=by omega
        obtain ⟨z,hz⟩:∃ z:Nat,(a:Int) + ((tt:Int) - (fr:Int))=(z:Int):=⟨((a:Int) + ((tt:Int) - (fr:Int))).toNat,by omega⟩
        have hz9:z ≤ 10000000:=by obtain ⟨_,f4,f5⟩:=HF.out; omega
        have HW:=Lib.hid (show wrap64 (z:Int)=(z:Int) from IntWalk.wrap64_in _ (by omega))
        have HZ9:=Lib.hid hz9
        have HZ:=Lib.hid hz
        clear hz9
        gi_wp2
        go_roundw
        case rel =>
          obtain ⟨_,ha,hnx⟩:=HH.out
          obtain ⟨_,hfr,htt⟩:=HK.out
          obtain ⟨_,f4,f5⟩:=HF.out
          refine ⟨j + 1,z,pre ++ [⟨j,HJJ.out⟩],by rw [HW.out],HG.out.1,HG.out.2.1,HG.out.2.2,by unfold firsts at *; rw [List.map_append,HPre.out,List.range_succ]; rfl,?_⟩
          have hz2:a + (tt - fr)=z:=by omega
          rw [hz2] at hnx
          by_cases e:j + 1 < pMany off m
          · rw [if_pos e] at hnx; exact .inl ⟨e,hnx⟩
          · rw [if_neg e] at hnx; exact .inr ⟨by have:=HJJ.out; omega,hnx⟩
        case measure =>
          obtain ⟨_,f4,f5⟩:=HF.out
          have hzz:=HZ.out
          have hww:=HW.out
          have hms:=part_less hzz f4 trivial HLT.out
          have key:∀ v:Int,v=(z:Int) → m - (intOf (.int .i64 v)).toNat < m - (intOf (.int .i64 (a:Int))).toNat:=by
            intro v hv
            subst hv
            simp only [intOf,Int.toNat_natCast]
            exact hms
          exact key _ hww
      · gi_wp2
        refine bodyPost_ret (v:=.tuple #[]) (by simp [results,Tryz.results63,go_sem]) rfl ?_
        exact ⟨⟨_,rfl⟩,.inr ⟨_,hJx3⟩⟩
    · obtain rfl:=ha
      have hlt:¬ (a:Int) < (a:Int):=by omega
      gi_wp2
      go_end0
      exact ⟨⟨_,rfl⟩,.inl ⟨pre,by rw [HPre.out,hj],HJ.out⟩⟩
end Go.Proofs.YthkijogloebdoaaGreatDoor
end
section
namespace Go.Proofs.YthkijogloebdoaaGreatDoor
open Go.RowKit Go.Maps Rec Gp Fs
structure TwoAt (w:World)(b:Nat)(D:DataW Value)(S:Nat → Bool):Prop where
  own:w.ownsMap Tryz.prog 3 RV b (Maps.size D) D
  keys:∀ x:Int,Maps.has D (.int .i64 x)=true ↔ ∃ t:Nat,x=(t:Int) ∧ t < 128 ∧ S t=true
theorem TwoAt.heap {w w2:World}{b:Nat}{D:DataW Value}{S:Nat → Bool}(h:TwoAt w b D S)(e:w2.heap[b]? = w.heap[b]?):TwoAt w2 b D S:=⟨ownsMap_heap h.own e,h.keys⟩
theorem TwoAt.len {w:World}{b:Nat}{D:DataW Value}{S:Nat → Bool}(h:TwoAt w b D S):Maps.size D=cntP S 128:=by
  obtain ⟨k1,k2,k3⟩:=mem_intKeys h.own
  rw [cntP_length,← k3]
  have hp:(((List.range 128).filter S).map (fun i:Nat => (i:Int))).Perm (intKeys D):=by
    refine (List.perm_ext_iff_of_nodup ?_ k1).2 (fun x => ?_)
    · refine List.pairwise_map.2 ((List.nodup_range.filter _).imp (fun {p q} hne e => hne (by omega)))
    · rw [k2,List.mem_map,h.keys]
      constructor
      · rintro ⟨i,hi,rfl⟩
        obtain ⟨h1,h2⟩:=List.mem_filter.1 hi
        exact ⟨i,rfl,List.mem_range.1 h1,h2⟩
      · rintro ⟨i,rfl,h1,h2⟩
        exact ⟨i,List.mem_filter.2 ⟨List.mem_range.2 h1,h2⟩,rfl⟩
  rw [← hp.length_eq,List.length_map]
theorem TwoAt.store {w:World}{b:Nat}{D:DataW Value}{S:Nat → Bool}(h:TwoAt w b D S)(t:Nat)(ht:t < 128) :
    ∃ w6 D',(Instr.mapUpdate 134 (.map (some b)) (.int .i64 (t:Int)) (.bool true)).run Tryz.prog w=.ok () w6 ∧ TwoAt w6 b D' (fun j => if j=t then true else S j) ∧ w.grownBy w6 (some b):=by
  have hsz:Maps.size D ≤ 128:=by rw [h.len]; exact cntP_le _ _
  obtain ⟨w6,hrun,hown,hturn⟩:=h.own.store (int_keyed Tryz.underlying3) Tryz.underlying134 (by simp only [maxLen]; omega) (key:=.int .i64 (t:Int)) (val:=.bool true) (kl:=keyD t) (d:=.held (.bool true)) (ps := []) (keyI (by omega)) rfl
  have hM:=h.own.isMap
  refine ⟨w6,_,hrun,⟨ownsMap_tight hown,fun x => ?_⟩,hturn.grown⟩
  by_cases e:(Lit.int .i64 x)=keyD t
  · have ex:x=(t:Int):=by injection e
    constructor
    · intro _; exact ⟨t,ex,ht,if_pos rfl⟩
    · intro _; rw [e]; exact Maps.has_put_same (k:=keyD t) hM trivial _
  · have ex:x ≠ (t:Int):=fun h => e (by rw [h])
    rw [Maps.has_put_other e,h.keys]
    constructor
    · rintro ⟨i,rfl,h1,h2⟩; exact ⟨i,rfl,h1,by rw [if_neg (fun h => ex (by rw [h]))]; exact h2⟩
    · rintro ⟨i,rfl,h1,h2⟩; rw [if_neg (fun h => ex (by rw [h]))] at h2; exact ⟨i,rfl,h1,h2⟩
def cameB (B:Nat → Option (List UInt8))(left:Lit → Bool)(i:Nat):Bool:=(B i).isSome && !left (keyD i)
theorem cameB_step {B:Nat → Option (List UInt8)}{i:Nat}(hb:(B i).isSome=true)(left:Lit → Bool):cameB B (fun z => left z && !z.sameKey (keyD i))=fun j => if j=i then true else cameB B left j:=by
  funext j
  unfold cameB
  by_cases e:j=i
  · subst e
    rw [if_pos rfl]
    simp only [keyD_same,hb]
    simp
  · rw [if_neg e]
    simp only [keyD_ne e]
    simp
theorem cameB_end (P:Pl)(left:Lit → Bool)(h:∀ k,left k=false):cameB P.B left=P.D:=by
  funext j
  unfold cameB Pl.D
  rw [h]; simp
theorem cameB_start {w:World}{lo hi m:Nat}{B:Nat → Option (List UInt8)}{G C:Nat → Nat}{D:DataW Value}(h:PM w lo hi m B G C D):cameB B (Maps.has D)=fun _ => false:=by
  funext j
  unfold cameB
  cases hb:B j with
  | none => rfl
  | some l => rw [(h.yes j l hb).1]; rfl
def oneOf (D:Nat → Bool):Bool:=(List.range 128).any (fun s => D (10 + s))
theorem or_same (D:Nat → Bool)(i:Nat){j:Nat}(h:j=i):(fun j => if j=i then true else D j) j=true:=if_pos h
theorem or_other (D:Nat → Bool)(i:Nat){j:Nat}(h:j ≠ i):(fun j => if j=i then true else D j) j=D j:=if_neg h
theorem one_far {D:Nat → Bool}{i:Nat}(h:i < 10 ∨ 138 ≤ i):oneOf (fun j => if j=i then true else D j)=oneOf D:=by
  unfold oneOf
  refine bool_ext ?_
  rw [any_iff,any_iff]
  constructor
  · rintro ⟨s,hs,hh⟩; exact ⟨s,hs,(or_other D i (show 10 + s ≠ i by omega)).symm.trans hh⟩
  · rintro ⟨s,hs,hh⟩; exact ⟨s,hs,(or_other D i (show 10 + s ≠ i by omega)).trans hh⟩
theorem one_near {D:Nat → Bool}{i:Nat}(h:10 ≤ i ∧ i < 138):oneOf (fun j => if j=i then true else D j)=true:=by
  unfold oneOf
  rw [any_iff]
  exact ⟨i - 10,by omega,or_same D i (by omega)⟩
theorem two_far {D:Nat → Bool}{i:Nat}(h:i < 138):tabOf (fun j => if j=i then true else D j)=tabOf D:=by
  funext t
  unfold tabOf
  refine bool_ext ?_
  rw [any_iff,any_iff]
  constructor
  · rintro ⟨s,hs,hh⟩; exact ⟨s,hs,(or_other D i (show 138 + 128 * t + s ≠ i by omega)).symm.trans hh⟩
  · rintro ⟨s,hs,hh⟩; exact ⟨s,hs,(or_other D i (show 138 + 128 * t + s ≠ i by omega)).trans hh⟩
theorem two_near {D:Nat → Bool}{i t:Nat}(h:138 ≤ i)(ht:(i - 138) / 128=t):tabOf (fun j => if j=i then true else D j)=fun j => if j=t then true else tabOf D j:=by
  funext u
  by_cases e:u=t
  · rw [if_pos e]
    unfold tabOf
    rw [any_iff]
    exact ⟨(i - 138) % 128,by omega,or_same D i (by omega)⟩
  · rw [if_neg e]
    unfold tabOf
    refine bool_ext ?_
    rw [any_iff,any_iff]
    constructor
    · rintro ⟨s,hs,hh⟩; exact ⟨s,hs,(or_other D i (show 138 + 128 * u + s ≠ i by omega)).symm.trans hh⟩
    · rintro ⟨s,hs,hh⟩; exact ⟨s,hs,(or_other D i (show 138 + 128 * u + s ≠ i by omega)).trans hh⟩
theorem cnt_any (S:Nat → Bool)(n:Nat):((List.range n).any S=true) ↔ 0 < cntP S n:=by
  rw [any_iff,cntP_length]
  constructor
  · rintro ⟨s,hs,hh⟩
    exact List.length_pos_of_mem (List.mem_filter.2 ⟨List.mem_range.2 hs,hh⟩)
  · intro h
    obtain ⟨s,hs⟩:=List.exists_mem_of_length_pos h
    obtain ⟨h1,h2⟩:=List.mem_filter.1 hs
    exact ⟨s,List.mem_range.1 h1,h2⟩
theorem takes_sum (P:Pl):P.takes=cntP (fun i => (P.B i).isSome) 16522 + (if oneOf P.D=true then 1 else 0) + (if 0 < cntP (tabOf P.D) 128 then 1 + cntP (tabOf P.D) 128 else 0):=by
  unfold Pl.takes
  rw [takes_parts]
  show cntP P.D 16522 + (if oneOf P.D=true then 1 else 0) + _ + _=cntP P.D 16522 + (if oneOf P.D=true then 1 else 0) + _
  by_cases h:0 < cntP (tabOf P.D) 128
  · rw [if_pos h,if_pos ((cnt_any _ _).2 h)]; omega
  · rw [if_neg h,if_neg (fun e => h ((cnt_any _ _).1 e))]; omega
set_option maxRecDepth 100000 in
set_option maxHeartbeats 3200000 in
theorem ptakes_any (w:World)(lo hi m:Nat)(P:Pl)(G C:Nat → Nat)(D:DataW Value)(h:PM w lo hi m P.B G C D)(hhi:hi ≤ w.heap.size) :
    Calls Tryz.prog 32 #[.agg #[.map (some m),.int .i64 (P.size:Int)]] w fun e w' => e=.returned (.int .i64 (P.takes:Int)) ∧ Below w.heap.size w w':=by
  obtain ⟨sz,hsz⟩:∃ sz,P.size=sz:=⟨_,rfl⟩
  rw [hsz]
  have hb0:=below_new w (.cells #[.map (some m),.int .i64 (sz:Int)] 47)
  have i0:=Is.new w 47 #[.map (some m),.int .i64 (sz:Int)]
  obtain ⟨W,hW⟩:∃ W,w.alloc (.cells #[.map (some m),.int .i64 (sz:Int)] 47)=W:=⟨_,rfl⟩
  have hz1:W.heap.size=w.heap.size + 1:=by rw [← hW]; simp [World.size_alloc]
  rw [hW] at hb0 i0
  have hmm:=@run_makeMap Tryz.prog
  have c0:W.cell? ⟨w.heap.size,0,none⟩=some (.map (some m)):=i0.cell 0
  have hb1:=below_new W (.map #[] 0)
  have hT:TwoAt (W.alloc (.map #[] 0)) W.heap.size (.map []) (fun _ => false):=⟨World.ownsMap_made W _ _ _,fun x => ⟨fun hh => (by simp [Maps.has] at hh),fun ⟨_,_,_,hh⟩ => (by cases hh)⟩⟩
  have c1:(W.alloc (.map #[] 0)).cell? ⟨w.heap.size,0,none⟩=some (.map (some m)):=(i0.below hb1 i0.lt).cell 0
  have hlen:=(h.below hb0 hhi).own.len Tryz.underlying45
  obtain ⟨N,hN⟩:∃ N,Maps.size D=N:=⟨_,rfl⟩
  have hNc:=h.len
  have hN5:=h.size_le
  obtain ⟨W1,hW1⟩:∃ W1,W.alloc (.map #[] 0)=W1:=⟨_,rfl⟩
  have hz2:W1.heap.size=w.heap.size + 2:=by rw [← hW1,World.size_alloc,hz1]
  rw [hW1] at hb1 hT c1
  rw [hz1] at hT
  have hb2:=hb0.trans (hb1.mono (by omega))
  have HOWN:=Lib.hid (h.below hb2 hhi).own
  have HPM:=Lib.hid h
  have HT:=Lib.hid hT
  have HB2:=Lib.hid hb2
  have hml:=h.m1
  rw [hN] at hNc hN5 hlen
  have HN:=Lib.hid (And.intro hN hNc)
  clear h i0 hb0 hb1 hT hb2 hN hNc
  go_enter Tryz.func32,Tryz.ntmps32
  go_wp2_with (first
    | (at_range; refine wpList_range_own _ rfl _ 45 rfl 3 28 lawI Tryz.underlying45 _ m (Maps.size D) _ rfl HOWN.out ?_; intro w0 hrg0 hg0 hs0))
  go_frame
  have HRG0:=Lib.hid hrg0
  have HT0:=Lib.hid (HT.out.heap (w2:=w0) (hg0.block _ (by omega) (by simp)))
  have HB0:=Lib.hid (show Below w.heap.size w w0 from HB2.out.grown hg0 (by omega) (fun j hj => by cases hj))
  rw [hz2] at HRG0 hs0 ⊢
  clear hrg0 hg0
  go_loopw [4] (fun ov wr => ∃ (left:Lit → Bool) (cnt:Nat) (D2:DataW Value),ov=.bool (oneOf (cameB P.B left)) ∧ wr.ranges Tryz.prog 3 RV m (w.heap.size + 2) (Maps.size D) D left cnt ∧ TwoAt wr (w.heap.size + 1) D2 (tabOf (cameB P.B left)) ∧ Below w.heap.size w wr ∧ w.heap.size + 3 ≤ wr.heap.size)
    (fun _ wr => wr.rangeLeft m (w.heap.size + 2))
  case atStart =>
    refine ⟨Maps.has D,_,.map [],?_,HRG0.out,?_,HB0.out,by omega⟩
    · rw [cameB_start HPM.out]; rfl
    · rw [cameB_start HPM.out]; exact HT0.out
  case round =>
    obtain ⟨left,cnt,D2,rfl,hrg,htw,hbw,hsw⟩:=hrel
    have HRG:=Lib.hid hrg
    have HT:=Lib.hid htw
    have HBW:=Lib.hid hbw
    clear hrg htw hbw
    go_wp2_with (first
      | (at_next; refine wpList_next_ranges _ rfl (.tmp 13) rfl 3 lawI RV (fun x:Int => .int .i64 x) (fun v:Value => v) (fun key kl hk => by obtain ⟨x,e,_⟩:=Maps.keyOf_int_inv Tryz.underlying3 hk; exact ⟨x,e⟩) (fun v y _ => ⟨v,rfl⟩) m (w.heap.size + 2) (Maps.size D) D left cnt rfl HRG.out ?_ ?_))
    · intro hc0 hl0
      have hcm:=cameB_end P left hl0
      have hlen2:=HT.out.own.len Tryz.underlying134
      have hl2:=HT.out.len
      rw [hcm] at hl2 ⊢
      have HL0:=Lib.hid hl0
      have hts:=takes_sum P
      obtain ⟨M,hM⟩:∃ M,cntP (tabOf P.D) 128=M:=⟨_,rfl⟩
      have hM5:M ≤ 128:=by rw [← hM]; exact cntP_le _ _
      rw [hM] at hl2 hts
      rw [hl2] at hlen2
      rw [← HN.out.2] at hts
      have u1:=i64_wr ((N:Int) + 1) (by omega)
      have u2:=i64_wr ((N:Int) + 1 + 1) (by omega)
      have u3:=i64_wr ((N:Int) + 1 + 1 + (M:Int)) (by omega)
      have u4:=i64_wr ((N:Int) + 1 + (M:Int)) (by omega)
      clear hl0
      cases ho:oneOf P.D with
      | true =>
        rw [ho,if_pos rfl] at hts
        by_cases hM0:M=0
        · rw [if_neg (by omega)] at hts
          subst hM0
          have HTS:=Lib.hid hts
          have hgt:¬ ((0:Nat):Int) > 0:=by omega
          clear hts
          go_wp2_with fail
          go_ret
          refine ⟨?_,HBW.out⟩
          show Ending.returned (Value.int .i64 _)=Ending.returned (Value.int .i64 _)
          have:=HTS.out
          congr 2; omega
        · rw [if_pos (by omega)] at hts
          have HTS:=Lib.hid hts
          have hgt:(M:Int) > 0:=by omega
          have hgt2:0 < M:=by omega
          clear hts
          go_wp2_with fail
          go_ret
          refine ⟨?_,HBW.out⟩
          show Ending.returned (Value.int .i64 _)=Ending.returned (Value.int .i64 _)
          have:=HTS.out
          congr 2; omega
      | false =>
        rw [ho,if_neg (by decide)] at hts
        by_cases hM0:M=0
        · rw [if_neg (by omega)] at hts
          subst hM0
          have HTS:=Lib.hid hts
          have hgt:¬ ((0:Nat):Int) > 0:=by omega
          clear hts
          go_wp2_with fail
          go_ret
          refine ⟨?_,HBW.out⟩
          show Ending.returned (Value.int .i64 _)=Ending.returned (Value.int .i64 _)
          have:=HTS.out
          congr 2; omega
        · rw [if_pos (by omega)] at hts
          have HTS:=Lib.hid hts
          have hgt:(M:Int) > 0:=by omega
          have hgt2:0 < M:=by omega
          clear hts
          go_wp2_with fail
          go_ret
          refine ⟨?_,HBW.out⟩
          show Ending.returned (Value.int .i64 _)=Ending.returned (Value.int .i64 _)
          have:=HTS.out
          congr 2; omega
    · intro x c kl y1 y2 w1 cnt1 hkey hlk hR hat hrg1 hlt hg1 hs1 hen
      obtain ⟨i,l,rfl,rfl,hi5,hbi,rfl⟩:=PM.entry (y:=(y1,y2)) HPM.out hkey hR hat
      have hBm:Below w.heap.size w w1:=HBW.out.grown hg1 (by omega) (fun j hj => by injection hj with hj; have:=HRG.out.lt; omega)
      have hT1:=HT.out.heap (w2:=w1) (hg1.block _ (by omega) (fun e => by injection e with e; omega))
      have hst:=cameB_step (B:=P.B) (i:=i) (by rw [hbi]; rfl) left
      have HT1:=Lib.hid hT1
      have HBM:=Lib.hid hBm
      have HST:=Lib.hid hst
      clear hT1 hBm hst
      by_cases h138:138 ≤ i
      · have hge:(138:Int) ≤ (i:Int):=by omega
        obtain ⟨t,ht⟩:∃ t,(i - 138) / 128=t:=⟨_,rfl⟩
        have u1:=i64_wr ((i:Int) - 138) (by omega)
        have u2:((i:Int) - 138) / 128=(t:Int):=by omega
        obtain ⟨w6,D6,hstr,hT6,hg6⟩:=HT1.out.store t (by omega)
        have hrg2:=hrg1.kept hg6 (fun e => by injection e with e; omega) (fun e => by injection e with e; omega)
        have hb6:=HBM.out.grown hg6 (by omega) (fun j hj => by injection hj with hj; omega)
        have hs6:=hg6.size
        have HT6:=Lib.hid hT6
        clear hT6
        go_wp2_with fail
        refine ⟨⟨_,_,D6,?_,hrg2,?_,hb6,by omega⟩,?_⟩
        · rw [HST.out,one_far (by omega)]
        · rw [HST.out,two_near h138 ht]; exact HT6.out
        · rw [hrg2.left_eq,HRG.out.left_eq]; exact hlt
      · have hge:¬ (138:Int) ≤ (i:Int):=by omega
        by_cases h10:10 ≤ i
        · have hge2:(10:Int) ≤ (i:Int):=by omega
          go_wp2_with fail
          refine ⟨⟨_,_,D2,?_,hrg1,?_,HBM.out,by omega⟩,?_⟩
          · rw [HST.out,one_near (by omega)]
          · rw [HST.out,two_far (by omega)]; exact HT1.out
          · rw [hrg1.left_eq,HRG.out.left_eq]; exact hlt
        · have hge2:¬ (10:Int) ≤ (i:Int):=by omega
          go_wp2_with fail
          refine ⟨⟨_,_,D2,?_,hrg1,?_,HBM.out,by omega⟩,?_⟩
          · rw [HST.out,one_far (by omega)]
          · rw [HST.out,two_far (by omega)]; exact HT1.out
          · rw [hrg1.left_eq,HRG.out.left_eq]; exact hlt
end Go.Proofs.YthkijogloebdoaaGreatDoor
end
section
namespace Go.Proofs.YthkijogloebdoaaGreatDoor
open Go.RowKit Go.Maps Rec Gp Fs
def plC (ms:Nat → Nat)(Q:Nat → Pl):List Value := [.map (some (ms 0)),.int .i64 ((Q 0).size:Int),.map (some (ms 1)),.int .i64 ((Q 1).size:Int),.map (some (ms 2)),.int .i64 ((Q 2).size:Int)]
def fileT:List TypeId:=80 :: diskF
structure PF (w:World)(O:Nat → Prop)(m:Nat)(P:Pl):Prop where
  ok:P.Ok
  ex:∃ (lo hi:Nat) (G C:Nat → Nat) (D:DataW Value),hi ≤ w.heap.size ∧ PM w lo hi m P.B G C D ∧ ¬ O m ∧ ∀ i,(P.B i).isSome=true → ¬ O (G i)
theorem not_tk_own {w:World}{m n:Nat}{R:Value → Option (DataW Value × List MemPlace)}{k:TypeId}{D:DataW Value}{Ts:List TypeId}(h:w.ownsMap Tryz.prog k R m n D):¬ Tk w m Ts:=fun ⟨cs,t,f,q1,_⟩ => by
  obtain ⟨es,ck,hb,_⟩:=h
  rw [q1] at hb
  cases hb
theorem not_tk_u8 {w:World}{g:Nat}{l:List UInt8}(h:RwU w g l):¬ Tk w g fileT:=fun ⟨cs,t,f,q1,q2⟩ => by
  obtain ⟨cs',hb,_⟩:=h
  rw [q1] at hb
  injection hb with hb
  injection hb with _ hb
  subst hb
  revert q2
  decide
theorem PF.move {w w2:World}{O O2:Nat → Prop}{m:Nat}{P:Pl}(h:PF w O m P)(hs:w.heap.size ≤ w2.heap.size)(e:∀ k,k < w.heap.size → ¬ O k → ¬ Tk w k fileT → w2.heap[k]? = w.heap[k]? ∧ ¬ O2 k):PF w2 O2 m P:=by
  obtain ⟨lo,hi,G,C,D,h1,h2,h3,h4⟩:=h.ex
  have km:=e m (by have:=h2.m1; omega) h3 (not_tk_own h2.own)
  have kg:∀ i,(P.B i).isSome=true → w2.heap[G i]? = w.heap[G i]? ∧ ¬ O2 (G i):=fun i hi => by
    cases hb:P.B i with
    | none => rw [hb] at hi; cases hi
    | some l =>
      obtain ⟨_,_,_,_,q5,q6,_⟩:=h2.yes i l hb
      exact e (G i) (by omega) (h4 i hi) (not_tk_u8 q6)
  exact ⟨h.ok,lo,hi,G,C,D,by omega,h2.agreeG (fun k _ _ hk => by
    rcases hk with hk | ⟨i,hi,hk⟩
    · rw [hk]; exact km.1
    · rw [← hk]; exact (kg i hi).1),km.2,fun i hi => (kg i hi).2⟩
theorem PF.fr {w w2:World}{O O2:Nat → Prop}{m:Nat}{P:Pl}(h:PF w O m P)(f:Fr w O w2 O2):PF w2 O2 m P :=
  h.move f.1.size (fun k hk hn _ => ⟨f.1.block k hk hn,f.out hk hn⟩)
theorem PF.later {w w2:World}{O:Nat → Prop}{m:Nat}{P:Pl}(h:PF w O m P)(b:Below w.heap.size w w2):PF w2 O m P :=
  h.move b.size (fun k hk hn _ => ⟨b.block k hk,hn⟩)
theorem PF.new {w w2:World}{O:Nat → Prop}{B m:Nat}{P:Pl}{G C:Nat → Nat}{D:DataW Value}(hok:P.Ok)(h:PM w2 B w2.heap.size m P.B G C D)(hO:∀ k,O k → k < B):PF w2 O m P :=
  ⟨hok,B,w2.heap.size,G,C,D,Nat.le_refl _,h,fun o => by have:=hO _ o; have:=h.m0; omega,fun i hi o => by
    cases hb:P.B i with
    | none => rw [hb] at hi; cases hi
    | some l =>
      have:=(h.yes i l hb).2.2.2.1
      have:=hO _ o
      omega⟩
def PQ (w:World)(O:Nat → Prop)(ms:Nat → Nat)(Q:Nat → Pl):Prop := ∀ k,k < 3 → PF w O (ms k) (Q k)
theorem PQ.move {w w2:World}{O O2:Nat → Prop}{ms:Nat → Nat}{Q:Nat → Pl}(h:PQ w O ms Q)(hs:w.heap.size ≤ w2.heap.size)(e:∀ k,k < w.heap.size → ¬ O k → ¬ Tk w k fileT → w2.heap[k]? = w.heap[k]? ∧ ¬ O2 k):PQ w2 O2 ms Q:=fun k hk => (h k hk).move hs e
theorem PQ.fr {w w2:World}{O O2:Nat → Prop}{ms:Nat → Nat}{Q:Nat → Pl}(h:PQ w O ms Q)(f:Fr w O w2 O2):PQ w2 O2 ms Q:=fun k hk => (h k hk).fr f
theorem PQ.later {w w2:World}{O:Nat → Prop}{ms:Nat → Nat}{Q:Nat → Pl}(h:PQ w O ms Q)(b:Below w.heap.size w w2):PQ w2 O ms Q:=fun k hk => (h k hk).later b
def PRow (w:World)(base:Nat)(v:Value)(ms:Nat → Nat)(Q:Nat → Pl):Prop:=w.ownsRow base 47 2 v 3 (plC ms Q)
theorem PRow.form {w:World}{base:Nat}{v:Value}{ms:Nat → Nat}{Q:Nat → Pl}(h:PRow w base v ms Q):∃ g cap,v=.slice (some ⟨g,0,none⟩) 3 cap ∧ base ≤ g ∧ g < w.heap.size:=by
  obtain ⟨g,cap,e,_⟩:=World.ownsRow.form h (by decide)
  obtain ⟨q1,q2⟩:=World.ownsRow.lt h g (by rw [e]; rfl)
  exact ⟨g,cap,e,q1,q2⟩
theorem PRow.cell {w:World}{base g cap:Nat}{ms:Nat → Nat}{Q:Nat → Pl}(h:PRow w base (.slice (some ⟨g,0,none⟩) 3 cap) ms Q)(k:Nat)(hk:k < 3):w.cell? ⟨g,k * 2,none⟩=some (.map (some (ms k))) ∧ w.cell? ⟨g,k * 2 + 1,none⟩=some (.int .i64 ((Q k).size:Int)):=by
  have h1:=World.ownsRow.cellAt h (k * 2) (by omega)
  have h2:=World.ownsRow.cellAt h (k * 2 + 1) (by omega)
  rw [h1,h2]
  obtain rfl | rfl | rfl:k=0 ∨ k=1 ∨ k=2:=by omega
  all_goals exact ⟨rfl,rfl⟩
theorem PRow.kept {w w2:World}{base:Nat}{v:Value}{ms:Nat → Nat}{Q:Nat → Pl}(h:PRow w base v ms Q)(e:∀ g,v.ownBlock=some g → w2.heap[g]? = w.heap[g]?):PRow w2 base v ms Q:=by
  refine ⟨h.1,?_⟩
  rcases h.2 with q | ⟨g,cap,cur,hv,hb,hh,rest⟩
  · exact .inl q
  · exact .inr ⟨g,cap,cur,hv,hb,(e g (by rw [hv]; rfl)).trans hh,rest⟩
theorem PRow.later {w w2:World}{base:Nat}{v:Value}{ms:Nat → Nat}{Q:Nat → Pl}(h:PRow w base v ms Q)(b:Below w.heap.size w w2):PRow w2 base v ms Q :=
  h.kept (fun g e => b.block g ((World.ownsRow.lt h g e).2))
theorem takes_le (P:Pl):P.takes ≤ 16652:=cntP_le _ _
def sumT (Q:Nat → Pl):Nat → Nat
  | 0 => 0
  | k + 1 => sumT Q k + (Q k).takes
theorem sumT_le (Q:Nat → Pl):∀ k,sumT Q k ≤ 16652 * k
  | 0 => Nat.le_refl _
  | k + 1 => by have:=sumT_le Q k; have:=takes_le (Q k); show sumT Q k + (Q k).takes ≤ _; omega
theorem sumT3 (Q:Nat → Pl):sumT Q 3=takes3 Q:=by show 0 + (Q 0).takes + (Q 1).takes + (Q 2).takes=_; unfold takes3; omega
set_option maxRecDepth 100000 in
set_option maxHeartbeats 3200000 in
theorem all_any (w:World)(O:Nat → Prop)(base:Nat)(ms:Nat → Nat)(Q:Nat → Pl)(v:Value)(hr:PRow w base v ms Q)(h:PQ w O ms Q) :
    Calls Tryz.prog 15 #[v] w fun e w' => e=.returned (.int .i64 (takes3 Q:Int)) ∧ Below w.heap.size w w':=by
  obtain ⟨g,cap,rfl,hg1,hg2⟩:=hr.form
  have HR:=Lib.hid hr
  have HQ:=Lib.hid h
  clear hr h
  go_enter Tryz.func15,Tryz.ntmps15
  go_wp2_with fail
  go_loopw [3,4] (fun nv iv wr => ∃ k:Nat,k ≤ 3 ∧ iv=.int .i64 (k:Int) ∧ nv=.int .i64 (sumT Q k:Int) ∧ Below w.heap.size w wr) (fun _ iv _ => 3 - (intOf iv).toNat)
  case atStart => exact ⟨0,by omega,rfl,rfl,Below.refl _ _⟩
  case round =>
    obtain ⟨k,hk,rfl,rfl,hb⟩:=hrel
    have HB:=Lib.hid hb
    have hle:=sumT_le Q k
    by_cases hk3:k < 3
    · have hlt:(k:Int) < 3:=by omega
      obtain ⟨c0,c1⟩:=(HR.out.later hb).cell k hk3
      obtain ⟨lo,hi,G,C,D,hhi,hpm,_⟩:=((HQ.out.later hb) k hk3).ex
      have HT:=Lib.hid (ptakes_any wr lo hi (ms k) (Q k) G C D hpm hhi)
      obtain ⟨S,hS⟩:∃ S,sumT Q k=S:=⟨_,rfl⟩
      rw [hS] at hle ⊢
      have hSn:sumT Q (k + 1)=S + (Q k).takes:=by rw [← hS]; rfl
      have HSN:=Lib.hid hSn
      have htl:=takes_le (Q k)
      obtain ⟨T,hT⟩:∃ T,(Q k).takes=T:=⟨_,rfl⟩
      rw [hT] at HT HSN htl
      have u1:=i64_wr ((k:Int) + 1) (by omega)
      have u2:=i64_wr ((S:Int) + (T:Int)) (by omega)
      clear hb hpm hSn
      go_wp2_with (first
        | (go_at_call 32
           refine HT.out.mono ?_
           rintro e w1 ⟨rfl,hb1⟩
           have HB1:=Lib.hid hb1
           clear hb1))
      refine ⟨⟨k + 1,by omega,by rw [show ((k:Int) + 1)=((k + 1:Nat):Int) by omega],by rw [HSN.out,show ((S:Int) + (T:Int))=((S + T:Nat):Int) by omega],HB.out.trans (HB1.out.mono HB.out.size)⟩,?_⟩
      show 3 - ((k:Int) + 1).toNat < 3 - ((k:Int)).toNat
      omega
    · have hk4:k=3:=by omega
      subst hk4
      have hnlt:¬ ((3:Nat):Int) < 3:=by omega
      rw [sumT3]
      go_wp2_with fail
      go_ret
      exact ⟨rfl,HB.out⟩
end Go.Proofs.YthkijogloebdoaaGreatDoor
end
