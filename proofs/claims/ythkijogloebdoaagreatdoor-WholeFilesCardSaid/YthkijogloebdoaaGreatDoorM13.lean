/-
  WholeFiles, the texts Iz Bb Pnb Bc: lemmas for the proof that three files on one disk are plain rows of bytes. No conditions.
-/
import Derived.Test.YthkijogloebdoaaGreatDoorM12
import Derived.Test.YthkijogloebdoaaGreatDoorM10
import Derived.Deep.LoopGhost
set_option linter.unusedVariables false
set_option linter.unusedSimpArgs false
section
namespace Go.Proofs.YthkijogloebdoaaGreatDoor
open Go.RowKit Go.Maps Rec Gp
set_option maxRecDepth 100000 in
set_option maxHeartbeats 1600000 in
theorem iput_any (c:Cx)(w:World)(O:Nat → Prop)(T:Tn)(h:TxnAt c w O T)(n i k a:Nat)(x:Ino)(hn:Disk n)(hN:c.N=n)(hi0:1 ≤ i)(hi:i < cnt n)(hk:ino n + i / 8=k)(ha:i % 8 * 64=a)(hok:x.Ok)(hw:WidthsAt w)
    (S:List Nat)(hS:T.Cov S)(hiS:k ∈ S)(h96:S.length ≤ 96)(hT:T.H.length ≤ 1000000)(hwo:∀ w2 O2,Fr w O w2 O2 → WidthsAt w2) :
    Calls Tryz.prog 28 #[.pointer (some ⟨c.t,0,none⟩),geoV n,.int .i64 (i:Int),.agg x.C] w (Wrote c w O T k (spliced (T.view c.D k) a (encN x 12))):=by
  obtain ⟨p1,p2,p3,p4⟩:=rec_place hn hi
  have hVL:=h.view_len (i:=k) (by rw [hN]; omega)
  rw [ha] at p3
  obtain ⟨hb0,i0,i1⟩:=two_new w #[.int .i64 (n:Int),.int .i64 98,.int .i64 (ino n:Int),.int .i64 (dat n:Int),.int .i64 (cnt n:Int)] x.C 31 44
  obtain ⟨W,hW⟩:∃ W,(w.alloc (.cells #[.int .i64 (n:Int),.int .i64 98,.int .i64 (ino n:Int),.int .i64 (dat n:Int),.int .i64 (cnt n:Int)] 31)).alloc (.cells x.C 44)=W:=⟨_,rfl⟩
  rw [hW] at hb0 i0 i1
  have HB0:=Lib.hid hb0
  have HI0:=Lib.hid i0
  have HI1:=Lib.hid i1
  have HT:=Lib.hid (h.later hb0)
  have HOUT:=Lib.hid (fun g hg => h.out (g:=g) hg)
  have HII:=Lib.hid (fun w => isInode_any n i hn hi0 hi w)
  have HPL:=Lib.hid (fun w O h => iplace_any c w O T h n i k a hn hN hi0 hi hk ha)
  have HWR:=Lib.hid (fun w h A0 c0 l h5 hby hny => twrite_any c w O T h k A0 c0 l (by omega) (by rw [hN]; omega) h5 hby hny S hS hiS h96 hT)
  have hwl:=hw.lt
  have HW:=Lib.hid hw
  have HOK:=Lib.hid hok
  have HVL:=Lib.hid hVL
  obtain ⟨t,ht⟩:∃ t,c.t=t:=⟨_,rfl⟩
  rw [ht] at HPL HWR ⊢
  have c0:W.cell? ⟨w.heap.size,0,none⟩=some (.int .i64 (n:Int)):=i0.cell 0
  have c1:W.cell? ⟨w.heap.size,1,none⟩=some (.int .i64 98):=i0.cell 1
  have c2:W.cell? ⟨w.heap.size,2,none⟩=some (.int .i64 (ino n:Int)):=i0.cell 2
  have c3:W.cell? ⟨w.heap.size,3,none⟩=some (.int .i64 (dat n:Int)):=i0.cell 3
  have c4:W.cell? ⟨w.heap.size,4,none⟩=some (.int .i64 (cnt n:Int)):=i0.cell 4
  have hap:(a:Int) + 64 ≤ 512:=by omega
  have HEL:=Lib.hid (encN_len x 12 (by omega))
  clear h hn hN hi0 hi hok hVL hb0 i0 i1 hw ht hk ha p1 p2 p4 hS hiS h96
  unfold Wrote
  go_enter Tryz.func28,Tryz.ntmps28
  go_wp2_with (first
    | (go_at_call 53
       refine (HII.out _).mono ?_
       rintro e w1 ⟨rfl,hb1⟩
       have HB1:=Lib.hid (HB0.out.trans (hb1.mono HB0.out.size))
       have HT1:=Lib.hid (HT.out.later hb1)
       have J0:=Lib.hid (HI0.out.below hb1 HI0.out.lt)
       have J1:=Lib.hid (HI1.out.below hb1 HI1.out.lt)
       clear hb1)
    | (refine wpList_load_row rfl 44 (.tmp 7) rfl (w.heap.size + 1) rfl 44 x.C (0,0) _ J1.out Tryz.underlying44 rfl size15 ?_)
    | (go_at_call 56
       refine (encode_any x HOK.out _ (HW.out.below HB1.out hwl)).mono ?_
       rintro e w2 ⟨⟨gr,rfl,hgr,hgrs⟩,hb2⟩
       have HB2:=Lib.hid (HB1.out.trans (hb2.mono HB1.out.size))
       have HT2:=Lib.hid (HT1.out.later hb2)
       have HGR:=Lib.hid hgr
       have j0:=J0.out.below hb2 J0.out.lt
       have d0:w2.cell? ⟨w.heap.size,0,none⟩=some (.int .i64 (n:Int)):=j0.cell 0
       have d1:w2.cell? ⟨w.heap.size,1,none⟩=some (.int .i64 98):=j0.cell 1
       have d2:w2.cell? ⟨w.heap.size,2,none⟩=some (.int .i64 (ino n:Int)):=j0.cell 2
       have d3:w2.cell? ⟨w.heap.size,3,none⟩=some (.int .i64 (dat n:Int)):=j0.cell 3
       have d4:w2.cell? ⟨w.heap.size,4,none⟩=some (.int .i64 (cnt n:Int)):=j0.cell 4
       clear hgr hb2 j0)
    | (go_at_call 54
       refine (HPL.out _ _ HT2.out).mono ?_
       rintro e w3 ⟨⟨g,cp,rfl,hg,hgs,hcp⟩,hb3⟩
       have HG:=Lib.hid hg
       have HB3:=Lib.hid (HB2.out.trans (hb3.mono HB2.out.size))
       have HT3:=Lib.hid (HT2.out.later hb3)
       have HGR3:=Lib.hid (HGR.out.later hb3)
       have HGS:=Lib.hid (Nat.le_trans HB2.out.size hgs)
       have hcp2:(a:Int) ≤ (cp:Int):=by omega
       have hcp3:(512:Int) ≤ (cp:Int):=by omega
       have hneg:gr ≠ g:=by have:=HGR.out.lt; omega
       clear hg hgs hb3)
    | (refine wpList_copy_rw rfl (.tmp 40) (.tmp 41) rfl g (T.view c.D k) HG.out a (512 - a) (cp - a) rfl ⟨gr,0,none⟩ 64 64 (encN x 12) HEL.out rfl HGR3.out.bytes (by omega) (by rw [HVL.out]; omega) ?_
       intro w4 hg4 hk4
       have HG4:=Lib.hid hg4
       have HF4:=Lib.hid (show Fr w O w4 O from ((Keeps.of_below HB3.out).trans hk4).fr (fun i e => by rw [show i=g from e]; exact HGS.out))
       have HT4:=Lib.hid (HT3.out.keep1 hk4 (HOUT.out g HGS.out))
       clear hg4 hk4)
    | (go_at_call 38
       refine (HWR.out _ HT4.out (some ⟨g,0,none⟩) cp (spliced (T.view c.D k) a (encN x 12)) (by rw [spliced_length _ _ _ (by rw [HEL.out,HVL.out]; omega),HVL.out]) HG4.out.bytes (fun b off e => by injection e with e; injection e with e1 e2; subst e1; exact HOUT.out _ HGS.out)).mono ?_
       rintro e w5 ⟨rfl,O5,hT5,hF5⟩
       have HT5:=Lib.hid hT5
       have HF5:=Lib.hid (HF4.out.trans hF5)
       clear hT5 hF5))
  go_ret
  exact ⟨rfl,O5,HT5.out,HF5.out⟩
end Go.Proofs.YthkijogloebdoaaGreatDoor
end
section
namespace Go.Proofs.YthkijogloebdoaaGreatDoor
open Go.RowKit Go.Maps Rec Gp Fs
theorem WidthsAt.same {w w2:World}(h:WidthsAt w)(e:w2.heap[0]? = w.heap[0]?):WidthsAt w2:=fun i hi => (World.cell?_of_block (a:=⟨0,i,none⟩) e).trans (h i hi)
structure Env (c:Cx)(w:World)(O:Nat → Prop)(T:Tn)(n:Nat):Prop where
  tx:TxnAt c w O T
  hn:Disk n
  hN:c.N=n
  wd:WidthsAt w
  wo:¬ O 0
section
variable {c:Cx}{w w2:World}{O O2:Nat → Prop}{T T2:Tn}{n:Nat}
theorem Env.fr (h:Env c w O T n)(ht:TxnAt c w2 O2 T2)(hf:Fr w O w2 O2):Env c w2 O2 T2 n :=
  ⟨ht,h.hn,h.hN,h.wd.same (hf.1.block _ h.wd.lt h.wo),hf.out h.wd.lt h.wo⟩
theorem Env.below {B:Nat}(h:Env c w O T n)(hb:Below B w w2)(hB:w.heap.size ≤ B):Env c w2 O T n :=
  ⟨h.tx.below hb (fun k hk => Nat.lt_of_lt_of_le (h.tx.lt k hk) hB),h.hn,h.hN,h.wd.below hb (Nat.lt_of_lt_of_le h.wd.lt hB),h.wo⟩
theorem Env.later (h:Env c w O T n)(hb:Below w.heap.size w w2):Env c w2 O T n:=h.below hb (Nat.le_refl _)
theorem Env.keep1 {g:Nat}(h:Env c w O T n)(k:Keeps (·=g) w w2)(hn:¬ O g)(hg:g ≠ 0):Env c w2 O T n :=
  ⟨h.tx.keep1 k hn,h.hn,h.hN,h.wd.same (k.block _ h.wd.lt (fun e => hg e.symm)),h.wo⟩
theorem Env.len (h:Env c w O T n){i:Nat}(hi:i < n):(T.view c.D i).length=512:=h.tx.view_len (by rw [h.hN]; exact hi)
end
theorem view_upd (T:Tn)(D:Dk)(i:Nat)(l:List UInt8):(T.put i l).view D=upd (T.view D) i l:=by
  funext j; rw [Tn.view_put]; rfl
def Bk (w w2:World)(l:List UInt8)(q:Nat)(sl:Value):Prop:=(q=16652 ∧ sl=.slice none 0 0) ∨ (q ≠ 16652 ∧ ∃ g cp,sl=.slice (some ⟨g,0,none⟩) 512 cp ∧ Rw w2 g l ∧ w.heap.size ≤ g)
abbrev stepV (p:Nat):Value:=.agg #[.int .i64 (wh p:Int),.int .i64 (pl p:Int)]
theorem pl_slot {p:Nat}(hp:p < 16652)(hr:par p ≠ 16652):pl p=slot p:=by
  unfold pl
  rw [if_neg (fun e => hr (by rw [e]; rfl)),if_neg (fun e => hr (by rw [e]; rfl))]
set_option maxRecDepth 100000 in
theorem number_any (c:Cx)(w:World)(O:Nat → Prop)(T:Tn)(n:Nat)(he:Env c w O T n)(x:Ino)(l:Nat → Nat)(p F a v:Nat)(hp:p < 16652)(hF:FileAt w F c.t n x)(hl:refn (T.view c.D) x l p=v)
    (hat:par p ≠ 16652 → l (par p)=a ∧ a ≠ 0 ∧ a < n) :
    Calls Tryz.prog 100 #[.pointer (some ⟨F,0,none⟩),stepV p,.int .i64 (a:Int)] w fun e w' =>
      (∃ sl,e=.returned (.tuple #[.int .i64 (v:Int),sl,.int .i64 0]) ∧ Bk w w' (T.view c.D a) (par p) sl) ∧ Below w.heap.size w w':=by
  have HWH:=wh_root hp
  obtain ⟨s0,hs0⟩:∃ s0,wh p=s0:=⟨_,rfl⟩
  obtain ⟨s1,hs1⟩:∃ s1,pl p=s1:=⟨_,rfl⟩
  have HST:=Lib.hid (show stepV p=.agg #[.int .i64 (s0:Int),.int .i64 (s1:Int)] by unfold stepV; rw [hs0,hs1])
  obtain ⟨hb0,i0⟩:=one_new w #[.int .i64 (s0:Int),.int .i64 (s1:Int)] 145
  obtain ⟨W,hW⟩:∃ W,w.alloc (.cells #[.int .i64 (s0:Int),.int .i64 (s1:Int)] 145)=W:=⟨_,rfl⟩
  rw [hW] at hb0 i0
  have c0:W.cell? ⟨w.heap.size,0,none⟩=some (.int .i64 (s0:Int)):=i0.cell 0
  have c1:W.cell? ⟨w.heap.size,1,none⟩=some (.int .i64 (s1:Int)):=i0.cell 1
  have HI0:=Lib.hid i0
  have HB0:=Lib.hid hb0
  have HF0:=hF.below hb0 hF.lt
  rw [hs0] at HWH
  by_cases hr:par p=16652
  · have h3 : ¬ s0=3:=fun e => HWH.1 e hr
    have hne:((s0:Int) != 3)=true:=by rw [bne_iff_ne]; omega
    rw [refn_root hr] at hl
    have HBK:=Lib.hid (fun w' => show Bk w w' (T.view c.D a) (par p) (.slice none 0 0) from .inl ⟨hr,rfl⟩)
    have hsl:slot p < 12:=by
      unfold par at hr
      unfold slot
      by_cases h1:p < 10
      · rw [if_pos h1]; omega
      · rw [if_neg h1] at hr ⊢
        by_cases h2:p < 138
        · rw [if_pos h2] at hr; omega
        · rw [if_neg h2] at hr ⊢
          by_cases h4:p < 16522
          · rw [if_pos h4] at hr; omega
          · rw [if_neg h4] at hr ⊢
            by_cases h5:p < 16524
            · rw [if_pos h5]; omega
            · rw [if_neg h5] at hr; omega
    have HO:=Lib.hid (fun w h => own_any w F p hp hr h)
    obtain ⟨s,hs⟩:∃ s,slot p=s:=⟨_,rfl⟩
    rw [hs,hs0,hs1] at HO
    rw [hs] at hl hsl
    have HFD:=Lib.hid (show W.heap[F]? = some (.cells (fileC c.t n x) 142 (0,0)) from HF0)
    have hFl:F < W.heap.size:=HF0.lt
    have HNUM:=Lib.hid (fileC_num c.t n x s hsl)
    rw [hl] at HNUM
    rw [HST.out]
    clear HF0 hF he hp hat hl hs hr hsl i0 hb0 hs0 hs1 HWH h3
    go_enter Tryz.func100,Tryz.ntmps100
    go_wp2_with (first
      | (refine wpList_load_row rfl 145 (.tmp 4) rfl w.heap.size rfl 145 #[.int .i64 (s0:Int),.int .i64 (s1:Int)] (0,0) _ HI0.out Tryz.underlying145 rfl (by kernel_rfl) ?_)
      | (go_at_call 107
         refine (HO.out _ hFl).mono ?_
         rintro e w1 ⟨rfl,hb1⟩
         have HB1:=Lib.hid (HB0.out.trans (hb1.mono HB0.out.size))
         have cF:w1.cell? ⟨F,9 + s,none⟩=some (.int .i64 (v:Int)):=(Is.cell (show Is w1 F _ _ from (hb1.block F hFl).trans HFD.out) _).trans HNUM.out
         clear hb1))
    refine bodyPost_ret (v:=.tuple #[.int .i64 (v:Int),.slice none 0 0,.int .i64 0]) (by simp [results,Tryz.results100,go_sem]) rfl ?_
    exact ⟨⟨_,rfl,HBK.out _⟩,HB1.out⟩
  · have h3:s0=3:=HWH.2 hr
    have hne:((s0:Int) != 3)=false:=by rw [bne_eq_false_iff_eq]; omega
    obtain ⟨a1,a2,a3⟩:=hat hr
    rw [refn_tab hr (by rw [a1]; exact a2),a1] at hl
    have hps:=pl_slot hp hr
    obtain ⟨k1,k2,k3,k4⟩:=kid_par hp hr
    rw [← hps,hs1] at hl k2
    have hlen:=he.len a3
    obtain ⟨g1,g2⟩:=getV_nm (T.view c.D a) (4 * s1) 4 rfl (by omega)
    have hvb:v < 4294967296:=by rw [← hl]; exact nm_lt _ _ _
    have HG:=Lib.hid (fun A cap w hw hb => get_to A cap (T.view c.D a) 512 hlen ((4 * s1:Nat):Int) ((4:Nat):Int) v 0 (g1.trans hl) g2 w hw hb (by decide) (by omega) (by omega))
    have uk:=i64_in v (by omega)
    have h4:(4:Int) * (s1:Int)=((4 * s1:Nat):Int):=by omega
    obtain ⟨s4,hs4⟩:∃ s4,4 * s1=s4:=⟨_,rfl⟩
    rw [hs4] at HG h4
    have hs4b:s4 ≤ 1000:=by omega
    have HRD:=Lib.hid (fun w h => tread_any c w O T h a (by rw [he.hN]; exact a3))
    have HE:=Lib.hid (he.later hb0)
    have cF0:W.cell? ⟨F,0,none⟩=some (.pointer (some ⟨c.t,0,none⟩)):=HF0.cell 0
    obtain ⟨t,ht⟩:∃ t,c.t=t:=⟨_,rfl⟩
    rw [ht] at HRD cF0
    have HPR:=Lib.hid hr
    rw [HST.out]
    clear HF0 hF he hp hat hl hr i0 hb0 hs0 hs1 HWH h3 g1 g2 hlen hps a1 a2 a3 k1 k2 k3 k4 ht hvb hs4
    go_enter Tryz.func100,Tryz.ntmps100
    go_wp2_with (first
      | (go_at_call 37
         refine (HRD.out _ HE.out.tx).mono ?_
         rintro e w1 ⟨⟨g,cp,rfl,hg,hgs,hcp⟩,hb1⟩
         have HB1:=Lib.hid (HB0.out.trans (hb1.mono HB0.out.size))
         have HE1:=Lib.hid (HE.out.later hb1)
         have HG1:=Lib.hid hg
         have HGS:=Lib.hid (Nat.le_trans HB0.out.size hgs)
         have d1:w1.cell? ⟨w.heap.size,1,none⟩=some (.int .i64 (s1:Int)):=(HI0.out.below hb1 HI0.out.lt).cell 1
         clear hg hgs hb1)
      | (go_at_call 92
         refine (HG.out _ _ _ HE1.out.wd HG1.out.bytes).mono ?_
         rintro e w2 ⟨rfl,rfl⟩))
    refine bodyPost_ret (v:=.tuple #[.int .i64 (v:Int),.slice (some ⟨g,0,none⟩) 512 cp,.int .i64 0]) (by simp [results,Tryz.results100,go_sem]) rfl ?_
    exact ⟨⟨_,rfl,.inr ⟨HPR.out,g,cp,rfl,HG1.out,HGS.out⟩⟩,HB1.out⟩
def FrX (G:Nat → Prop)(w:World)(O:Nat → Prop)(w2:World)(O2:Nat → Prop):Prop:=Keeps (fun k => O k ∨ G k) w w2 ∧ ∀ k,O2 k → O k ∨ w.heap.size ≤ k
section
variable {G G2:Nat → Prop}{w w2 w3:World}{O O2 O3:Nat → Prop}
theorem FrX.of_fr (h:Fr w O w2 O2):FrX G w O w2 O2:=⟨h.1.mono (fun i hi => .inl hi),h.2⟩
theorem FrX.of_keeps (h:Keeps G w w2):FrX G w O w2 O:=⟨h.mono (fun i hi => .inr hi),fun k hk => .inl hk⟩
theorem FrX.of_below (h:Below w.heap.size w w2):FrX G w O w2 O:=.of_fr (Fr.of_below h)
theorem FrX.trans (h:FrX G w O w2 O2)(k:FrX G w2 O2 w3 O3):FrX G w O w3 O3 :=
  ⟨⟨k.1.os.trans h.1.os,k.1.tape.trans h.1.tape,k.1.output.trans h.1.output,Nat.le_trans h.1.size k.1.size,fun i hi hn => (k.1.block i (Nat.lt_of_lt_of_le hi h.1.size) (fun e => by
      rcases e with e | e
      · rcases h.2 i e with e | e
        · exact hn (.inl e)
        · omega
      · exact hn (.inr e))).trans (h.1.block i hi hn)⟩,fun i hi => by
      rcases k.2 i hi with e | e
      · exact h.2 i e
      · exact .inr (Nat.le_trans h.1.size e)⟩
theorem FrX.mono (h:FrX G w O w2 O2)(hg:∀ k,G k → G2 k):FrX G2 w O w2 O2:=⟨h.1.mono (fun i hi => hi.imp id (hg i)),h.2⟩
theorem FrX.out {g:Nat}(h:FrX G w O w2 O2)(hg:g < w.heap.size)(hn:¬ O g):¬ O2 g:=fun e => (h.2 g e).elim hn (fun e => by omega)
theorem FrX.block {g:Nat}(h:FrX G w O w2 O2)(hg:g < w.heap.size)(hn:¬ O g)(hn2:¬ G g):w2.heap[g]? = w.heap[g]?:=h.1.block g hg (fun e => e.elim hn hn2)
theorem FrX.size (h:FrX G w O w2 O2):w.heap.size ≤ w2.heap.size:=h.1.size
theorem FrX.fr (h:Fr w O w2 O2)(k:FrX G w2 O2 w3 O3)(hG:∀ i,G i → w.heap.size ≤ i):Fr w O w3 O3 :=
  ⟨⟨k.1.os.trans h.1.os,k.1.tape.trans h.1.tape,k.1.output.trans h.1.output,Nat.le_trans h.1.size k.1.size,fun i hi hn => (k.1.block i (Nat.lt_of_lt_of_le hi h.1.size) (fun e => by
      rcases e with e | e
      · rcases h.2 i e with e | e
        · exact hn e
        · omega
      · have:=hG i e; omega)).trans (h.1.block i hi hn)⟩,fun i hi => by
      rcases k.2 i hi with e | e
      · exact h.2 i e
      · exact .inr (Nat.le_trans h.1.size e)⟩
theorem Is.frX {g:Nat}{t:TypeId}{cs:Array Value}(hi:Is w g t cs)(h:FrX G w O w2 O2)(hn:¬ O g)(hn2:¬ G g):Is w2 g t cs:=(h.block hi.lt hn hn2).trans hi
theorem Env.frX {c:Cx}{T T2:Tn}{n:Nat}(h:Env c w O T n)(ht:TxnAt c w2 O2 T2)(hf:FrX G w O w2 O2)(hg:¬ G 0):Env c w2 O2 T2 n :=
  ⟨ht,h.hn,h.hN,h.wd.same (hf.block h.wd.lt h.wo hg),hf.out h.wd.lt h.wo⟩
end
theorem FileAt.set {w:World}{F t n:Nat}{x:Ino}(h:FileAt w F t n x)(s v:Nat)(hs:s < 12):FileAt (w.setCell ⟨F,9 + s,none⟩ (.int .i64 (v:Int))) F t n (x.set s v):=by
  unfold FileAt
  rw [← fileC_set t n x s v hs]
  exact h.put (9 + s) _
theorem root_slot12 {p:Nat}(hr:par p=16652)(hp:p < 16652):slot p < 12:=by
  unfold par at hr
  unfold slot
  by_cases h1:p < 10
  · rw [if_pos h1]; omega
  · rw [if_neg h1] at hr ⊢
    by_cases h2:p < 138
    · rw [if_pos h2] at hr; omega
    · rw [if_neg h2] at hr ⊢
      by_cases h4:p < 16522
      · rw [if_pos h4] at hr; omega
      · rw [if_neg h4] at hr ⊢
        by_cases h5:p < 16524
        · rw [if_pos h5]; omega
        · rw [if_neg h5] at hr; omega
set_option maxRecDepth 100000 in
theorem set_root (w:World)(t n:Nat)(x:Ino)(p F a v:Nat)(A:Option Addr)(la ca:Nat)(hp:p < 16652)(hF:FileAt w F t n x)(hr:par p=16652) :
    Calls Tryz.prog 69 #[.pointer (some ⟨F,0,none⟩),stepV p,.int .i64 (a:Int),.slice A la ca,.int .i64 (v:Int)] w fun e w' =>
      e=.returned (.int .i64 0) ∧ FileAt w' F t n (x.set (slot p) v) ∧ Keeps (·=F) w w':=by
  have HWH:=wh_root hp
  obtain ⟨s0,hs0⟩:∃ s0,wh p=s0:=⟨_,rfl⟩
  obtain ⟨s1,hs1⟩:∃ s1,pl p=s1:=⟨_,rfl⟩
  have HST:=Lib.hid (show stepV p=.agg #[.int .i64 (s0:Int),.int .i64 (s1:Int)] by unfold stepV; rw [hs0,hs1])
  obtain ⟨hb0,i0⟩:=one_new w #[.int .i64 (s0:Int),.int .i64 (s1:Int)] 145
  obtain ⟨W,hW⟩:∃ W,w.alloc (.cells #[.int .i64 (s0:Int),.int .i64 (s1:Int)] 145)=W:=⟨_,rfl⟩
  rw [hW] at hb0 i0
  have c0:W.cell? ⟨w.heap.size,0,none⟩=some (.int .i64 (s0:Int)):=i0.cell 0
  have c1:W.cell? ⟨w.heap.size,1,none⟩=some (.int .i64 (s1:Int)):=i0.cell 1
  have HI0:=Lib.hid i0
  have HB0:=Lib.hid hb0
  have HF0:=Lib.hid (hF.below hb0 hF.lt)
  rw [hs0] at HWH
  have h3:¬ s0=3:=fun e => HWH.1 e hr
  have hne:((s0:Int) != 3)=true:=by rw [bne_iff_ne]; omega
  have HO:=Lib.hid (fun w h => own_any w F p hp hr h)
  have hsl:=root_slot12 hr hp
  obtain ⟨s,hs⟩:∃ s,slot p=s:=⟨_,rfl⟩
  rw [hs,hs0,hs1] at HO
  rw [hs] at hsl ⊢
  have hFl:F < W.heap.size:=HF0.out.lt
  have HNUM:=Lib.hid (fileC_num t n x s hsl)
  have HSL:=Lib.hid hsl
  rw [HST.out]
  clear hF hp hs hr hsl i0 hb0 hs0 hs1 HWH h3
  go_enter Tryz.func69,Tryz.ntmps69
  go_wp2_with (first
    | (refine wpList_load_row rfl 145 (.tmp 6) rfl w.heap.size rfl 145 #[.int .i64 (s0:Int),.int .i64 (s1:Int)] (0,0) _ HI0.out Tryz.underlying145 rfl (by kernel_rfl) ?_)
    | (go_at_call 107
       refine (HO.out _ hFl).mono ?_
       rintro e w1 ⟨rfl,hb1⟩
       have HB1:=Lib.hid (HB0.out.trans (hb1.mono HB0.out.size))
       have HF1:=Lib.hid (HF0.out.below hb1 HF0.out.lt)
       have cF:w1.cell? ⟨F,9 + s,none⟩=some (.int .i64 (x.num s:Int)):=(HF1.out.cell _).trans HNUM.out
       have fF:=HF1.out.free (9 + s)
       clear hb1))
  go_ret
  exact ⟨rfl,FileAt.set HF1.out s v HSL.out,(Keeps.of_below HB1.out).trans (keeps_set w1 F (9 + s) _)⟩
set_option maxRecDepth 100000 in
theorem set_tab (c:Cx)(w:World)(O:Nat → Prop)(T:Tn)(n:Nat)(he:Env c w O T n)(x:Ino)(l:List UInt8)(p F a v g cp:Nat)(hp:p < 16652)(hF:FileAt w F c.t n x)(hr:par p ≠ 16652)(ha0:98 ≤ a)(ha:a < n)
    (hg:Rw w g l)(hl:l.length=512)(hgo:¬ O g)(hgF:g ≠ F)(hgw:g ≠ 0)(hv:v < 4294967296)(S:List Nat)(hS:T.Cov S)(hiS:a ∈ S)(h96:S.length ≤ 96)(hT:T.H.length ≤ 1000000) :
    Calls Tryz.prog 69 #[.pointer (some ⟨F,0,none⟩),stepV p,.int .i64 (a:Int),.slice (some ⟨g,0,none⟩) 512 cp,.int .i64 (v:Int)] w fun e w' =>
      e=.returned (.int .i64 0) ∧ ∃ O',TxnAt c w' O' (T.put a (spliced l (4 * slot p) (les v 4))) ∧ FrX (·=g) w O w' O':=by
  have HWH:=wh_root hp
  have hps:=pl_slot hp hr
  obtain ⟨k1,k2,k3,k4⟩:=kid_par hp hr
  obtain ⟨s0,hs0⟩:∃ s0,wh p=s0:=⟨_,rfl⟩
  obtain ⟨s1,hs1⟩:∃ s1,pl p=s1:=⟨_,rfl⟩
  have HST:=Lib.hid (show stepV p=.agg #[.int .i64 (s0:Int),.int .i64 (s1:Int)] by unfold stepV; rw [hs0,hs1])
  obtain ⟨hb0,i0⟩:=one_new w #[.int .i64 (s0:Int),.int .i64 (s1:Int)] 145
  obtain ⟨W,hW⟩:∃ W,w.alloc (.cells #[.int .i64 (s0:Int),.int .i64 (s1:Int)] 145)=W:=⟨_,rfl⟩
  rw [hW] at hb0 i0
  have c0:W.cell? ⟨w.heap.size,0,none⟩=some (.int .i64 (s0:Int)):=i0.cell 0
  have c1:W.cell? ⟨w.heap.size,1,none⟩=some (.int .i64 (s1:Int)):=i0.cell 1
  have HI0:=Lib.hid i0
  have HB0:=Lib.hid hb0
  have HE0:=Lib.hid (he.later hb0)
  have HF0:=hF.below hb0 hF.lt
  rw [hs0] at HWH
  have h3:s0=3:=HWH.2 hr
  have hne:((s0:Int) != 3)=false:=by rw [bne_eq_false_iff_eq]; omega
  rw [hs1] at hps
  rw [← hps] at k2 ⊢
  have h4:(4:Int) * (s1:Int)=((4 * s1:Nat):Int):=by omega
  obtain ⟨s4,hs4⟩:∃ s4,4 * s1=s4:=⟨_,rfl⟩
  rw [hs4] at h4 ⊢
  have hs4b:s4 + 4 ≤ 512:=by omega
  have uk:IntKind.u64.wrap (v:Int)=(v:Int):=u64_in v (by omega)
  have HG0:=Lib.hid (hg.later hb0)
  have HP:=Lib.hid (fun w hw hM => rput_at g cp 512 l hl s4 4 v (s4:Int) 4 (v:Int) rfl rfl rfl w hw hM rfl (by decide) hv hs4b (by decide))
  have HWR:=Lib.hid (fun w h A0 c0 l h5 hby hny => twrite_any c w O T h a A0 c0 l ha0 (by rw [he.hN]; exact ha) h5 hby hny S hS hiS h96 hT)
  have cF0:W.cell? ⟨F,0,none⟩=some (.pointer (some ⟨c.t,0,none⟩)):=HF0.cell 0
  have HL:=Lib.hid (show (spliced l s4 (les v 4)).length=512 by rw [spliced_length _ _ _ (by rw [les_length,hl]; exact hs4b)]; exact hl)
  obtain ⟨t,ht⟩:∃ t,c.t=t:=⟨_,rfl⟩
  rw [ht] at HWR cF0
  have HGF:=Lib.hid hgF
  have HGW:=Lib.hid hgw
  have HGO:=Lib.hid hgo
  have HFF:=Lib.hid HF0
  rw [HST.out]
  have hFlt:F < W.heap.size:=HF0.lt
  clear hF he hp hr HF0 i0 hb0 hs0 hs1 HWH h3 hg hl hgF hgw hgo hv hS hiS h96 k1 k2 k3 k4 ht hs4 hps
  go_enter Tryz.func69,Tryz.ntmps69
  go_wp2_with (first
    | (go_at_call 94
       refine (HP.out _ HE0.out.wd HG0.out).mono ?_
       rintro e w1 ⟨rfl,hg1,hk1⟩
       have HG1:=Lib.hid hg1
       have HK1:=Lib.hid ((Keeps.of_below HB0.out).trans hk1)
       have HE1:=Lib.hid (HE0.out.keep1 hk1 HGO.out HGW.out)
       have d0:w1.cell? ⟨F,0,none⟩=some (.pointer (some ⟨t,0,none⟩)):=(World.cell?_of_block (a:=⟨F,0,none⟩) (hk1.block F hFlt (fun e => HGF.out e.symm))).trans cF0
       clear hg1 hk1 cF0)
    | (go_at_call 38
       refine (HWR.out _ HE1.out.tx (some ⟨g,0,none⟩) cp _ HL.out HG1.out.bytes (fun b off e => by injection e with e; injection e with e1 e2; subst e1; exact HGO.out)).mono ?_
       rintro e w5 ⟨rfl,O5,hT5,hF5⟩
       have HT5:=Lib.hid hT5
       have HF5:=Lib.hid ((FrX.of_keeps HK1.out).trans (FrX.of_fr (G:=(·=g)) hF5))
       clear hT5 hF5))
  go_ret
  exact ⟨rfl,O5,HT5.out,HF5.out⟩
end Go.Proofs.YthkijogloebdoaaGreatDoor
end
section
namespace Go.Proofs.YthkijogloebdoaaGreatDoor.Fs
open Rec Gp
def cntP (P:Nat → Bool):Nat → Nat
  | 0 => 0
  | k + 1 => cntP P k + if P k=true then 1 else 0
theorem cntP_congr {P Q:Nat → Bool}:∀ (k:Nat),(∀ i,i < k → P i=Q i) → cntP P k=cntP Q k
  | 0,_ => rfl
  | k + 1,h => by
    unfold cntP
    rw [cntP_congr k (fun i hi => h i (by omega)),h k (by omega)]
theorem cntP_mono {P Q:Nat → Bool}:∀ (k:Nat),(∀ i,i < k → P i=true → Q i=true) → cntP P k ≤ cntP Q k
  | 0,_ => Nat.le_refl _
  | k + 1,h => by
    have ih:=cntP_mono k (fun i hi => h i (by omega))
    unfold cntP
    by_cases e:P k=true
    · rw [if_pos e,if_pos (h k (by omega) e)]; omega
    · rw [if_neg e]; omega
theorem cntP_lt {P Q:Nat → Bool}:∀ (k:Nat),(∀ i,i < k → P i=true → Q i=true) → ∀ j,j < k → P j=false → Q j=true → cntP P k < cntP Q k
  | 0,_,j,hj,_,_ => by omega
  | k + 1,h,j,hj,h1,h2 => by
    by_cases e:j=k
    · subst e
      have ih:=cntP_mono j (fun i hi => h i (by omega))
      unfold cntP
      rw [h1,if_neg (by decide),if_pos h2]; omega
    · have ih:=cntP_lt k (fun i hi => h i (by omega)) j (by omega) h1 h2
      unfold cntP
      by_cases e:P k=true
      · rw [if_pos e,if_pos (h k (by omega) e)]; omega
      · rw [if_neg e]; omega
theorem cntP_add (P:Nat → Bool)(a:Nat):∀ b,cntP P (a + b)=cntP P a + cntP (fun j => P (a + j)) b
  | 0 => rfl
  | b + 1 => by
    show cntP P (a + b) + (if P (a + b)=true then 1 else 0)=cntP P a + (cntP (fun j => P (a + j)) b + if P (a + b)=true then 1 else 0)
    rw [cntP_add P a b]; omega
theorem cntP_none {P:Nat → Bool}:∀ (k:Nat),(∀ i,i < k → P i=false) → cntP P k=0
  | 0,_ => rfl
  | k + 1,h => by
    unfold cntP
    rw [cntP_none k (fun i hi => h i (by omega)),h k (by omega)]; rfl
theorem cntP_all {P:Nat → Bool}:∀ (k:Nat),(∀ i,i < k → P i=true) → cntP P k=k
  | 0,_ => rfl
  | k + 1,h => by
    unfold cntP
    rw [cntP_all k (fun i hi => h i (by omega)),if_pos (h k (by omega))]
theorem cntP_le (P:Nat → Bool):∀ k,cntP P k ≤ k
  | 0 => Nat.le_refl _
  | k + 1 => by have:=cntP_le P k; unfold cntP; split <;> omega
theorem cntP_from (D n:Nat)(h:D ≤ n):cntP (fun b => decide (D ≤ b)) n=n - D:=by
  obtain ⟨d,rfl⟩:=Nat.exists_eq_add_of_le h
  rw [cntP_add,cntP_none D (fun i hi => decide_eq_false (by omega)),cntP_all d (fun i hi => decide_eq_true (by omega))]; omega
theorem cntP_part {P Q R:Nat → Bool}:∀ (k:Nat),(∀ i,i < k → (R i=true ↔ P i=true ∨ Q i=true) ∧ ¬ (P i=true ∧ Q i=true)) → cntP P k + cntP Q k=cntP R k
  | 0,_ => rfl
  | k + 1,h => by
    have ih:=cntP_part k (fun i hi => h i (by omega))
    obtain ⟨h1,h2⟩:=h k (by omega)
    unfold cntP
    by_cases p:P k=true <;> by_cases q:Q k=true
    · exact absurd ⟨p,q⟩ h2
    · rw [if_pos p,if_neg q,if_pos (h1.2 (.inl p))]; omega
    · rw [if_neg p,if_pos q,if_pos (h1.2 (.inr q))]; omega
    · rw [if_neg p,if_neg q,if_neg (fun r => (h1.1 r).elim p q)]; omega
theorem cntP_length (P:Nat → Bool):∀ k,cntP P k=((List.range k).filter P).length
  | 0 => rfl
  | k + 1 => by
    unfold cntP
    rw [cntP_length P k,List.range_succ,List.filter_append,List.length_append]
    by_cases e:P k=true
    · rw [if_pos e,List.filter_cons_of_pos e]; rfl
    · rw [if_neg e,List.filter_cons_of_neg e]; rfl
def pres (L:Nat → Nat → Nat)(f p:Nat):Bool:=decide (L f p ≠ 0)
def total (L:Nat → Nat → Nat):Nat:=cntP (pres L 0) 16652 + cntP (pres L 1) 16652 + cntP (pres L 2) 16652
theorem pres_iff {L:Nat → Nat → Nat}{f p:Nat}:pres L f p=true ↔ L f p ≠ 0:=by unfold pres; exact decide_eq_true_iff
def taken (V:Nat → List UInt8)(n b:Nat):Bool:=decide (dat n ≤ b) && Bt.bit (V (98 + b / 4096)) (b % 4096)
def isFree (V:Nat → List UInt8)(n b:Nat):Bool:=decide (dat n ≤ b ∧ b < n) && !Bt.bit (V (98 + b / 4096)) (b % 4096)
def blocksOf (L:Nat → Nat → Nat)(f:Nat):List Nat:=((List.range 16652).filter (pres L f)).map (L f)
theorem mem_blocksOf {L:Nat → Nat → Nat}{f b:Nat}:b ∈ blocksOf L f ↔ ∃ p,p < 16652 ∧ L f p ≠ 0 ∧ L f p=b:=by
  unfold blocksOf
  rw [List.mem_map]
  constructor
  · rintro ⟨p,hp,rfl⟩
    obtain ⟨h1,h2⟩:=List.mem_filter.1 hp
    exact ⟨p,List.mem_range.1 h1,pres_iff.1 h2,rfl⟩
  · rintro ⟨p,h1,h2,rfl⟩
    exact ⟨p,List.mem_filter.2 ⟨List.mem_range.2 h1,pres_iff.2 h2⟩,rfl⟩
section
variable {n:Nat}{V:Nat → List UInt8}{X:Nat → Ino}{L:Nat → Nat → Nat}{E:Nat → Nat → Prop}
theorem Tree.nodup_of (h:Tree n V X L E)(f:Nat):(blocksOf L f).Nodup:=by
  unfold blocksOf
  refine List.pairwise_map.2 ?_
  have h1:((List.range 16652).filter (pres L f)).Nodup:=List.Pairwise.filter _ List.nodup_range
  refine List.Pairwise.imp_of_mem (fun {a b} ha hb hne e => hne ?_) h1
  exact (h.inj f a f b (pres_iff.1 (List.mem_filter.1 ha).2) e).2
theorem Tree.nodup_all (h:Tree n V X L E):(blocksOf L 0 ++ (blocksOf L 1 ++ blocksOf L 2)).Nodup:=by
  have hd:∀ f g,f ≠ g → ∀ a,a ∈ blocksOf L f → ∀ b,b ∈ blocksOf L g → a ≠ b:=fun f g hfg a ha b hb e => by
    obtain ⟨p,_,h1,rfl⟩:=mem_blocksOf.1 ha
    obtain ⟨q,_,h2,rfl⟩:=mem_blocksOf.1 hb
    exact hfg (h.inj f p g q h1 e).1
  refine List.nodup_append.2 ⟨h.nodup_of 0,List.nodup_append.2 ⟨h.nodup_of 1,h.nodup_of 2,hd 1 2 (by decide)⟩,fun a ha b hb => ?_⟩
  rcases List.mem_append.1 hb with hb | hb
  · exact hd 0 1 (by decide) a ha b hb
  · exact hd 0 2 (by decide) a ha b hb
theorem Tree.count (h:Tree n V X L E):cntP (taken V n) n=total L:=by
  have hl:total L=(blocksOf L 0 ++ (blocksOf L 1 ++ blocksOf L 2)).length:=by
    rw [List.length_append,List.length_append]
    unfold total blocksOf
    rw [List.length_map,List.length_map,List.length_map,cntP_length,cntP_length,cntP_length]; omega
  rw [hl,cntP_length]
  have hn1:((List.range n).filter (taken V n)).Nodup:=List.Pairwise.filter _ List.nodup_range
  have hin:∀ b,b ∈ (List.range n).filter (taken V n) ↔ b ∈ blocksOf L 0 ++ (blocksOf L 1 ++ blocksOf L 2):=fun b => by
    rw [List.mem_filter,List.mem_range,List.mem_append,List.mem_append,mem_blocksOf,mem_blocksOf,mem_blocksOf]
    unfold taken
    rw [Bool.and_eq_true,decide_eq_true_iff]
    constructor
    · rintro ⟨h1,h2,h3⟩
      obtain ⟨f,p,hfp⟩:=(h.bits b h2 h1).1 h3
      have hne:L f p ≠ 0:=by have:=dat_pos n; omega
      obtain ⟨i1,i2,_⟩:=h.inn f p hne
      have:f=0 ∨ f=1 ∨ f=2:=by omega
      rcases this with rfl | rfl | rfl
      · exact .inl ⟨p,i2,hne,hfp⟩
      · exact .inr (.inl ⟨p,i2,hne,hfp⟩)
      · exact .inr (.inr ⟨p,i2,hne,hfp⟩)
    · intro hh
      have:∃ f p,L f p ≠ 0 ∧ L f p=b:=by
        rcases hh with ⟨p,_,h1,h2⟩ | ⟨p,_,h1,h2⟩ | ⟨p,_,h1,h2⟩
        · exact ⟨0,p,h1,h2⟩
        · exact ⟨1,p,h1,h2⟩
        · exact ⟨2,p,h1,h2⟩
      obtain ⟨f,p,h1,rfl⟩:=this
      obtain ⟨_,_,i3,i4⟩:=h.inn f p h1
      exact ⟨i4,i3,(h.bits _ i3 i4).2 ⟨f,p,rfl⟩⟩
  exact Nat.le_antisymm (hn1.length_le_of_subset (fun b hb => (hin b).1 hb)) (h.nodup_all.length_le_of_subset (fun b hb => (hin b).2 hb))
theorem free_taken (V:Nat → List UInt8){n:Nat}(hn:Disk n):cntP (isFree V n) n + cntP (taken V n) n + dat n=n:=by
  have h1:cntP (isFree V n) n + cntP (taken V n) n=cntP (fun b => decide (dat n ≤ b)) n:=cntP_part n (fun b hb => by
    unfold isFree taken
    simp only [Bool.and_eq_true,decide_eq_true_iff,Bool.not_eq_true']
    cases Bt.bit (V (98 + b / 4096)) (b % 4096)
    · simp; omega
    · simp)
  have h2:=cntP_from (dat n) n (Nat.le_of_lt (dat_lt hn))
  have:=dat_lt hn
  omega
theorem offs_cntP (l:List UInt8)(first D N:Nat):∀ k,Bt.offs l first D N k=cntP (fun j => decide (Bt.bit l j=false ∧ D ≤ first + j ∧ first + j < N)) k
  | 0 => rfl
  | k + 1 => by
    unfold Bt.offs cntP
    rw [offs_cntP l first D N k]
    by_cases e:Bt.bit l k=false ∧ D ≤ first + k ∧ first + k < N
    · rw [if_pos e,if_pos (decide_eq_true e)]
    · rw [if_neg e,if_neg (by rw [decide_eq_true_iff]; exact e)]
theorem freeIn_cntP (V:Nat → List UInt8)(n:Nat):∀ m,freeIn V n m=cntP (isFree V n) (4096 * m)
  | 0 => rfl
  | m + 1 => by
    unfold freeIn
    have e:Bt.offs (V (98 + m)) (4096 * m) (dat n) n 4096=cntP (fun j => isFree V n (4096 * m + j)) 4096:=by
      rw [offs_cntP]
      refine cntP_congr _ (fun j hj => ?_)
      unfold isFree
      rw [show (4096 * m + j) / 4096=m by omega,show (4096 * m + j) % 4096=j by omega]
      cases hb:Bt.bit (V (98 + m)) j
      · simp
      · simp
    rw [freeIn_cntP V n m,show 4096 * (m + 1)=4096 * m + 4096 by omega,cntP_add,e]
theorem free_all (V:Nat → List UInt8){n:Nat}(hn:Disk n):freeIn V n (ino n - 98)=cntP (isFree V n) n:=by
  rw [freeIn_cntP]
  obtain ⟨h1,h2,h3,h4⟩:=geo_facts hn
  obtain ⟨d,hd⟩:=Nat.exists_eq_add_of_le (show n ≤ 4096 * (ino n - 98) by omega)
  rw [hd,cntP_add,cntP_none d (fun i hi => by unfold isFree; rw [decide_eq_false (by omega)]; rfl)]; rfl
theorem Tree.room (h:Tree n V X L E)(hn:Disk n):freeIn V n (ino n - 98) + total L + dat n=n:=by
  rw [free_all V hn,← h.count]; exact free_taken V hn
theorem Tree.full (h:Tree n V X L E)(hn:Disk n)(hf:∀ k,k < ino n - 98 → Bt.offs (V (98 + k)) (4096 * k) (dat n) n 4096=0):total L + dat n=n:=by
  have h1:=h.room hn
  have h2:∀ m,m ≤ ino n - 98 → freeIn V n m=0:=fun m => by
    induction m with
    | zero => intro _; rfl
    | succ m ih => intro hm; unfold freeIn; rw [ih (by omega),hf m (by omega)]
  rw [h2 _ (Nat.le_refl _)] at h1
  omega
def tabOf (D:Nat → Bool)(i:Nat):Bool:=(List.range 128).any fun s => D (138 + 128 * i + s)
def nodes (D:Nat → Bool)(p:Nat):Bool:=if p < 16522 then D p else if p=16522 then (List.range 128).any (fun s => D (10 + s)) else if p=16523 then (List.range 128).any (tabOf D) else tabOf D (p - 16524)
theorem any_iff (P:Nat → Bool)(m:Nat):(List.range m).any P=true ↔ ∃ s,s < m ∧ P s=true:=by
  rw [List.any_eq_true]
  constructor
  · rintro ⟨s,hs,h⟩; exact ⟨s,List.mem_range.1 hs,h⟩
  · rintro ⟨s,hs,h⟩; exact ⟨s,List.mem_range.2 hs,h⟩
def Live (L:Nat → Nat → Nat)(f:Nat):Prop := ∀ q,16522 ≤ q → q < 16652 → L f q ≠ 0 → ∃ s,s < 128 ∧ L f (kid q s) ≠ 0
theorem Tree.up (h:Tree n V X L E){f p:Nat}(hp:L f p ≠ 0)(hr:par p ≠ 16652):L f (par p) ≠ 0:=fun e => by
  obtain ⟨i1,i2,_⟩:=h.inn f p hp
  have:=h.ref f p i1 i2 (fun hE => hp (h.gone f p hE))
  rw [refn_none hr e] at this
  exact hp this
theorem kid_one (s:Nat):kid 16522 s=10 + s:=rfl
theorem kid_two (s:Nat):kid 16523 s=16524 + s:=rfl
theorem kid_tab {q:Nat}(h:16524 ≤ q)(s:Nat):kid q s=138 + 128 * (q - 16524) + s:=by unfold kid; rw [if_neg (by omega),if_neg (by omega)]
theorem Tree.tab_iff (h:Tree n V X L E){f:Nat}(hl:Live L f){q:Nat}(h0:16522 ≤ q)(h1:q < 16652):L f q ≠ 0 ↔ ∃ s,s < 128 ∧ L f (kid q s) ≠ 0 :=
  ⟨hl q h0 h1,fun ⟨s,hs,hk⟩ => by
    obtain ⟨k1,k2,k3⟩:=par_kid h0 h1 hs
    have:=h.up hk (by rw [k1]; omega)
    rwa [k1] at this⟩
theorem bool_ext {a b:Bool}(h:a=true ↔ b=true):a=b:=by cases a <;> cases b <;> simp_all
theorem Tree.nodes_eq (h:Tree n V X L E){f:Nat}(hl:Live L f):∀ p,p < 16652 → pres L f p=nodes (pres L f) p:=by
  have htab:∀ i,i < 128 → (tabOf (pres L f) i=true ↔ L f (16524 + i) ≠ 0):=fun i hi => by
    unfold tabOf
    rw [any_iff,h.tab_iff hl (q:=16524 + i) (by omega) (by omega)]
    constructor
    · rintro ⟨s,hs,hh⟩; exact ⟨s,hs,by rw [kid_tab (by omega),show 16524 + i - 16524=i by omega]; exact pres_iff.1 hh⟩
    · rintro ⟨s,hs,hh⟩; exact ⟨s,hs,by rw [kid_tab (by omega),show 16524 + i - 16524=i by omega] at hh; exact pres_iff.2 hh⟩
  intro p hp
  refine bool_ext ?_
  unfold nodes
  by_cases h1:p < 16522
  · rw [if_pos h1]
  · rw [if_neg h1]
    by_cases h2:p=16522
    · subst h2
      rw [if_pos rfl,any_iff,pres_iff,h.tab_iff hl (by omega) (by omega)]
      constructor
      · rintro ⟨s,hs,hh⟩; exact ⟨s,hs,pres_iff.2 hh⟩
      · rintro ⟨s,hs,hh⟩; exact ⟨s,hs,pres_iff.1 hh⟩
    · rw [if_neg h2]
      by_cases h3:p=16523
      · subst h3
        rw [if_pos rfl,any_iff,pres_iff,h.tab_iff hl (by omega) (by omega)]
        constructor
        · rintro ⟨s,hs,hh⟩; exact ⟨s,hs,(htab s hs).2 hh⟩
        · rintro ⟨s,hs,hh⟩; exact ⟨s,hs,(htab s hs).1 hh⟩
      · rw [if_neg h3,pres_iff,htab _ (by omega),show 16524 + (p - 16524)=p by omega]
def takes (D:Nat → Bool):Nat:=cntP (nodes D) 16652
theorem Tree.takes_eq (h:Tree n V X L E){f:Nat}(hl:Live L f):cntP (pres L f) 16652=takes (pres L f):=cntP_congr _ (h.nodes_eq hl)
theorem takes_parts (D:Nat → Bool):takes D=cntP D 16522 + (if (List.range 128).any (fun s => D (10 + s))=true then 1 else 0) + (if (List.range 128).any (tabOf D)=true then 1 else 0) + cntP (tabOf D) 128:=by
  unfold takes
  have e:(16652:Nat)=16522 + (1 + (1 + 128)):=rfl
  rw [e,cntP_add,cntP_add,cntP_add,cntP_congr 16522 (Q:=D) (fun i hi => by unfold nodes; rw [if_pos hi])]
  have e1:cntP (fun j => nodes D (16522 + j)) 1=if (List.range 128).any (fun s => D (10 + s))=true then 1 else 0:=by
    show 0 + (if nodes D 16522=true then 1 else 0)=_
    rw [Nat.zero_add]; rfl
  have e2:cntP (fun j => (fun j => nodes D (16522 + j)) (1 + j)) 1=if (List.range 128).any (tabOf D)=true then 1 else 0:=by
    show 0 + (if nodes D 16523=true then 1 else 0)=_
    rw [Nat.zero_add]; rfl
  have e3:cntP (fun j => (fun j => (fun j => nodes D (16522 + j)) (1 + j)) (1 + j)) 128=cntP (tabOf D) 128:=cntP_congr _ (fun j hj => by
    show nodes D (16522 + (1 + (1 + j)))=tabOf D j
    unfold nodes
    rw [if_neg (by omega),if_neg (by omega),if_neg (by omega),show 16522 + (1 + (1 + j)) - 16524=j by omega])
  rw [e1,e2,e3]; omega
theorem nodes_mono {D D2:Nat → Bool}(h:∀ k,k < 16522 → D k=true → D2 k=true):∀ p,p < 16652 → nodes D p=true → nodes D2 p=true:=by
  have ht:∀ i,i < 128 → tabOf D i=true → tabOf D2 i=true:=fun i hi hh => by
    unfold tabOf at hh ⊢
    obtain ⟨s,hs,h1⟩:=(any_iff _ _).1 hh
    exact (any_iff _ _).2 ⟨s,hs,h _ (by omega) h1⟩
  intro p hp hh
  unfold nodes at hh ⊢
  by_cases h1:p < 16522
  · rw [if_pos h1] at hh ⊢; exact h p h1 hh
  · rw [if_neg h1] at hh ⊢
    by_cases h2:p=16522
    · rw [if_pos h2] at hh ⊢
      obtain ⟨s,hs,h3⟩:=(any_iff _ _).1 hh
      exact (any_iff _ _).2 ⟨s,hs,h _ (by omega) h3⟩
    · rw [if_neg h2] at hh ⊢
      by_cases h3:p=16523
      · rw [if_pos h3] at hh ⊢
        obtain ⟨s,hs,h4⟩:=(any_iff _ _).1 hh
        exact (any_iff _ _).2 ⟨s,hs,ht s hs h4⟩
      · rw [if_neg h3] at hh ⊢
        exact ht _ (by omega) hh
end
end Go.Proofs.YthkijogloebdoaaGreatDoor.Fs
end
section
namespace Go.Proofs.YthkijogloebdoaaGreatDoor
open Go.RowKit Go.Maps Rec Gp Fs
theorem pairs_at (f g:Nat → Value):∀ (l:List Nat)(j:Nat)(h:j < l.length),(l.flatMap fun p => [f p,g p])[j * 2]? = some (f l[j]) ∧ (l.flatMap fun p => [f p,g p])[j * 2 + 1]? = some (g l[j])
  | [],j,h => absurd h (Nat.not_lt_zero _)
  | a :: r,0,_ => ⟨rfl,rfl⟩
  | a :: r,j + 1,h => by
    have ih:=pairs_at f g r j (by simpa using h)
    rw [List.flatMap_cons,show (j + 1) * 2=j * 2 + 1 + 1 by omega]
    exact ih
theorem steps_at (k j:Nat)(h:j < (path k).length):(stepsC k)[j * 2]? = some (.int .i64 (wh (path k)[j]:Int)) ∧ (stepsC k)[j * 2 + 1]? = some (.int .i64 (pl (path k)[j]:Int)):=by
  obtain ⟨h1,h2⟩:=pairs_at (fun p => .int .i64 (wh p:Int)) (fun p => .int .i64 (pl p:Int)) (path k) j h
  unfold stepsC
  rw [List.getElem?_toArray,List.getElem?_toArray]
  exact ⟨h1,h2⟩
theorem path_len (k:Nat):1 ≤ (path k).length ∧ (path k).length ≤ 3:=by
  unfold path; split
  · exact ⟨by show 1 ≤ 1; decide,by show 1 ≤ 3; decide⟩
  · split
    · exact ⟨by show 1 ≤ 2; decide,by show 2 ≤ 3; decide⟩
    · exact ⟨by show 1 ≤ 3; decide,by show 3 ≤ 3; decide⟩
theorem path_facts {k:Nat}(hk:k < 16522)(j:Nat)(h:j < (path k).length) :
    (path k)[j] < 16652 ∧ (j=0 → par (path k)[j]=16652) ∧ (∀ i,(hi:i + 1=j) → par (path k)[j]=(path k)[i]'(by omega)) ∧ (j + 1=(path k).length → (path k)[j]=k) ∧ (j + 1 < (path k).length → 16522 ≤ (path k)[j]):=by
  by_cases h1:k < 10
  · have e:path k=[k]:=if_pos h1
    simp only [e,List.length_singleton] at h ⊢
    obtain rfl:j=0:=by omega
    refine ⟨by show k < 16652; omega,fun _ => by show par k=16652; unfold par; rw [if_pos h1],fun i hi => by omega,fun _ => rfl,fun hh => by omega⟩
  · by_cases h2:k < 138
    · have e:path k=[16522,k]:=by unfold path; rw [if_neg h1,if_pos h2]
      simp only [e,List.length_cons,List.length_nil] at h ⊢
      match j,h with
      | 0,_ => exact ⟨by show (16522:Nat) < 16652; omega,fun _ => rfl,fun i hi => by omega,fun hh => by omega,fun hh => by show (16522:Nat) ≤ 16522; omega⟩
      | 1,_ =>
        refine ⟨by show k < 16652; omega,fun hh => by omega,fun i hi => ?_,fun _ => rfl,fun hh => by omega⟩
        obtain rfl:i=0:=by omega
        show par k=16522
        unfold par; rw [if_neg h1,if_pos h2]
    · have e:path k=[16523,16524 + (k - 138) / 128,k]:=by unfold path; rw [if_neg h1,if_neg h2]
      simp only [e,List.length_cons,List.length_nil] at h ⊢
      match j,h with
      | 0,_ => exact ⟨by show (16523:Nat) < 16652; omega,fun _ => rfl,fun i hi => by omega,fun hh => by omega,fun hh => by show (16522:Nat) ≤ 16523; omega⟩
      | 1,_ =>
        refine ⟨by show 16524 + (k - 138) / 128 < 16652; omega,fun hh => by omega,fun i hi => ?_,fun hh => by omega,fun hh => by show 16522 ≤ 16524 + (k - 138) / 128; omega⟩
        obtain rfl:i=0:=by omega
        show par (16524 + (k - 138) / 128)=16523
        unfold par; rw [if_neg (by omega),if_neg (by omega),if_neg (by omega),if_neg (by omega)]
      | 2,_ =>
        refine ⟨by show k < 16652; omega,fun hh => by omega,fun i hi => ?_,fun _ => rfl,fun hh => by omega⟩
        obtain rfl:i=1:=by omega
        show par k=16524 + (k - 138) / 128
        unfold par; rw [if_neg h1,if_neg h2,if_pos hk]
theorem path_zero {n:Nat}{V:Nat → List UInt8}{X:Nat → Ino}{L:Nat → Nat → Nat}{E:Nat → Nat → Prop}(h:Tree n V X L E){f k:Nat}(hf:f < 3)(hk:k < 16522):∀ (d j:Nat)(hj:j < (path k).length),j + 1 + d=(path k).length → L f (path k)[j]=0 → L f k=0
  | 0,j,hj,hd,h0 => by rw [← (path_facts hk j hj).2.2.2.1 (by omega)]; exact h0
  | d + 1,j,hj,hd,h0 => by
    refine path_zero h hf hk d (j + 1) (by omega) (by omega) ?_
    rcases Nat.eq_zero_or_pos (L f (path k)[j + 1]) with e | e
    · exact e
    · have hp:=path_facts hk (j + 1) (by omega)
      have h16:=(path_facts hk j hj).1
      have:=h.up (f:=f) (p:=(path k)[j + 1]) (by omega) (by rw [hp.2.2.1 j rfl]; omega)
      rw [hp.2.2.1 j rfl] at this
      exact absurd h0 this
set_option maxRecDepth 100000 in
theorem find1_any (s a sl:Value)(w:World)(x y:Int)(hs:s=.agg #[.int .i64 x,.int .i64 y]):Calls Tryz.prog 111 #[s,a,sl] w fun e w' => e=.returned (.tuple #[.int .i64 0,.int .i64 0]) ∧ Below w.heap.size w w':=by
  subst hs
  go_enter Tryz.func111,Tryz.ntmps111
  go_wp2_with fail
  refine bodyPost_ret (v:=.tuple #[.int .i64 0,.int .i64 0]) (by simp [results,Tryz.results111,go_sem]) rfl ?_
  exact ⟨rfl,below_new w _⟩
set_option maxRecDepth 100000 in
set_option maxHeartbeats 1600000 in
theorem walkF_any (c:Cx)(w:World)(O:Nat → Prop)(T:Tn)(n:Nat)(he:Env c w O T n)(X:Nat → Ino)(L:Nat → Nat → Nat)(h:Tree0 n (T.view c.D) X L)(f F k:Nat)(hf:f < 3)(hk:k < 16522)(hF:FileAt w F c.t n (X f)) :
    Calls Tryz.prog 66 #[.pointer (some ⟨F,0,none⟩),.int .i64 (k:Int),.func (.func 111) #[] #[]] w fun e w' => e=.returned (.tuple #[.int .i64 (L f k:Int),.int .i64 0]) ∧ Below w.heap.size w w':=by
  have HWAY:=Lib.hid (way_any k hk w)
  obtain ⟨m,hm⟩:∃ m,(path k).length=m:=⟨_,rfl⟩
  obtain ⟨pl1,pl3⟩:=path_len k
  rw [hm] at HWAY pl1 pl3
  have HM:=Lib.hid hm
  have HE:=Lib.hid he
  have HH:=Lib.hid h
  have HF:=Lib.hid hF
  clear he h hF hm
  go_enter Tryz.func66,Tryz.ntmps66
  go_wp2
  go_step3
  go_wp2
  go_step3
  go_wp2_with (go_at_call 99; refine HWAY.out.mono ?_; rintro e w1 ⟨⟨g,rfl,hg,hgs⟩,hb1⟩; have HG:=Lib.hid hg; have HB1:=Lib.hid hb1; have HE1:=Lib.hid (HE.out.later hb1); have HF1:=Lib.hid (HF.out.below hb1 HF.out.lt); clear hg hb1)
  go_loopw [8,18] (fun va vi wr => ∃ j a:Nat,j ≤ m ∧ va=.int .i64 (a:Int) ∧ vi=.int .i64 (j:Int) ∧ (∀ i,(hi:i + 1=j) → L f ((path k)[i]?.getD 0)=a ∧ a ≠ 0) ∧ Below w1.heap.size w1 wr) (fun _ vi _ => m - (intOf vi).toNat)
  case atStart => exact ⟨0,0,Nat.zero_le _,rfl,rfl,fun i hi => by omega,Below.refl _ _⟩
  case round =>
    obtain ⟨j,a,hj,rfl,rfl,hat,hnx⟩:=hrel
    have HNX:=Lib.hid hnx
    have HAT:=Lib.hid hat
    clear hat hnx
    by_cases hjm:j < m
    · have hjl:j < (path k).length:=by rw [HM.out]; exact hjm
      obtain ⟨q1,q2,q3,q4,q5⟩:=path_facts hk j hjl
      obtain ⟨p,hp⟩:∃ p,(path k)[j]=p:=⟨_,rfl⟩
      rw [hp] at q1 q2 q3 q4 q5
      obtain ⟨st1,st2⟩:=steps_at k j hjl
      rw [hp] at st1 st2
      have HP:=Lib.hid hp
      obtain ⟨v,hv⟩:∃ v,L f p=v:=⟨_,rfl⟩
      have hl:refn (T.view c.D) (X f) (L f) p=v:=by rw [← hv]; exact (HH.out.ref f p hf q1 (fun e => e)).symm
      have hpar:par p ≠ 16652 → L f (par p)=a ∧ a ≠ 0 ∧ a < n:=fun hr => by
        obtain ⟨i,rfl⟩:∃ i,j=i + 1:=⟨j - 1,by have:j ≠ 0:=fun e => hr (q2 e); omega⟩
        have h1:=HAT.out i rfl
        have h2:=q3 i rfl
        rw [List.getElem?_eq_getElem (by omega),Option.getD_some,← h2] at h1
        exact ⟨h1.1,h1.2,by rw [← h1.1]; exact (HH.out.inn _ _ (by rw [h1.1]; exact h1.2)).2.2.2⟩
      have HGr:=Lib.hid (HG.out.below HNX.out HG.out.lt)
      have HFr:=Lib.hid (HF1.out.below HNX.out HF1.out.lt)
      have HEr:=Lib.hid (HE1.out.later HNX.out)
      have cg0:wr.cell? ⟨g,j * 2,none⟩=some (.int .i64 (wh p:Int)):=(HGr.out.cell _).trans st1
      have cg1:wr.cell? ⟨g,j * 2 + 1,none⟩=some (.int .i64 (pl p:Int)):=(HGr.out.cell _).trans st2
      have HN:=Lib.hid (fun w he hF => number_any c w O T n he (X f) (L f) p F a v q1 hF hl hpar)
      obtain ⟨s0,hs0⟩:∃ s0,wh p=s0:=⟨_,rfl⟩
      obtain ⟨s1,hs1⟩:∃ s1,pl p=s1:=⟨_,rfl⟩
      unfold stepV at HN
      rw [hs0,hs1] at HN
      rw [hs0] at cg0
      rw [hs1] at cg1
      have hlt:=HGr.out.lt
      have HV:=Lib.hid hv
      clear q1 q2 q3 q4 q5 st1 st2 hp hl hpar hs0 hs1 hv
      have HALL:=below_new wr (.cells #[.int .i64 (s0:Int),.int .i64 (s1:Int)] 145)
      by_cases hv0:v=0
      · have hvb:((v:Int) == 0)=true:=by rw [beq_iff_eq]; omega
        have HV0:=Lib.hid hv0
        clear hv0
        go_wp2_with (first
          | (go_at_call 100
             refine (HN.out _ (HEr.out.later HALL) (HFr.out.below HALL HFr.out.lt)).mono ?_
             rintro e w2 ⟨⟨sl,rfl,hbk⟩,hb2⟩
             have HB2:=Lib.hid (HNX.out.trans ((HALL.trans (hb2.mono HALL.size)).mono HNX.out.size))
             have C10:=Lib.hid ((one_new wr #[.int .i64 (s0:Int),.int .i64 (s1:Int)] 145).2.below hb2 (Is.new _ _ _).lt)
             have d0:w2.cell? ⟨wr.heap.size,0,none⟩=some (.int .i64 (s0:Int)):=C10.out.cell 0
             have d1:w2.cell? ⟨wr.heap.size,1,none⟩=some (.int .i64 (s1:Int)):=C10.out.cell 1
             clear hbk hb2)
          | (go_at_call 111
             refine (find1_any _ _ _ _ (s0:Int) (s1:Int) rfl).mono ?_
             rintro e w3 ⟨rfl,hb3⟩
             have HB3:=Lib.hid (HB2.out.trans (hb3.mono HB2.out.size))
             clear hb3))
        rw [Exit.noGoto_ret]
        refine bodyPost_ret (v:=.tuple #[.int .i64 0,.int .i64 0]) (by simp [results,Tryz.results66,go_sem]) rfl ?_
        have hz:L f k=0:=path_zero HH.out hf hk (m - (j + 1)) j hjl (by rw [HM.out]; omega) (by rw [HP.out,HV.out,HV0.out])
        exact ⟨by rw [hz]; rfl,HB1.out.trans (HB3.out.mono HB1.out.size)⟩
      · have hvb:((v:Int) == 0)=false:=by rw [beq_eq_false_iff_ne]; omega
        have hvi:=(HH.out.inn f p (by rw [HV.out]; exact hv0))
        rw [HV.out] at hvi
        have hvd:=hvi.2.2
        clear hvi
        go_wp2_with (first
          | (go_at_call 100
             refine (HN.out _ (HEr.out.later HALL) (HFr.out.below HALL HFr.out.lt)).mono ?_
             rintro e w2 ⟨⟨sl,rfl,hbk⟩,hb2⟩
             have HB2:=Lib.hid (HNX.out.trans ((HALL.trans (hb2.mono HALL.size)).mono HNX.out.size))
             have HF2:=Lib.hid ((HFr.out.below HALL HFr.out.lt).below hb2 (HFr.out.below HALL HFr.out.lt).lt)
             clear hbk hb2)
          | (go_at_call 101
             refine (look_any _ F c.t n (X f) v HF2.out hvd.1 hvd.2).mono ?_
             rintro e w3 ⟨rfl,rfl⟩))
        case roundEnd =>
        refine ⟨⟨j + 1,v,by omega,rfl,by go_num,fun i hi => ?_,HB2.out⟩,by simp [intOf]; omega⟩
        obtain rfl:i=j:=by omega
        rw [List.getElem?_eq_getElem hjl,Option.getD_some,HP.out]
        exact ⟨HV.out,hv0⟩
    · go_wp2_with fail
      obtain rfl:j=m:=by omega
      rw [Exit.noGoto_ret]
      refine bodyPost_ret (v:=.tuple #[.int .i64 (a:Int),.int .i64 0]) (by simp [results,Tryz.results66,go_sem]) rfl ?_
      have h1:=HAT.out (j - 1) (by omega)
      have hjl:j - 1 < (path k).length:=by rw [HM.out]; omega
      rw [List.getElem?_eq_getElem hjl,Option.getD_some,(path_facts hk (j - 1) hjl).2.2.2.1 (by rw [HM.out]; omega)] at h1
      exact ⟨by rw [h1.1],HB1.out.trans (HNX.out.mono HB1.out.size)⟩
set_option maxRecDepth 100000 in
set_option maxHeartbeats 1600000 in
theorem find_any (c:Cx)(w:World)(O:Nat → Prop)(T:Tn)(n:Nat)(he:Env c w O T n)(X:Nat → Ino)(L:Nat → Nat → Nat)(h:Tree0 n (T.view c.D) X L)(f k:Nat)(hf:f < 3)(hk:k < 16522) :
    Calls Tryz.prog 79 #[.pointer (some ⟨c.t,0,none⟩),geoV n,.agg (X f).C,.int .i64 (k:Int)] w fun e w' => e=.returned (.tuple #[.int .i64 (L f k:Int),.int .i64 0]) ∧ Below w.heap.size w w':=by
  obtain ⟨hb0,i0,i1⟩:=two_new w #[.int .i64 (n:Int),.int .i64 98,.int .i64 (ino n:Int),.int .i64 (dat n:Int),.int .i64 (cnt n:Int)] (X f).C 31 44
  obtain ⟨W,hW⟩:∃ W,(w.alloc (.cells #[.int .i64 (n:Int),.int .i64 98,.int .i64 (ino n:Int),.int .i64 (dat n:Int),.int .i64 (cnt n:Int)] 31)).alloc (.cells (X f).C 44)=W:=⟨_,rfl⟩
  rw [hW] at hb0 i0 i1
  have c0:W.cell? ⟨w.heap.size,0,none⟩=some (.int .i64 (n:Int)):=i0.cell 0
  have c1:W.cell? ⟨w.heap.size,1,none⟩=some (.int .i64 98):=i0.cell 1
  have c2:W.cell? ⟨w.heap.size,2,none⟩=some (.int .i64 (ino n:Int)):=i0.cell 2
  have c3:W.cell? ⟨w.heap.size,3,none⟩=some (.int .i64 (dat n:Int)):=i0.cell 3
  have c4:W.cell? ⟨w.heap.size,4,none⟩=some (.int .i64 (cnt n:Int)):=i0.cell 4
  have HB0:=Lib.hid hb0
  have hE:=he.later hb0
  have hk1:(0:Int) ≤ (k:Int):=by omega
  have hk2:(k:Int) < 16522:=by omega
  have HW:=Lib.hid (fun w F he hF => walkF_any c w O T n he X L h f F k hf hk hF)
  have HE:=Lib.hid hE
  obtain ⟨x,hx⟩:∃ x,X f=x:=⟨_,rfl⟩
  rw [hx] at hW i1 HW ⊢
  unfold Ino.C at hW i1 ⊢
  have e0:W.cell? ⟨w.heap.size + 1,0,none⟩=some (.int .i64 (x.kind:Int)):=i1.cell 0
  have e1:W.cell? ⟨w.heap.size + 1,1,none⟩=some (.int .i64 (x.links:Int)):=i1.cell 1
  have e2:W.cell? ⟨w.heap.size + 1,2,none⟩=some (.int .i64 (x.size:Int)):=i1.cell 2
  have e3:W.cell? ⟨w.heap.size + 1,3,none⟩=some (.int .i64 (x.num 0:Int)):=i1.cell 3
  have e4:W.cell? ⟨w.heap.size + 1,4,none⟩=some (.int .i64 (x.num 1:Int)):=i1.cell 4
  have e5:W.cell? ⟨w.heap.size + 1,5,none⟩=some (.int .i64 (x.num 2:Int)):=i1.cell 5
  have e6:W.cell? ⟨w.heap.size + 1,6,none⟩=some (.int .i64 (x.num 3:Int)):=i1.cell 6
  have e7:W.cell? ⟨w.heap.size + 1,7,none⟩=some (.int .i64 (x.num 4:Int)):=i1.cell 7
  have e8:W.cell? ⟨w.heap.size + 1,8,none⟩=some (.int .i64 (x.num 5:Int)):=i1.cell 8
  have e9:W.cell? ⟨w.heap.size + 1,9,none⟩=some (.int .i64 (x.num 6:Int)):=i1.cell 9
  have e10:W.cell? ⟨w.heap.size + 1,10,none⟩=some (.int .i64 (x.num 7:Int)):=i1.cell 10
  have e11:W.cell? ⟨w.heap.size + 1,11,none⟩=some (.int .i64 (x.num 8:Int)):=i1.cell 11
  have e12:W.cell? ⟨w.heap.size + 1,12,none⟩=some (.int .i64 (x.num 9:Int)):=i1.cell 12
  have e13:W.cell? ⟨w.heap.size + 1,13,none⟩=some (.int .i64 (x.num 10:Int)):=i1.cell 13
  have e14:W.cell? ⟨w.heap.size + 1,14,none⟩=some (.int .i64 (x.num 11:Int)):=i1.cell 14
  obtain ⟨t,ht⟩:∃ t,c.t=t:=⟨_,rfl⟩
  rw [ht] at HW ⊢
  clear he h hf hk i0 i1 hb0 hE hx ht
  go_enter Tryz.func79,Tryz.ntmps79
  go_wp2_with (
    go_at_call 66
    have hnb:=one_new W (fileC t n x) 142
    refine (HW.out _ _ (HE.out.later hnb.1) hnb.2).mono ?_
    rintro e w3 ⟨rfl,hb3⟩
    have HB3:=Lib.hid (HB0.out.trans ((hnb.1.trans (hb3.mono hnb.1.size)).mono HB0.out.size))
    clear hb3 hnb)
  refine bodyPost_ret (v:=.tuple #[.int .i64 (L f k:Int),.int .i64 0]) (by simp [results,Tryz.results79,go_sem]) rfl ?_
  exact ⟨rfl,HB3.out⟩
end Go.Proofs.YthkijogloebdoaaGreatDoor
end
