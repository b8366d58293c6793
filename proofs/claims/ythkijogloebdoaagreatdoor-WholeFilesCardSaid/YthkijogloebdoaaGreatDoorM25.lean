/-
  WholeFiles, the texts Pcu It Wfl Wfs: lemmas for the proof that three files on one disk are plain rows of bytes. No conditions.
-/
import Derived.Test.YthkijogloebdoaaGreatDoorM16
import Derived.Test.YthkijogloebdoaaGreatDoorM20
import Derived.Test.YthkijogloebdoaaGreatDoorM23
import Derived.Test.YthkijogloebdoaaGreatDoorM24
import Derived.Test.YthkijogloebdoaaGreatDoorM11
import Derived.Test.YthkijogloebdoaaGreatDoorM07
set_option linter.unusedVariables false
set_option linter.unusedSimpArgs false
section
namespace Go.Proofs.YthkijogloebdoaaGreatDoor
open Go.RowKit Go.Maps Rec Gp Fs
def mixB (B B2:Nat → Option (List UInt8))(left:Lit → Bool)(i:Nat):Option (List UInt8):=if left (keyD i)=true then B i else B2 i
theorem mixB_step (B B2:Nat → Option (List UInt8))(left:Lit → Bool)(i:Nat):mixB B B2 (fun z => left z && !z.sameKey (keyD i))=updB (mixB B B2 left) i (B2 i):=by
  funext j
  unfold mixB updB
  by_cases e:j=i
  · subst e
    rw [if_pos rfl]
    simp only [keyD_same]
    simp
  · rw [if_neg e]
    simp only [keyD_ne e]
    simp
theorem mixB_end (B B2:Nat → Option (List UInt8))(left:Lit → Bool)(h:∀ k,left k=false):mixB B B2 left=B2:=by
  funext j
  unfold mixB
  rw [h]; rfl
theorem mixB_start {w:World}{lo hi m:Nat}{B:Nat → Option (List UInt8)}{G C:Nat → Nat}{D:DataW Value}(h:PM w lo hi m B G C D)(B2:Nat → Option (List UInt8))(h2:∀ i,B i=none → B2 i=none):mixB B B2 (Maps.has D)=B:=by
  funext j
  unfold mixB
  cases hb:B j with
  | none => rw [h2 j hb]; split <;> rfl
  | some l => rw [if_pos (h.yes j l hb).1]
def zk (l:List UInt8)(a k:Nat):List UInt8:=(List.range 512).map fun j => if a ≤ j ∧ j < k then 0 else l.getD j 0
theorem zk_len (l:List UInt8)(a k:Nat):(zk l a k).length=512:=by unfold zk; rw [List.length_map,List.length_range]
theorem zk_at (l:List UInt8)(a k j:Nat)(hj:j < 512):(zk l a k)[j]? = some (if a ≤ j ∧ j < k then 0 else l.getD j 0):=by
  unfold zk
  rw [List.getElem?_map,List.getElem?_range hj]; rfl
theorem zk_zero (l:List UInt8)(a:Nat)(hl:l.length=512):zk l a 0=l:=by
  refine List.ext_getElem? fun j => ?_
  by_cases hj:j < 512
  · rw [zk_at _ _ _ _ hj,if_neg (by omega),List.getD_eq_getElem?_getD,List.getElem?_eq_getElem (by omega)]; rfl
  · rw [List.getElem?_eq_none (by rw [zk_len]; omega),List.getElem?_eq_none (by omega)]
theorem zk_set (l:List UInt8)(a k:Nat)(h:a ≤ k)(hk:k < 512):(zk l a k).set k 0=zk l a (k + 1):=by
  refine List.ext_getElem? fun j => ?_
  by_cases hj:j < 512
  · rw [List.getElem?_set,zk_at _ _ _ _ hj,zk_at _ _ _ _ hj,zk_len]
    by_cases e:k=j
    · subst e
      rw [if_pos rfl,if_pos hk,if_pos (by omega)]
    · rw [if_neg e]
      congr 1
      by_cases c:a ≤ j ∧ j < k
      · rw [if_pos c,if_pos (by omega)]
      · rw [if_neg c,if_neg (by omega)]
  · rw [List.getElem?_eq_none (by rw [List.length_set,zk_len]; omega),List.getElem?_eq_none (by rw [zk_len]; omega)]
theorem zk_skip (l:List UInt8)(a k:Nat)(h:k < a):zk l a k=zk l a (k + 1):=by
  unfold zk
  refine List.map_congr_left fun j _ => ?_
  rw [if_neg (by omega),if_neg (by omega)]
theorem zk_all (l:List UInt8)(a:Nat)(hl:l.length=512):zk l a 512=zeroFrom a l:=by
  refine List.ext_getElem? fun j => ?_
  by_cases hj:j < 512
  · have h:=zeroFrom_at a l j
    rw [List.getD_eq_getElem?_getD,List.getElem?_eq_getElem (by rw [zeroFrom_len]; omega)] at h
    rw [zk_at _ _ _ _ hj,List.getElem?_eq_getElem (by rw [zeroFrom_len]; omega)]
    congr 1
    rw [show (zeroFrom a l)[j]'(by rw [zeroFrom_len]; omega)=if j < a then l.getD j 0 else 0 from h]
    by_cases c:j < a
    · rw [if_neg (by omega),if_pos c]
    · rw [if_pos (by omega),if_neg c]
  · rw [List.getElem?_eq_none (by rw [zk_len]; omega),List.getElem?_eq_none (by rw [zeroFrom_len]; omega)]
set_option maxRecDepth 100000 in
set_option maxHeartbeats 3200000 in
theorem pcut_any (w:World)(lo hi m:Nat)(P:Pl)(hP:P.Ok)(G C:Nat → Nat)(D:DataW Value)(h:PM w lo hi m P.B G C D)(hhi:hi ≤ w.heap.size)(sz2:Nat)(hs2:sz2 ≤ 8459264) :
    Calls Tryz.prog 17 #[.agg #[.map (some m),.int .i64 (P.size:Int)],.int .i64 (sz2:Int)] w fun e w' =>
      ∃ (m':Nat) (G' C':Nat → Nat) (D':DataW Value),e=.returned (.agg #[.map (some m'),.int .i64 ((P.cut sz2).size:Int)]) ∧ PM w' w.heap.size w'.heap.size m' (P.cut sz2).B G' C' D' ∧ Below w.heap.size w w':=by
  obtain ⟨sz,hsz⟩:∃ sz,P.size=sz:=⟨_,rfl⟩
  have hszP:=hP.size
  rw [hsz] at hszP ⊢
  rw [show (P.cut sz2).size=sz2 from rfl]
  obtain ⟨hb0,i0,i1⟩:=two_new w #[.map (some m),.int .i64 (sz:Int)] #[.map none,.int .i64 0] 47 47
  obtain ⟨W,hW⟩:∃ W,(w.alloc (.cells #[.map (some m),.int .i64 (sz:Int)] 47)).alloc (.cells #[.map none,.int .i64 0] 47)=W:=⟨_,rfl⟩
  have hz1:W.heap.size=w.heap.size + 2:=by rw [← hW]; simp [World.size_alloc]
  rw [hW] at hb0 i0 i1
  have c0:W.cell? ⟨w.heap.size,0,none⟩=some (.map (some m)):=i0.cell 0
  have c1:W.cell? ⟨w.heap.size,1,none⟩=some (.int .i64 (sz:Int)):=i0.cell 1
  have HCP:=Lib.hid (copied_any W lo hi m P.B G C D sz (h.below hb0 hhi) (by omega))
  have HI0:=Lib.hid i0
  have HI1:=Lib.hid i1
  have HB0:=Lib.hid hb0
  have HPM:=Lib.hid h
  have hml:=h.m1
  clear i0 i1 hb0 h
  go_enter Tryz.func17,Tryz.ntmps17
  go_wp2_with (first
    | (go_at_call 31
       refine HCP.out.mono ?_
       rintro e w1 ⟨m1,G1,C1,D1,rfl,hp1,hb1⟩
       have hs1:=hb1.size
       have hb2:=below_new w1 (.cells #[.map (some m1),.int .i64 (sz:Int)] 47)
       have i2:=Is.new w1 47 #[.map (some m1),.int .i64 (sz:Int)]
       have hm1:=hp1.m0
       have hm2:=hp1.m1
       obtain ⟨r,hr⟩:∃ r,w1.heap.size=r:=⟨_,rfl⟩
       have hz2:(w1.alloc (.cells #[.map (some m1),.int .i64 (sz:Int)] 47)).heap.size=r + 1:=by rw [World.size_alloc,hr]
       have i1':=(HI1.out.below hb1 HI1.out.lt).below hb2 (by have:=HI1.out.lt; omega)
       have i0':=(HI0.out.below hb1 HI0.out.lt).below hb2 (by have:=HI0.out.lt; omega)
       have hp2:=(hp1.below hb2 (Nat.le_refl _)).wide (lo2:=w.heap.size + 2) (hi2:=r) (by omega) (by omega)
       have hbb:Below w.heap.size w _:=HB0.out.trans ((hb1.mono (by omega)).trans (hb2.mono (by omega)))
       obtain ⟨W2,hW2⟩:∃ W2,w1.alloc (.cells #[.map (some m1),.int .i64 (sz:Int)] 47)=W2:=⟨_,rfl⟩
       rw [hW2] at hz2 i2 i0' i1' hp2 hbb
       rw [hr] at i2
       have e0:W2.cell? ⟨w.heap.size,0,none⟩=some (.map (some m)):=i0'.cell 0
       have HI1:=Lib.hid i1'
       have HI2:=Lib.hid i2
       have HP2:=Lib.hid hp2
       have HBB:=Lib.hid hbb
       have HOWN:=Lib.hid (HPM.out.below hbb hhi).own
       clear hb1 hb2 hp1 i2 i1' hp2 hbb)
    | (at_range; refine wpList_range_own _ rfl _ 45 rfl 3 28 lawI Tryz.underlying45 _ m (Maps.size D) _ rfl HOWN.out ?_; intro w0 hrg0 hg0 hs0))
  go_frame
  have HRG0:=Lib.hid hrg0
  have hk0:∀ {k:Nat} {ty:TypeId} {cs:Array Value},Is W2 k ty cs → Is w0 k ty cs:=fun h1 => (hg0.block _ h1.lt (by simp)).trans h1
  have HI1:=Lib.hid (hk0 HI1.out)
  have HI2:=Lib.hid (hk0 HI2.out)
  have HBB:=Lib.hid (show Below w.heap.size w w0 from HBB.out.grown hg0 (by omega) (fun j hj => by cases hj))
  have HP2:=Lib.hid (HP2.out.agree (fun k h1 h2 => hg0.block k (by omega) (by simp)) (w2:=w0))
  rw [hz2] at HRG0 hs0 ⊢
  clear hrg0 hg0 hk0 e0
  go_loopw [6] (fun _ wr => ∃ (left:Lit → Bool) (cnt:Nat) (G' C':Nat → Nat) (D':DataW Value),wr.ranges Tryz.prog 3 RV m (r + 1) (Maps.size D) D left cnt ∧ PM wr (w.heap.size + 2) r m1 (mixB P.B (P.cut sz2).B left) G' C' D' ∧ Is wr (w.heap.size + 1) 47 #[.map none,.int .i64 0] ∧ Is wr r 47 #[.map (some m1),.int .i64 (sz:Int)] ∧ Below w.heap.size w wr ∧ r + 2 ≤ wr.heap.size)
    (fun _ wr => wr.rangeLeft m (r + 1))
  case atStart =>
    refine ⟨_,_,_,_,_,HRG0.out,HP2.out.cast (mixB_start HPM.out _ (fun i hi => ?_)),HI1.out,HI2.out,HBB.out,by omega⟩
    show (if sz2 ≤ 512 * i then none else (P.B i).map _)=none
    rw [hi]; split <;> rfl
  case round =>
    obtain ⟨left,cnt,G1,C1,D1,hrg,hpm,hi1,hi2,hbw,hsw⟩:=hrel
    have HRG:=Lib.hid hrg
    have HP:=Lib.hid hpm
    have HJ1:=Lib.hid hi1
    have HJ2:=Lib.hid hi2
    have HBW:=Lib.hid hbw
    clear hrg hpm hi1 hi2 hbw
    go_wp2_with (first
      | (at_next; refine wpList_next_ranges _ rfl (.tmp 13) rfl 3 lawI RV (fun x:Int => .int .i64 x) (fun v:Value => v) (fun key kl hk => by obtain ⟨x,e,_⟩:=Maps.keyOf_int_inv Tryz.underlying3 hk; exact ⟨x,e⟩) (fun v y _ => ⟨v,rfl⟩) m (r + 1) (Maps.size D) D left cnt rfl HRG.out ?_ ?_))
    · intro hc0 hl0
      have c2:wr.cell? ⟨r,0,none⟩=some (.map (some m1)):=HJ2.out.cell 0
      have c3:wr.cell? ⟨r,1,none⟩=some (.int .i64 (sz:Int)):=HJ2.out.cell 1
      have c4:wr.cell? ⟨w.heap.size + 1,0,none⟩=some (.map none):=HJ1.out.cell 0
      have c5:wr.cell? ⟨w.heap.size + 1,1,none⟩=some (.int .i64 0):=HJ1.out.cell 1
      have f3:=HJ2.out.free 1
      have f4:=HJ1.out.free 0
      have f5:=HJ1.out.free 1
      have hne1:¬ (w.heap.size + 1=r):=by omega
      have hne2:¬ (r=w.heap.size + 1):=by omega
      have HL0:=Lib.hid hl0
      clear hl0
      go_wp2_with fail
      have hJ:=HJ1.out.other ⟨r,1,none⟩ (by show w.heap.size + 1 ≠ r; omega) (.int .i64 (sz2:Int))
      have hI:=(hJ.put 0 (.map (some m1))).put 1 (.int .i64 (sz2:Int))
      refine bodyPost_ret (results_cell_row (P:=Tryz.prog) rfl _ _ (w.heap.size + 1) 47 _ (0,0) _ rfl hI Tryz.underlying47 rfl (by kernel_rfl)) rfl ?_
      have hk:=((keeps_set wr r 1 (.int .i64 (sz2:Int))).mono (T:=fun k => k=r ∨ k=w.heap.size + 1) (fun i e => .inl e)).trans (((keeps_set _ (w.heap.size + 1) 0 (.map (some m1))).trans (keeps_set _ (w.heap.size + 1) 1 (.int .i64 (sz2:Int)))).mono (fun i e => .inr e))
      have hsz:=hk.size
      have hpe:=((HP.out.agree (fun k h1 h2 => hk.block k (by omega) (fun e => by have e:k=r ∨ k=w.heap.size + 1:=e; omega))).wide (lo2:=w.heap.size) (hi2:=((((wr.setCell ⟨r,1,none⟩ (.int .i64 (sz2:Int))).setCell ⟨w.heap.size + 1,0,none⟩ (.map (some m1))).setCell ⟨w.heap.size + 1,1,none⟩ (.int .i64 (sz2:Int))).heap.size)) (by omega) (by omega)).cast (mixB_end P.B (P.cut sz2).B left HL0.out).symm
      exact ⟨_,_,_,_,rfl,hpe,HBW.out.trans (hk.below (by omega) (fun i e => by have e:i=r ∨ i=w.heap.size + 1:=e; omega))⟩
    · intro x c kl y1 y2 w1 cnt1 hkey hlk hR hat hrg1 hlt hg1 hs1 hen
      obtain ⟨i,l,rfl,rfl,hi5,hbi,rfl⟩:=PM.entry (y:=(y1,y2)) HPM.out hkey hR hat
      have hBm:Below w.heap.size w w1:=HBW.out.grown hg1 (by omega) (fun j hj => by injection hj with hj; have:=HRG.out.lt; omega)
      have hK1:∀ k,k < wr.heap.size → k ≠ r + 1 → w1.heap[k]? = wr.heap[k]?:=fun k h2 h3 => hg1.block k h2 (fun e => by injection e with e; exact h3 (by omega))
      have hp1:=HP.out.agree (w2:=w1) (fun k h1 h2 => hK1 k (by omega) (by omega))
      have hl5:=(HPM.out.yes i l hbi).2.1
      have hi1:Is w1 (w.heap.size + 1) 47 #[.map none,.int .i64 0]:=(hK1 _ (by omega) (by omega)).trans HJ1.out
      have hi2:Is w1 r 47 #[.map (some m1),.int .i64 (sz:Int)]:=(hK1 _ (by omega) (by omega)).trans HJ2.out
      have HP1:=Lib.hid hp1
      have HK1:=Lib.hid hi1
      have HK2:=Lib.hid hi2
      have HBM:=Lib.hid hBm
      have c2:w1.cell? ⟨r,0,none⟩=some (.map (some m1)):=hi2.cell 0
      have HMX:=Lib.hid (mixB_step P.B (P.cut sz2).B left i)
      have u1:=i64_wr ((i:Int) * 512) (by omega)
      clear hp1 hi1 hi2 hBm hK1
      by_cases hc:sz2 ≤ 512 * i
      · have hge:(sz2:Int) ≤ (i:Int) * 512:=by omega
        have hcb:(P.cut sz2).B i=none:=if_pos hc
        rw [hcb] at HMX
        obtain ⟨w6,D6,hdel,hp6,hg6,hs6⟩:=HP1.out.drop i (by omega) 0
        have hrg2:=hrg1.kept hg6 (fun e => by injection e with e; omega) (fun e => by injection e with e; omega)
        have hI:=fun {k:Nat} {ty:TypeId} {cs:Array Value} (h1:Is w1 k ty cs) (h4:k ≠ m1) => (show Is w6 k ty cs from (hg6.block k h1.lt (fun e => by injection e with e; exact h4 e)).trans h1)
        have hJ1:=hI HK1.out (by omega)
        have hJ2:=hI HK2.out (by omega)
        have hBm:=HBM.out.grown hg6 (by omega) (fun j hj => by injection hj with hj; omega)
        have hp7:=hp6.cast HMX.out
        go_wp2_with fail
        refine ⟨⟨_,_,_,_,_,hrg2,hp7,hJ1,hJ2,hBm,by omega⟩,?_⟩
        rw [hrg2.left_eq,HRG.out.left_eq]; exact hlt
      · have hge:¬ (sz2:Int) ≤ (i:Int) * 512:=by omega
        obtain ⟨a,ha⟩:∃ a,sz2 - 512 * i=a:=⟨_,rfl⟩
        have hcb:(P.cut sz2).B i=some (zk l a 512):=by
          show (if sz2 ≤ 512 * i then none else (P.B i).map _)=_
          rw [if_neg hc,hbi,zk_all l a hl5,← ha]; rfl
        rw [hcb] at HMX
        have hmi:mixB P.B (P.cut sz2).B left i=some l:=by unfold mixB; rw [if_pos hlk]; exact hbi
        have hm0:updB (mixB P.B (P.cut sz2).B left) i (some (zk l a 0))=mixB P.B (P.cut sz2).B left:=by rw [zk_zero l a hl5]; exact updB_self hmi
        obtain ⟨_,_,_,hgl,hgh,_,hgm⟩:=HP1.out.yes i l hmi
        obtain ⟨g,hg⟩:∃ g,G1 i=g:=⟨_,rfl⟩
        rw [hg] at hgl hgh hgm
        have q1:=pn_neq
        have q2:=pn_neq0
        have hk0:∃ (k:Nat),(0:Int)=(k:Int):=⟨0,rfl⟩
        go_wp2_with fail
        go_loopw [8] (fun iv wv => ∃ (k:Nat),iv=.int .i64 (k:Int) ∧ k ≤ 512 ∧ PM wv (w.heap.size + 2) r m1 (updB (mixB P.B (P.cut sz2).B left) i (some (zk l a k))) G1 C1 D1 ∧ w1.grownBy wv (some g))
          (fun iv _ => 512 - (intOf iv).toNat)
        case atStart => exact ⟨0,rfl,by omega,HP1.out.cast hm0,World.grownBy.refl _ _⟩
        case round =>
          obtain ⟨k,rfl,hk5,hpk,hgk⟩:=hrel
          have HPK:=Lib.hid hpk
          have HGK:=Lib.hid hgk
          have hsk:=hgk.size
          clear hpk hgk
          by_cases hkl:k < 512
          · have hlt5:(k:Int) < 512:=by omega
            have v1:=i64_wr ((i:Int) * 512 + (k:Int)) (by omega)
            have v2:=i64_wr ((k:Int) + 1) (by omega)
            by_cases hak:a ≤ k
            · have hge5:(sz2:Int) ≤ (i:Int) * 512 + (k:Int):=by omega
              have c2k:wr.cell? ⟨r,0,none⟩=some (.map (some m1)):=by
                rw [World.cell?_of_block (HGK.out.block r HK2.out.lt (fun e => by injection e with e; omega))]; exact c2
              have hlkv:=HPK.out.look i (by omega) wr rfl
              rw [elV_some (updB_same _ i _),hg] at hlkv
              obtain ⟨_,_,_,_,_,hrwk,_⟩:=HPK.out.yes i _ (updB_same _ i _)
              rw [hg] at hrwk
              have cc:=hrwk.cell (k:=k) (by rw [zk_len]; exact hkl)
              have ff:=hrwk.free k
              have hnx:=HPK.out.set i k (zk l a k) (updB_same _ i _) 0
              rw [hg,updB_updB,zk_set l a k hak hkl] at hnx
              have hgx:w1.grownBy (wr.setCell ⟨g,k,none⟩ (.int .u8 (n8 0))) (some g):=HGK.out.trans (have hks:=keeps_set wr g k (.int .u8 (n8 0)); ⟨hks.os,hks.tape,hks.output,hks.size,fun j hj e => hks.block j hj (fun e2 => e (by rw [show j=g from e2]))⟩)
              have HNX:=Lib.hid hnx
              have HGX:=Lib.hid hgx
              clear hnx hgx hrwk
              go_wp2_with fail
              refine ⟨⟨k + 1,by rw [show ((k:Int) + 1)=((k + 1:Nat):Int) by omega],by omega,HNX.out,HGX.out⟩,?_⟩
              show 512 - ((k:Int) + 1).toNat < 512 - ((k:Int)).toNat
              omega
            · have hge5:¬ (sz2:Int) ≤ (i:Int) * 512 + (k:Int):=by omega
              go_wp2_with fail
              refine ⟨⟨k + 1,by rw [show ((k:Int) + 1)=((k + 1:Nat):Int) by omega],by omega,by rw [← zk_skip l a k (by omega)]; exact HPK.out,HGK.out⟩,?_⟩
              show 512 - ((k:Int) + 1).toNat < 512 - ((k:Int)).toNat
              omega
          · have hke:k=512:=by omega
            subst hke
            have hnlt5:¬ ((512:Nat):Int) < 512:=by omega
            have hrg2:=hrg1.kept HGK.out (fun e => by injection e with e; omega) (fun e => by injection e with e; omega)
            have hI:=fun {k:Nat} {ty:TypeId} {cs:Array Value} (h1:Is w1 k ty cs) (h4:k ≠ g) => (show Is wr k ty cs from (HGK.out.block k h1.lt (fun e => by injection e with e; exact h4 e)).trans h1)
            have hJ1:=hI HK1.out (by omega)
            have hJ2:=hI HK2.out (by omega)
            have hBm:=HBM.out.grown HGK.out (by omega) (fun j hj => by injection hj with hj; omega)
            have hp7:=HPK.out.cast HMX.out
            go_wp2_with fail
            refine ⟨⟨_,_,_,_,_,hrg2,hp7,hJ1,hJ2,hBm,by omega⟩,?_⟩
            rw [hrg2.left_eq,HRG.out.left_eq]; exact hlt
end Go.Proofs.YthkijogloebdoaaGreatDoor
end
section
namespace Go.Proofs.YthkijogloebdoaaGreatDoor
open Go.RowKit Go.Maps Rec Gp Fs
set_option maxRecDepth 100000 in
set_option maxHeartbeats 3200000 in
theorem itake_any (c:Cx)(w:World)(O:Nat → Prop)(T:Tn)(n:Nat)(he:Env c w O T n)(xs:Nat → Ino)(k:Nat)(hk1:1 ≤ k)(hk2:k < cnt n)(hx:∀ j,1 ≤ j → j ≤ k → InoAt (T.view c.D) n j (xs j))(hb:∀ j,1 ≤ j → j < k → (xs j).kind ≠ 0)(h0:(xs k).kind=0)
    (y:Ino)(hy:y.Ok)(hyk:y.kind ≠ 0)(S:List Nat)(hS:T.Cov S)(hiS:ino n + k / 8 ∈ S)(h96:S.length ≤ 96)(hT:T.H.length ≤ 1000000) :
    Calls Tryz.prog 10 #[.pointer (some ⟨c.t,0,none⟩),geoV n,.agg y.C] w fun e w' => e=.returned (.tuple #[.int .i64 (k:Int),.int .i64 0]) ∧ ∃ O',TxnAt c w' O' (T.put (ino n + k / 8) (spliced (T.view c.D (ino n + k / 8)) (k % 8 * 64) (encN y 12))) ∧ Fr w O w' O':=by
  obtain ⟨hb0,i0,i1⟩:=two_new w #[.int .i64 (n:Int),.int .i64 98,.int .i64 (ino n:Int),.int .i64 (dat n:Int),.int .i64 (cnt n:Int)] y.C 31 44
  obtain ⟨W,hW⟩:∃ W,(w.alloc (.cells #[.int .i64 (n:Int),.int .i64 98,.int .i64 (ino n:Int),.int .i64 (dat n:Int),.int .i64 (cnt n:Int)] 31)).alloc (.cells y.C 44)=W:=⟨_,rfl⟩
  rw [hW] at hb0 i0 i1
  have hE:=he.later hb0
  have HEN:=Lib.hid he
  have HE:=Lib.hid hE
  have HX:=Lib.hid hx
  have HB:=Lib.hid hb
  have HZ:=Lib.hid h0
  have HYO:=Lib.hid hy
  have HI0:=Lib.hid i0
  have HI1:=Lib.hid i1
  have HB0:=Lib.hid hb0
  have c0:W.cell? ⟨w.heap.size + 1,0,none⟩=some (.int .i64 (y.kind:Int)):=i1.cell 0
  have hkb:((y.kind:Int) == 0)=false:=by rw [beq_eq_false_iff_ne]; omega
  have HS:=Lib.hid (And.intro hS hiS)
  have hcl:cnt n ≤ 10000:=by have:=(geo_facts he.hn).2.1; unfold cnt; omega
  have HM:=Lib.hid (may_any y hy)
  obtain ⟨t,ht⟩:∃ t,c.t=t:=⟨_,rfl⟩
  rw [ht]
  have HTT:=Lib.hid ht
  obtain ⟨N,hN⟩:∃ N,cnt n=N:=⟨_,rfl⟩
  rw [hN] at hk2 hcl
  have HN:=Lib.hid hN
  clear hx hb h0 hy i0 i1 hb0 hS hiS ht hE he hyk hN
  go_enter Tryz.func10,Tryz.ntmps10
  go_wp2_with (first
    | (refine wpList_load_row rfl 44 (.tmp 5) rfl (w.heap.size + 1) rfl 44 y.C (0,0) _ HI1.out Tryz.underlying44 rfl size15 ?_)
    | (go_at_call 26
       refine (HM.out _).mono ?_
       rintro e w1 ⟨rfl,hb1⟩
       have HB1:=Lib.hid hb1
       have d0:w1.cell? ⟨w.heap.size + 1,0,none⟩=some (.int .i64 (y.kind:Int)):=(HI1.out.below hb1 HI1.out.lt).cell 0
       clear hb1))
  go_loopw [8] (fun v wr => ∃ j:Nat,1 ≤ j ∧ j ≤ k ∧ v=.int .i64 (j:Int) ∧ Below W.heap.size W wr) (fun v _ => 20000 - (intOf v).toNat)
  case atStart => exact ⟨1,Nat.le_refl _,hk1,rfl,HB1.out⟩
  case round =>
    obtain ⟨j,hj1,hjk,rfl,hBr⟩:=hrel
    have HBR:=Lib.hid hBr
    have hEr:=HE.out.later hBr
    obtain ⟨e10,e11,e12,e13,e14⟩:=geo5 (HI0.out.below hBr HI0.out.lt)
    rw [HN.out] at e14
    have hjl:(j:Int) < (N:Int):=by omega
    have HG:=Lib.hid (iget_any c wr O T hEr.tx n j (xs j) hEr.hn hEr.hN hj1 (by have:=HN.out; omega) (HX.out j hj1 hjk) hEr.wd)
    have HER:=Lib.hid hEr
    rw [HTT.out] at HG
    unfold geoV at HG
    rw [HN.out] at HG
    have hox:=(HX.out j hj1 hjk).2
    have heq:=run_equal_ino (xs j) hox
    obtain ⟨x,hx⟩:∃ x,xs j=x:=⟨_,rfl⟩
    rw [hx] at HG heq
    have HXJ:=Lib.hid hx
    by_cases hjk2:j=k
    · have hkd:(x.kind == 0)=true:=by rw [← hx,hjk2,beq_iff_eq]; exact HZ.out
      rw [hkd] at heq
      have HEQ:=Lib.hid heq
      have HPT:=Lib.hid (fun w3 (hb:Below W.heap.size W w3) => iput_any c w3 O T (HE.out.later hb).tx n k _ _ y HEN.out.hn HEN.out.hN hk1 (by have:=HN.out; omega) rfl rfl HYO.out (HE.out.later hb).wd S HS.out.1 HS.out.2 h96 hT (fun w2 O2 h2 => (HE.out.later hb).wd.same (h2.1.block _ (HE.out.later hb).wd.lt HE.out.wo)))
      rw [HTT.out] at HPT
      unfold geoV Wrote at HPT
      rw [HN.out] at HPT
      have HJK:=Lib.hid hjk2
      clear hBr hEr hox heq hx hkd hjk2
      go_wp2_with (first
        | (go_at_call 27
           refine HG.out.mono ?_
           rintro e w2 ⟨rfl,hb2⟩
           have HB2:=Lib.hid hb2
           have HY2:=Lib.hid (Is.new w2 44 zeroC)
           clear hb2)
        | (refine wpList_store_row_k rfl 44 (.tmp 9) (.tmp 31) rfl w2.heap.size x.C rfl rfl 44 zeroC HY2.out size15 rfl (inoC_one _) ?_
           intro w3 hy3 hk3
           have HY3:=Lib.hid hy3
           have HB3:=Lib.hid (show Below W.heap.size W w3 from HBR.out.trans ((HB2.out.mono HBR.out.size).trans (((below_new w2 _).mono (Nat.le_trans HBR.out.size HB2.out.size)).trans (hk3.below (by rw [World.size_alloc]; have:=HBR.out.size; have:=HB2.out.size; omega) (fun i e => by rw [show i=w2.heap.size from e]; have:=HBR.out.size; have:=HB2.out.size; omega)))))
           obtain ⟨q0,q1,q2,q3,q4⟩:=geo5 (HI0.out.below HB3.out HI0.out.lt)
           rw [HN.out] at q4
           have HI3:=Lib.hid (HI1.out.below HB3.out HI1.out.lt)
           clear hy3 hk3)
        | (refine wpList_load_row rfl 44 (.tmp 9) rfl w2.heap.size rfl 44 x.C (0,0) _ HY3.out Tryz.underlying44 rfl size15 ?_)
        | (refine wpList_load_row rfl 44 (.tmp 5) rfl (w.heap.size + 1) rfl 44 y.C (0,0) _ HI3.out Tryz.underlying44 rfl size15 ?_)
        | (refine wpList_eq_ino rfl (.tmp 36) (.tmp 37) _ rfl x.C zeroC true rfl rfl (HEQ.out _) ?_)
        | (go_at_call 28
           refine (show Calls _ _ #[.pointer (some ⟨t,0,none⟩),.agg #[.int .i64 (n:Int),.int .i64 98,.int .i64 (ino n:Int),.int .i64 (dat n:Int),.int .i64 (N:Int)],.int .i64 (j:Int),.agg y.C] w3 _ from by rw [HJK.out]; exact HPT.out w3 HB3.out).mono ?_
           rintro e w4 ⟨rfl,O4,hT4,hF4⟩
           have HT4:=Lib.hid hT4
           have HF4:=Lib.hid hF4
           clear hT4 hF4))
      refine bodyPost_ret (v:=.tuple #[.int .i64 (j:Int),.int .i64 0]) (by simp [results,Tryz.results10,go_sem]) rfl ?_
      exact ⟨by rw [HJK.out],O4,HT4.out,(Fr.of_below (HB0.out.trans (HB3.out.mono HB0.out.size))).trans HF4.out⟩
    · have hkd:(x.kind == 0)=false:=by rw [← hx,beq_eq_false_iff_ne]; exact HB.out j hj1 (by omega)
      rw [hkd] at heq
      have HEQ:=Lib.hid heq
      clear hBr hEr hox heq hx hkd
      go_wp2_with (first
        | (go_at_call 27
           refine HG.out.mono ?_
           rintro e w2 ⟨rfl,hb2⟩
           have HB2:=Lib.hid hb2
           have HY2:=Lib.hid (Is.new w2 44 zeroC)
           clear hb2)
        | (refine wpList_store_row_k rfl 44 (.tmp 9) (.tmp 31) rfl w2.heap.size x.C rfl rfl 44 zeroC HY2.out size15 rfl (inoC_one _) ?_
           intro w3 hy3 hk3
           have HY3:=Lib.hid hy3
           have HB3:=Lib.hid (show Below W.heap.size W w3 from HBR.out.trans ((HB2.out.mono HBR.out.size).trans (((below_new w2 _).mono (Nat.le_trans HBR.out.size HB2.out.size)).trans (hk3.below (by rw [World.size_alloc]; have:=HBR.out.size; have:=HB2.out.size; omega) (fun i e => by rw [show i=w2.heap.size from e]; have:=HBR.out.size; have:=HB2.out.size; omega)))))
           clear hy3 hk3)
        | (refine wpList_load_row rfl 44 (.tmp 9) rfl w2.heap.size rfl 44 x.C (0,0) _ HY3.out Tryz.underlying44 rfl size15 ?_)
        | (refine wpList_eq_ino rfl (.tmp 36) (.tmp 37) _ rfl x.C zeroC false rfl rfl (HEQ.out _) ?_))
      go_roundw
      case rel => exact ⟨j + 1,by omega,by omega,by go_num,HB3.out⟩
      case measure => simp [intOf]; omega
end Go.Proofs.YthkijogloebdoaaGreatDoor
end
section
set_option maxRecDepth 100000
namespace Go.Proofs.YthkijogloebdoaaGreatDoor
open Go.RowKit Go.Maps Rec Gp Fs
theorem infoPl:(Tryz.prog.info? 47).map (fun i => (i.zero,i.size,i.bytes))=some (some (.agg #[.map none,.int .i64 0]),2,16):=by kernel_rfl
theorem infoI64:(Tryz.prog.info? 3).map (fun i => (i.zero,i.size,i.bytes))=some (some (.int .i64 0),1,8):=by kernel_rfl
theorem infoFOp:(Tryz.prog.info? 49).map (fun i => (i.zero,i.size,i.bytes))=some (some (.agg #[.int .i64 0,.int .i64 0,.int .i64 0,.int .i64 0,.int .i64 0]),5,40):=by kernel_rfl
theorem fileI_C:fileI.C=#[.int .i64 1,.int .i64 1,.int .i64 0,.int .i64 0,.int .i64 0,.int .i64 0,.int .i64 0,.int .i64 0,.int .i64 0,.int .i64 0,.int .i64 0,.int .i64 0,.int .i64 0,.int .i64 0,.int .i64 0]:=by simp [fileI,Ino.C]
def fnums (k:Nat):List Value:=(List.range k).map fun j => .int .i64 ((j + 2:Nat):Int)
def plK (ms:Nat → Nat):Nat → List Value
  | 0 => []
  | k + 1 => plK ms k ++ [.map (some (ms k)),.int .i64 0]
theorem plK_congr {ms ms2:Nat → Nat}:∀ k,(∀ j,j < k → ms2 j=ms j) → plK ms2 k=plK ms k
  | 0,_ => rfl
  | k + 1,h => by show plK ms2 k ++ [_,_]=plK ms k ++ [_,_]; rw [plK_congr k (fun j hj => h j (by omega)),h k (by omega)]
theorem plK3 (ms:Nat → Nat):plK ms 3=plC ms (fun _ => nilP):=rfl
theorem fnums_succ (k:Nat):fnums (k + 1)=fnums k ++ [.int .i64 ((k + 2:Nat):Int)]:=by unfold fnums; rw [List.range_succ,List.map_append]; rfl
structure Start (n k:Nat)(w:World)(c:Cx)(O:Nat → Prop)(T:Tn):Prop where
  env:Env c w O T n
  half:HalfAt w
  ho:¬ O 1
  bt:c.base ≤ c.t
  low:∀ j,O j → c.base ≤ j
  tk:TakenV n (T.view c.D) k
  cov:T.Cov [ino n]
  hist:T.H.length=k
theorem Start.fr {n k:Nat}{w w2:World}{c:Cx}{O O2:Nat → Prop}{T:Tn}(h:Start n k w c O T)(hk:k < 3)(ht:TxnAt c w2 O2 (T.put (ino n + (2 + k) / 8) (spliced (T.view c.D (ino n + (2 + k) / 8)) ((2 + k) % 8 * 64) (encN fileI 12))))(f:Fr w O w2 O2) :
    Start n (k + 1) w2 c O2 (T.put (ino n + (2 + k) / 8) (spliced (T.view c.D (ino n + (2 + k) / 8)) ((2 + k) % 8 * 64) (encN fileI 12))):=by
  have hb:c.base ≤ w.heap.size:=by have:=h.bt; have:=h.env.tx.lt _ h.env.tx.own; omega
  refine ⟨h.env.fr ht f,h.half.same (f.1.block _ h.half.lt h.ho),f.out h.half.lt h.ho,h.bt,fun j hj => ?_,?_,?_,?_⟩
  · rcases f.2 j hj with o | o
    · exact h.low j o
    · omega
  · rw [view_upd]; exact h.tk.next h.env.hn hk
  · rw [show ino n + (2 + k) / 8=ino n by omega]; exact h.cov.put (.head _) _
  · rw [Tn.put_len,h.hist]
theorem Start.later {n k:Nat}{w w2:World}{c:Cx}{O:Nat → Prop}{T:Tn}(h:Start n k w c O T)(b:Below w.heap.size w w2):Start n k w2 c O T :=
  ⟨h.env.later b,h.half.same (b.block _ h.half.lt),h.ho,h.bt,h.low,h.tk,h.cov,h.hist⟩
theorem grow_keeps {w w2:World}{v:Value}(hg:w.grownBy w2 v.ownBlock):Keeps (fun k => v.ownBlock=some k) w w2:=⟨hg.os,hg.tape,hg.output,hg.size,fun i hi hn => hg.block i hi (fun e => hn e.symm)⟩
theorem RF.typed {w:World}{O:Nat → Prop}{base n size:Nat}{e:TypeId}{v:Value}{xs:List Value}(h:RF w O base e size v n xs){g:Nat}(hg:v.ownBlock=some g):Tk w g [e] ∧ base ≤ g ∧ g < w.heap.size ∧ ¬ O g:=by
  have ho:=h.2 g hg
  rcases h.1.2 with q | ⟨g',cap,cur,hv,hb,hh,r⟩
  · rw [q.1] at hg; cases hg
  · rw [hv] at hg
    injection hg with hg
    subst hg
    exact ⟨⟨_,_,_,hh,by simp⟩,hb,(Array.getElem?_eq_some_iff.1 hh).1,ho⟩
theorem RF.push {w w2:World}{O:Nat → Prop}{base n m size:Nat}{e:TypeId}{v v2:Value}{xs ys:List Value}(h:RF w O base e size v n xs)(ho:w2.ownsRow base e size v2 m ys)(hv:v2.ownBlock=v.ownBlock ∨ v2.ownBlock=some w.heap.size)(hO:∀ k,O k → k < w.heap.size):RF w2 O base e size v2 m ys :=
  ⟨ho,fun g hg o => by
    rcases hv with hv | hv
    · exact h.2 g (hv ▸ hg) o
    · rw [hv] at hg; injection hg with hg; have:=hO g o; omega⟩
theorem tk_ne {w:World}{g:Nat}{t u:TypeId}(h:Tk w g [t])(hne:t ≠ u):¬ Tk w g [u]:=fun ⟨cs,τ,f,q1,q2⟩ => by
  obtain ⟨cs',τ',f',q3,q4⟩:=h
  rw [q1] at q3
  injection q3 with q3
  injection q3 with _ q3
  subst q3
  simp at q2 q4
  exact hne (q4.symm.trans q2)
theorem RF.apart {w w2:World}{O:Nat → Prop}{base n size:Nat}{e u:TypeId}{v v9:Value}{xs:List Value}(h:RF w O base e size v n xs)(hk:Keeps (fun k => v9.ownBlock=some k) w w2)(ht:∀ g,v9.ownBlock=some g → Tk w g [u])(hne:u ≠ e):RF w2 O base e size v n xs:=by
  refine ⟨⟨h.1.1,?_⟩,h.2⟩
  rcases h.1.2 with q | ⟨g,cap,cur,hv,hb,hh,r⟩
  · exact .inl q
  · obtain ⟨t1,_,t3,_⟩:=h.typed (g:=g) (by rw [hv]; rfl)
    exact .inr ⟨g,cap,cur,hv,hb,(hk.block g t3 (fun e9 => tk_ne (ht g e9) hne t1)).trans hh,r⟩
theorem BF.apart {w w2:World}{O:Nat → Prop}{g:Nat}{t u:TypeId}{cs:Array Value}{v9:Value}(h:BF w O g t cs)(hk:Keeps (fun k => v9.ownBlock=some k) w w2)(ht:∀ g,v9.ownBlock=some g → Tk w g [u])(hne:u ≠ t):BF w2 O g t cs :=
  ⟨(hk.block g h.1.lt (fun e9 => tk_ne (ht g e9) hne (tk_of h.1 (by simp)))).trans h.1,h.2⟩
theorem PF.apart {w w2:World}{O:Nat → Prop}{m:Nat}{P:Pl}{u:TypeId}{v9:Value}(h:PF w O m P)(hk:Keeps (fun k => v9.ownBlock=some k) w w2)(ht:∀ g,v9.ownBlock=some g → Tk w g [u])(hne:u ≠ 5):PF w2 O m P:=by
  obtain ⟨lo,hi,G,C,D,q1,q2,q3,q4⟩:=h.ex
  refine ⟨h.ok,lo,hi,G,C,D,Nat.le_trans q1 hk.size,q2.agreeG (fun k _ k2 k3 => hk.block k (by omega) (fun e9 => ?_)),q3,q4⟩
  rcases k3 with k3 | ⟨i,hi',k3⟩
  · rw [k3] at e9; exact not_tk_own q2.own (ht m e9)
  · cases hb:P.B i with
    | none => rw [hb] at hi'; cases hi'
    | some l =>
      have:=(q2.yes i l hb).2.2.2.2.2.1.tk
      rw [k3] at this
      exact tk_ne (ht k e9) hne this
theorem Start.apart {n k:Nat}{w w2:World}{c:Cx}{O:Nat → Prop}{T:Tn}{S:Nat → Prop}(h:Start n k w c O T)(hk:Keeps S w w2)(hS:∀ i,S i → ¬ O i)(h1:¬ S 1)(h2:¬ S 0):Start n k w2 c O T :=
  ⟨⟨h.env.tx.keeps hk hS,h.env.hn,h.env.hN,h.env.wd.same (hk.block _ h.env.wd.lt h2),h.env.wo⟩,h.half.same (hk.block _ h.half.lt h1),h.ho,h.bt,h.low,h.tk,h.cov,h.hist⟩
def OpsArg (w:World)(A:Option Addr)(cs:List Value):Prop:=cs=[] ∨ ∃ g off,A=some ⟨g,off,none⟩ ∧ ∀ j (h:j < cs.length),w.cell? ⟨g,off + j,none⟩=some cs[j]
def first5:List Value := [.int .i64 0,.int .i64 0,.int .i64 0,.int .i64 5,.int .i64 7]
theorem wpList_append_ops {ops:Array Oper}{rest:List Oper}{o:Oper}{a':Act}{w:World}{Q:Exit → Act → World → Prop}(hgd:o.guard=none)(s x:Operand)
    (ho:o.op=.call { callee:=.builtin .append,args := #[s,x],argTypes := #[22,22] })
    (base g0:Nat)(hs:a'.eval s=.slice (some ⟨g0,0,none⟩) 1 1)(hown:w.ownsRow base 49 5 (.slice (some ⟨g0,0,none⟩) 1 1) 1 first5)
    (A:Option Addr)(ol oc:Nat)(cs:List Value)(hx:a'.eval x=.slice A ol oc)(hA:OpsArg w A cs)(hn:A=none → ol=0 ∧ oc=0)(hcl:cs.length=ol * 5)(h1:∀ v ∈ cs,v.oneCell'=true)(hb:(ol + 1) * 40 ≤ 140737488355328)(hbase:base ≤ w.heap.size)
    (h:∀ g cap' w',w'.ownsRow base 49 5 (.slice (some ⟨g,0,none⟩) (ol + 1) cap') (ol + 1) (first5 ++ cs) → w.grownBy w' (some g0) → (g=g0 ∨ g=w.heap.size) → wpList Tryz.prog ops Q rest (a'.put o.dst (.slice (some ⟨g,0,none⟩) (ol + 1) cap')) w') :
    wpList Tryz.prog ops Q (o :: rest) a' w:=by
  obtain ⟨i0,hi,hz0,hz1,hz2⟩:=info_parts infoFOp
  cases A with
  | none =>
    obtain ⟨rfl,rfl⟩:=hn rfl
    have hc:cs=[]:=List.eq_nil_of_length_eq_zero (by omega)
    subst hc
    refine wpList_append_own_none hgd s x 22 ho base 49 i0 5 Tryz.underlying22 hi _ 1 first5 hs hown hx ?_
    refine h g0 1 w ?_ ⟨rfl,rfl,rfl,Nat.le_refl _,fun _ _ _ => rfl⟩ (.inl rfl)
    rw [List.append_nil]
    exact hown
  | some ad =>
    have hnews:∀ j u,cs[j]? = some u → w.cell? (ad.add j)=some u:=fun j u hu => by
      have hj:=(List.getElem?_eq_some_iff.1 hu).1
      rcases hA with rfl | ⟨g,off,e,hc⟩
      · simp at hj
      · injection e with e
        subst e
        have hadd:(⟨g,off,none⟩:Addr).add j=⟨g,off + j,none⟩:=by unfold Addr.add; split <;> simp_all
        rw [hadd,hc j hj,← hu,List.getElem?_eq_getElem hj]
    refine wpList_append_own_at w hgd s x 22 ho base 49 i0 _ 5 40 Tryz.underlying22 hi hz0 hz1 hz2 rfl (by decide) _ 1 first5 hs hown ad ol oc cs hx hcl hnews h1 (by simp only [maxLen]; omega) (by omega) hbase ?_
    intro v' w' hown' hg _ hat
    obtain ⟨g,cap,rfl,hlo,_⟩:=World.ownsRow.form hown' (by omega)
    rw [Nat.add_comm 1 ol] at hown' ⊢
    refine h g cap w' hown' hg ?_
    rcases hat with hat | hat
    · left; injection hat
    · right; injection hat
theorem OpsArg.below {w w2:World}{A:Option Addr}{cs:List Value}(h:OpsArg w A cs)(b:Below w.heap.size w w2):OpsArg w2 A cs:=by
  rcases h with h | ⟨g,off,e,hc⟩
  · exact .inl h
  · refine .inr ⟨g,off,e,fun j hj => ?_⟩
    have hq:=hc j hj
    exact (b.cell (p:=⟨g,off + j,none⟩) (block_lt_of_cell hq)).trans hq
theorem Start.hold {n:Nat}{w:World}{c:Cx}{O:Nat → Prop}{T:Tn}(h:Start n 3 w c O T)(hr:RestD n 0 c.D)(hg:1 < c.base ∧ 0 < c.base):Hold n 3 0 w c O T (fun _ => fileI) (fun _ _ => 0) (fun _ => nilP) [ino n] :=
  ⟨h.env,h.half,h.ho,hg,h.bt,h.tk.fs h.env.hn,h.cov,Nat.le_of_eq h.hist,hr⟩
theorem Hold.apart {n hb m:Nat}{w w2:World}{c:Cx}{O:Nat → Prop}{T:Tn}{X:Nat → Ino}{L:Nat → Nat → Nat}{Q:Nat → Pl}{S:List Nat}{R:Nat → Prop}(h:Hold n hb m w c O T X L Q S)(hk:Keeps R w w2)(hR:∀ i,R i → ¬ O i)(h1:¬ R 1)(h2:¬ R 0):Hold n hb m w2 c O T X L Q S :=
  ⟨⟨h.env.tx.keeps hk hR,h.env.hn,h.env.hN,h.env.wd.same (hk.block _ h.env.wd.lt h2),h.env.wo⟩,h.half.same (hk.block _ h.half.lt h1),h.ho,h.glob,h.bt,h.fs,h.cov,h.hist,h.rest⟩
def opAt (cs:List Value)(i j:Nat):Int:=intOf (((first5 ++ cs)[i * 5 + j]?).getD (.int .i64 0))
theorem opAt_cell {cs:List Value}{ol:Nat}(hcl:cs.length=ol * 5)(hint:∀ u ∈ cs,∃ z:Int,u=.int .i64 z ∧ -9223372036854775808 ≤ z ∧ z ≤ 9223372036854775807){i j:Nat}(hi:i < ol + 1)(hj:j < 5) :
    (first5 ++ cs)[i * 5 + j]? = some (.int .i64 (opAt cs i j)) ∧ -9223372036854775808 ≤ opAt cs i j ∧ opAt cs i j ≤ 9223372036854775807:=by
  have hlen:(first5 ++ cs).length=(ol + 1) * 5:=by rw [List.length_append,hcl]; show 5 + ol * 5=_; omega
  have hlt:i * 5 + j < (first5 ++ cs).length:=by omega
  have hall:∀ u ∈ first5 ++ cs,∃ z:Int,u=.int .i64 z ∧ -9223372036854775808 ≤ z ∧ z ≤ 9223372036854775807:=fun u hu => by
    rcases List.mem_append.1 hu with hu | hu
    · unfold first5 at hu
      simp at hu
      rcases hu with rfl | rfl | rfl
      · exact ⟨0,rfl,by omega,by omega⟩
      · exact ⟨5,rfl,by omega,by omega⟩
      · exact ⟨7,rfl,by omega,by omega⟩
    · exact hint u hu
  obtain ⟨z,e,h1,h2⟩:=hall _ (List.getElem_mem hlt)
  have hz:opAt cs i j=z:=by unfold opAt; rw [List.getElem?_eq_getElem hlt,e]; rfl
  rw [hz,List.getElem?_eq_getElem hlt,e]
  exact ⟨rfl,h1,h2⟩
structure Loop (n:Nat)(w0:World)(B a d gb:Nat)(nv ov:Value)(cs:List Value)(ol i:Nat)(w:World)(c:Cx)(O:Nat → Prop)(T:Tn)(X:Nat → Ino)(L:Nat → Nat → Nat)(Q:Nat → Pl)(S:List Nat):Prop where
  hold:Hold n (20000 * i + 3) (200 * i) w c O T X L Q S
  s90:S.length ≤ 90
  cx:c.base=B ∧ c.a=a ∧ c.d=d
  low:∀ j,O j → B ≤ j
  nums:RF w O w0.heap.size 3 1 nv 3 (fnums 3)
  geo:BF w O gb 31 (geoL n)
  ops:RF w O w0.heap.size 49 5 ov (ol + 1) (first5 ++ cs)
  below:Below w0.heap.size w0 w
theorem nodup_len {l:List Int}(h:l.Nodup):∀ S:List Nat,(∀ x ∈ l,∃ i ∈ S,x=(i:Int)) → l.length ≤ S.length:=by
  induction l with
  | nil => intro S _; exact Nat.zero_le _
  | cons x l ih =>
    intro S hS
    obtain ⟨i,hi,rfl⟩:=hS _ (List.mem_cons_self ..)
    have h2:=ih (List.nodup_cons.1 h).2 (S.erase i) (fun y hy => by
      obtain ⟨j,hj,rfl⟩:=hS _ (List.mem_cons_of_mem _ hy)
      refine ⟨j,(List.mem_erase_of_ne (fun e => ?_)).2 hj,rfl⟩
      subst e
      exact (List.nodup_cons.1 h).1 hy)
    rw [List.length_erase_of_mem hi] at h2
    have:=List.length_pos_of_mem hi
    rw [List.length_cons]
    omega
theorem wcount_any {c:Cx}{w:World}{O:Nat → Prop}{T:Tn}(h:TxnAt c w O T){S:List Nat}(hS:T.Cov S)(hs:S.length ≤ 96) :
    Calls Tryz.prog 12 #[.pointer (some ⟨c.t,0,none⟩)] w fun e w' => (∃ (A:Option Addr) (cap k:Nat) (S2:List Nat),e=.returned (.slice A k cap) ∧ T.Cov S2 ∧ S2.length=k ∧ k ≤ 96) ∧ Below w.heap.size w w':=by
  obtain ⟨Dm,U,uc,ucs,hI,hM,_⟩:=h.ex
  obtain ⟨k1,k2,k3⟩:=mem_intKeys hM.own
  have hle:Maps.size Dm ≤ S.length:=by
    rw [← k3]
    refine nodup_len k1 S (fun x hx => ?_)
    obtain ⟨i,rfl,_,_,hi⟩:=hM.keys x ((k2 x).1 hx)
    refine ⟨i,hS i (fun e => ?_),rfl⟩
    rw [e] at hi; cases hi
  refine (written_any c.t c.b (Maps.size Dm) Dm RV w hM.own (by omega) (hI.cell 1) (hI.cell 3)).mono ?_
  rintro e w' ⟨⟨A,cap,ss,rfl,hp,_,_⟩,hb⟩
  refine ⟨⟨A,cap,ss.length,ss.map Int.toNat,rfl,fun i hi => ?_,by rw [List.length_map],by have:=hp.length_eq; omega⟩,hb⟩
  cases hl:T.P i with
  | none => exact absurd hl hi
  | some l =>
    have hy:=(hM.yes i l hl).1
    refine List.mem_map.2 ⟨(i:Int),hp.mem_iff.2 ((k2 _).2 hy),by omega⟩
theorem Loop.later {n:Nat}{w0:World}{B a d gb:Nat}{nv ov:Value}{cs:List Value}{ol i:Nat}{w w2:World}{c:Cx}{O:Nat → Prop}{T:Tn}{X:Nat → Ino}{L:Nat → Nat → Nat}{Q:Nat → Pl}{S:List Nat}(h:Loop n w0 B a d gb nv ov cs ol i w c O T X L Q S)(b:Below w.heap.size w w2):Loop n w0 B a d gb nv ov cs ol i w2 c O T X L Q S :=
  ⟨h.hold.later b,h.s90,h.cx,h.low,h.nums.away (by decide) (Away.below b),h.geo.away (by decide) (Away.below b),h.ops.away (by decide) (Away.below b),h.below.trans (b.mono h.below.size)⟩
theorem emptyRow (w:World){base:Nat}(h:base ≤ w.heap.size):(w.alloc (.cells #[] 47)).ownsRow base 47 2 (.slice (some ⟨w.heap.size,0,none⟩) 0 0) 0 [] :=
  ⟨rfl,.inr ⟨w.heap.size,0,#[],rfl,h,heap_alloc_new w _,Nat.le_refl _,by simp [maxLen],rfl,rfl⟩⟩
def Switched (n:Nat)(w0:World)(B a d gb:Nat)(nv ov:Value)(cs:List Value)(ol i:Nat)(lv nxt:Value)(s11 s21 s22:Value)(w:World):Prop :=
  ∃ (c:Cx) (O:Nat → Prop) (T:Tn) (X:Nat → Ino) (L:Nat → Nat → Nat) (Q:Nat → Pl) (S:List Nat) (ms:Nat → Nat) (code:Nat),s11=.pointer (some ⟨c.t,0,none⟩) ∧ s21=.int .i64 (code:Int) ∧ s22=.int .i64 (code:Int) ∧ Loop n w0 B a d gb nv ov cs ol (i + 1) w c O T X L Q S ∧
    RF w O w0.heap.size 47 2 (if code=0 then nxt else lv) 3 (plC ms Q) ∧ PQ w O ms Q
theorem told_at {n:Nat}{w0:World}{B a d gb:Nat}{nv ov:Value}{cs:List Value}{ol i:Nat}{c:Cx}{O:Nat → Prop}{T:Tn}{X:Nat → Ino}{L:Nat → Nat → Nat}{Q:Nat → Pl}{S:List Nat}{ms:Nat → Nat}(w:World)(h:Loop n w0 B a d gb nv ov cs ol i w c O T X L Q S)(hp:PQ w O ms Q)(k:Nat)(hk:k < 3) :
    Calls Tryz.prog 23 #[.pointer (some ⟨c.t,0,none⟩),geoV n,.int .i64 ((k + 2:Nat):Int),.agg #[.map (some (ms k)),.int .i64 ((Q k).size:Int)]] w fun e w' => e=.returned (.bool true) ∧ Below w.heap.size w w':=by
  obtain ⟨lo,hi,G,C,D,h1,h2,_⟩:=(hp k hk).ex
  exact told_any c w O T n h.hold.env X L Q h.hold.fs k hk lo hi (ms k) G C D h2 h1
end Go.Proofs.YthkijogloebdoaaGreatDoor
end
section
set_option maxRecDepth 100000
namespace Go.Proofs.YthkijogloebdoaaGreatDoor
open Go.RowKit Go.Maps Rec Gp Fs
def loopsIn:Code → List Code
  | .loop c => [c]
  | .seq a b => loopsIn a ++ loopsIn b
  | .block _ c => loopsIn c
  | .scope c => loopsIn c
  | .cond _ a b => loopsIn a ++ loopsIn b
  | _ => []
noncomputable def body2:Code:=((Tryz.f3.body.map loopsIn).getD []).getD 1 .skip
def blocksIn (m:Nat):Code → List Code
  | .block j c => if j=m then [.block j c] else blocksIn m c
  | .seq a b => blocksIn m a ++ blocksIn m b
  | .scope c => blocksIn m c
  | .cond _ a b => blocksIn m a ++ blocksIn m b
  | _ => []
noncomputable def switch4:Code:=(blocksIn 4 body2).getD 0 .skip
def SwCells (n gb nb lg bx k q m sz:Nat)(z z1 z2 z3 z4:Int)(w:World):Prop :=
  (w.cell? ⟨gb,0,none⟩=some (.int .i64 (n:Int)) ∧ w.cell? ⟨gb,1,none⟩=some (.int .i64 98) ∧ w.cell? ⟨gb,2,none⟩=some (.int .i64 (ino n:Int)) ∧ w.cell? ⟨gb,3,none⟩=some (.int .i64 (dat n:Int)) ∧ w.cell? ⟨gb,4,none⟩=some (.int .i64 (cnt n:Int))) ∧ w.cell? ⟨nb,k,none⟩=some (.int .i64 (q:Int)) ∧
  (w.cell? ⟨bx,0,none⟩=some (.int .i64 z) ∧ w.cell? ⟨bx,1,none⟩=some (.int .i64 z1) ∧ w.cell? ⟨bx,2,none⟩=some (.int .i64 z2) ∧ w.cell? ⟨bx,3,none⟩=some (.int .i64 z3) ∧ w.cell? ⟨bx,4,none⟩=some (.int .i64 z4)) ∧
  w.cell? ⟨lg,k * 2,none⟩=some (.map (some m)) ∧ w.cell? ⟨lg,k * 2 + 1,none⟩=some (.int .i64 (sz:Int))
theorem SwCells.below {n gb nb lg bx k q m sz:Nat}{z z1 z2 z3 z4:Int}{w w2:World}(h:SwCells n gb nb lg bx k q m sz z z1 z2 z3 z4 w)(b:Below w.heap.size w w2):SwCells n gb nb lg bx k q m sz z z1 z2 z3 z4 w2:=by
  obtain ⟨⟨a0,a1,a2,a3,a4⟩,a5,⟨b0,b1,b2,b3,b4⟩,b5,b6⟩:=h
  have key:∀ {p:Addr} {v:Value},w.cell? p=some v → w2.cell? p=some v:=fun {p v} e => (b.cell (p:=p) (block_lt_of_cell e)).trans e
  exact ⟨⟨key a0,key a1,key a2,key a3,key a4⟩,key a5,⟨key b0,key b1,key b2,key b3,key b4⟩,key b5,key b6⟩
theorem SwCells.call {n gb nb lg bx k q m sz:Nat}{z z1 z2 z3 z4:Int}{w:World}(h:SwCells n gb nb lg bx k q m sz z z1 z2 z3 z4 w) :
    w.cell? ⟨gb,0,none⟩=some (.int .i64 (n:Int)) ∧ w.cell? ⟨gb,1,none⟩=some (.int .i64 98) ∧ w.cell? ⟨gb,2,none⟩=some (.int .i64 (ino n:Int)) ∧ w.cell? ⟨gb,3,none⟩=some (.int .i64 (dat n:Int)) ∧ w.cell? ⟨gb,4,none⟩=some (.int .i64 (cnt n:Int)) ∧ w.cell? ⟨nb,k,none⟩=some (.int .i64 (q:Int)) ∧ w.cell? ⟨bx,2,none⟩=some (.int .i64 z2):=by
  obtain ⟨⟨a0,a1,a2,a3,a4⟩,a5,⟨b0,b1,b2,b3,b4⟩,b5,b6⟩:=h
  exact ⟨a0,a1,a2,a3,a4,a5,b2⟩
theorem SwCells.row {n gb nb lg bx k q m sz:Nat}{z z1 z2 z3 z4:Int}{w:World}(h:SwCells n gb nb lg bx k q m sz z z1 z2 z3 z4 w) :
    w.cell? ⟨lg,k * 2,none⟩=some (.map (some m)) ∧ w.cell? ⟨lg,k * 2 + 1,none⟩=some (.int .i64 (sz:Int)) ∧ w.cell? ⟨bx,2,none⟩=some (.int .i64 z2):=by
  obtain ⟨⟨a0,a1,a2,a3,a4⟩,a5,⟨b0,b1,b2,b3,b4⟩,b5,b6⟩:=h
  exact ⟨b5,b6,b2⟩
def setM (k m:Nat)(ms:Nat → Nat):Nat → Nat:=fun j => if j=k then m else ms j
def setQ (k:Nat)(P:Pl)(Q:Nat → Pl):Nat → Pl:=fun g => if g=k then P else Q g
theorem setQ_self (k:Nat)(Q:Nat → Pl):setQ k (Q k) Q=Q:=by
  funext g
  unfold setQ
  split
  · rename_i e; rw [e]
  · rfl
theorem setM_at (k m:Nat)(ms:Nat → Nat):setM k m ms k=m:=if_pos rfl
theorem setM_ne {k j:Nat}(h:j ≠ k)(m:Nat)(ms:Nat → Nat):setM k m ms j=ms j:=if_neg h
theorem setQ_at (k:Nat)(P:Pl)(Q:Nat → Pl):setQ k P Q k=P:=if_pos rfl
theorem setQ_ne {k j:Nat}(h:j ≠ k)(P:Pl)(Q:Nat → Pl):setQ k P Q j=Q j:=if_neg h
theorem plC_set (ms:Nat → Nat)(Q:Nat → Pl)(k:Nat)(hk:k < 3)(m:Nat)(P:Pl):plC (setM k m ms) (setQ k P Q)=((plC ms Q).set (k * 2) (.map (some m))).set (k * 2 + 1) (.int .i64 (P.size:Int)):=by
  obtain rfl | rfl | rfl:k=0 ∨ k=1 ∨ k=2:=by omega
  all_goals rfl
theorem row_set {w:World}{O:Nat → Prop}{base g cap:Nat}{ms:Nat → Nat}{Q:Nat → Pl}(h:RF w O base 47 2 (.slice (some ⟨g,0,none⟩) 3 cap) 3 (plC ms Q))(k:Nat)(hk:k < 3)(m:Nat)(P:Pl) :
    RF ((w.setCell ⟨g,k * 2,none⟩ (.map (some m))).setCell ⟨g,k * 2 + 1,none⟩ (.int .i64 (P.size:Int))) O base 47 2 (.slice (some ⟨g,0,none⟩) 3 cap) 3 (plC (setM k m ms) (setQ k P Q)) ∧ Keeps (fun j => (Value.slice (some ⟨g,0,none⟩) 3 cap).ownBlock=some j) w ((w.setCell ⟨g,k * 2,none⟩ (.map (some m))).setCell ⟨g,k * 2 + 1,none⟩ (.int .i64 (P.size:Int))):=by
  obtain ⟨h1,h2⟩:=World.ownsRow.stored h.1 (k * 2) (.map (some m))
  obtain ⟨h3,h4⟩:=World.ownsRow.stored h1 (k * 2 + 1) (.int .i64 (P.size:Int))
  refine ⟨⟨?_,h.2⟩,?_⟩
  · rw [plC_set ms Q k hk m P]; exact h3
  · exact (grow_keeps (v:=Value.slice (some ⟨g,0,none⟩) 3 cap) h2).trans (grow_keeps (v:=Value.slice (some ⟨g,0,none⟩) 3 cap) h4)
theorem PQ.set {w:World}{O:Nat → Prop}{ms:Nat → Nat}{Q:Nat → Pl}(h:PQ w O ms Q)(k:Nat){m:Nat}{P:Pl}(hp:PF w O m P):PQ w O (setM k m ms) (setQ k P Q):=fun j hj => by
  by_cases e:j=k
  · subst e; rw [setM_at,setQ_at]; exact hp
  · rw [setM_ne e,setQ_ne e]; exact h j hj
theorem pread_at {w:World}{O:Nat → Prop}{ms:Nat → Nat}{Q:Nat → Pl}(h:PQ w O ms Q)(k:Nat)(hk:k < 3)(off size:Nat)(ho:off ≤ 9223372036854775807)(hs5:size ≤ 5000) :
    Calls Tryz.prog 20 #[.agg #[.map (some (ms k)),.int .i64 ((Q k).size:Int)],.int .i64 (off:Int),.int .i64 (size:Int)] w fun e w' => e=.returned (.string ⟨((Q k).rd off size).toArray⟩) ∧ Below w.heap.size w w':=by
  obtain ⟨lo,hi,G,C,D,h1,h2,_⟩:=(h k hk).ex
  exact pread_any w lo hi (ms k) (Q k) (h k hk).ok G C D h2 h1 off size ho hs5
theorem pcut_at {w:World}{O:Nat → Prop}{ms:Nat → Nat}{Q:Nat → Pl}(h:PQ w O ms Q)(hO:∀ j,O j → j < w.heap.size)(k:Nat)(hk:k < 3)(sz:Nat)(hs:sz ≤ 8459264) :
    Calls Tryz.prog 17 #[.agg #[.map (some (ms k)),.int .i64 ((Q k).size:Int)],.int .i64 (sz:Int)] w fun e w' => ∃ m':Nat,e=.returned (.agg #[.map (some m'),.int .i64 (((Q k).cut sz).size:Int)]) ∧ PF w' O m' ((Q k).cut sz) ∧ Below w.heap.size w w':=by
  obtain ⟨lo,hi,G,C,D,h1,h2,_⟩:=(h k hk).ex
  refine (pcut_any w lo hi (ms k) (Q k) (h k hk).ok G C D h2 h1 sz hs).mono ?_
  rintro e w' ⟨m',G',C',D',rfl,hpm,hb⟩
  exact ⟨m',rfl,PF.new (w:=w) (Pl.cut_ok (h k hk).ok sz hs) hpm hO,hb⟩
theorem pwrite_at {w:World}{O:Nat → Prop}{ms:Nat → Nat}{Q:Nat → Pl}(h:PQ w O ms Q)(hO:∀ j,O j → j < w.heap.size)(k:Nat)(hk:k < 3)(off m:Nat)(s:List UInt8)(hm:s.length=m)(ho:off + m ≤ 8459264)(h5:m ≤ 5000) :
    Calls Tryz.prog 14 #[.agg #[.map (some (ms k)),.int .i64 ((Q k).size:Int)],.int .i64 (off:Int),.string ⟨s.toArray⟩] w fun e w' => ∃ m':Nat,e=.returned (.agg #[.map (some m'),.int .i64 (((Q k).wr off s).size:Int)]) ∧ PF w' O m' ((Q k).wr off s) ∧ Below w.heap.size w w':=by
  obtain ⟨lo,hi,G,C,D,h1,h2,_⟩:=(h k hk).ex
  refine (pwrite_any w lo hi (ms k) (Q k) (h k hk).ok G C D h2 h1 off m s hm ho h5).mono ?_
  rintro e w' ⟨m',G',C',D',rfl,hpm,hb⟩
  exact ⟨m',rfl,PF.new (w:=w) (Pl.wr_ok (h k hk).ok off s (by omega)) hpm hO,hb⟩
theorem wrote_fit {c:Cx}{w w2:World}{O:Nat → Prop}{T:Tn}{n:Nat}{Q:Nat → Pl}{S:List Nat}{f:Nat}{P2:Pl}{e:Ending}(hd:FWrote c w O T n Q S f P2 e w2)(h:¬ n < takes3 (setQ f P2 Q) + dat n):FDone c w O T n Q S 40 f P2 0 e w2:=by
  rcases hd with hd | ⟨_,_,hd⟩
  · exact hd
  · exact absurd hd h
theorem wrote_full {c:Cx}{w w2:World}{O:Nat → Prop}{T:Tn}{n:Nat}{Q:Nat → Pl}{S:List Nat}{f:Nat}{P2:Pl}{e:Ending}(hd:FWrote c w O T n Q S f P2 e w2)(hn:Disk n)(h:n < takes3 (setQ f P2 Q) + dat n):e=.returned (.int .i64 90) ∧ ∃ O',TxnAt c w2 O' T ∧ Fr w O w2 O':=by
  rcases hd with ⟨_,O',T',X',L',S',_,_,hfs,_⟩ | ⟨he,hd,_⟩
  · have hq:=hfs.free hn
    have hq:freeIn (T'.view c.D) n (ino n - 98) + takes3 (setQ f P2 Q) + dat n=n:=hq
    omega
  · exact ⟨he,hd⟩
theorem row_keep {w:World}{g k:Nat}{v u:Value}{b o:Nat}{cv:Value}(hne:b ≠ g)(h:w.cell? ⟨b,o,none⟩=some cv):((w.setCell ⟨g,k * 2,none⟩ v).setCell ⟨g,k * 2 + 1,none⟩ u).cell? ⟨b,o,none⟩=some cv:=by
  refine (World.cell?_of_block (a:=⟨b,o,none⟩) ?_).trans h
  rw [(keeps_set (w.setCell ⟨g,k * 2,none⟩ v) g (k * 2 + 1) u).block b ?_ hne,(keeps_set w g (k * 2) v).block b (block_lt_of_cell h) hne]
  exact Nat.lt_of_lt_of_le (block_lt_of_cell h) (keeps_set w g (k * 2) v).size
section
variable {n:Nat}{w0:World}{B a d gb:Nat}{nv ov:Value}{cs:List Value}{ol i:Nat}{w w2:World}{c:Cx}{O:Nat → Prop}{T:Tn}{X:Nat → Ino}{L:Nat → Nat → Nat}{Q:Nat → Pl}{S:List Nat}
theorem Loop.base (h:Loop n w0 B a d gb nv ov cs ol i w c O T X L Q S):B ≤ w.heap.size:=by
  have h1:=h.hold.bt
  have h2:=h.hold.env.tx.lt _ h.hold.env.tx.own
  have h3:=h.cx.1
  omega
theorem Loop.fr (h:Loop n w0 B a d gb nv ov cs ol i w c O T X L Q S)(hB:w0.heap.size ≤ B){O':Nat → Prop}{T':Tn}{X':Nat → Ino}{L':Nat → Nat → Nat}{Q':Nat → Pl}{S':List Nat}(ht:TxnAt c w2 O' T')(hf:Fr w O w2 O')(hfs:FsIn n (T'.view c.D) X' L' Q')(hc:T'.Cov S')(hs:S'.length ≤ 90)(hh:T'.H.length ≤ T.H.length + 20000) :
    Loop n w0 B a d gb nv ov cs ol (i + 1) w2 c O' T' X' L' Q' S':=by
  have hb:=h.base
  refine ⟨((h.hold.done ht hf hfs hc (hb2:=20000 * (i + 1) + 3) (by have:=h.hold.hist; omega)).mono (Nat.le_refl _) (by omega)),hs,h.cx,fun j hj => ?_,h.nums.away (by decide) (Away.fr hf),h.geo.away (by decide) (Away.fr hf),h.ops.away (by decide) (Away.fr hf),h.below.trans (hf.below h.below.size (fun j hj => Nat.le_trans hB (h.low j hj)))⟩
  rcases hf.2 j hj with o | o
  · exact h.low j o
  · omega
theorem sw_done (h:Loop n w0 B a d gb nv ov cs ol i w c O T X L Q S)(hB:w0.heap.size ≤ B){k m:Nat}{S1:List Nat}(hm:S1.length + m ≤ 90){P2:Pl}{code:Nat}{e:Ending}(hd:FDone c w O T n Q S1 m k P2 (code:Int) e w2){lv nxt:Value}{ms2:Nat → Nat}
    (hr:RF w O w0.heap.size 47 2 (if code=0 then nxt else lv) 3 (plC ms2 (setQ k P2 Q)))(hp:PQ w O ms2 (setQ k P2 Q)) :
    e=.returned (.int .i64 (code:Int)) ∧ Switched n w0 B a d gb nv ov cs ol i lv nxt (.pointer (some ⟨c.t,0,none⟩)) (.int .i64 (code:Int)) (.int .i64 (code:Int)) w2:=by
  obtain ⟨he,O',T',X',L',S',ht,hf,hfs,hc,hs,hh⟩:=hd
  refine ⟨he,c,O',T',X',L',setQ k P2 Q,S',ms2,code,rfl,rfl,rfl,h.fr hB ht hf hfs hc (by omega) hh,hr.away (by decide) (Away.fr hf),hp.fr hf⟩
theorem sw_full (h:Loop n w0 B a d gb nv ov cs ol i w c O T X L Q S)(hB:w0.heap.size ≤ B){O':Nat → Prop}(ht:TxnAt c w2 O' T)(hf:Fr w O w2 O'){lv nxt:Value}{ms:Nat → Nat}{code:Nat}(hc:code ≠ 0)
    (hr:RF w O w0.heap.size 47 2 lv 3 (plC ms Q))(hp:PQ w O ms Q) :
    Switched n w0 B a d gb nv ov cs ol i lv nxt (.pointer (some ⟨c.t,0,none⟩)) (.int .i64 (code:Int)) (.int .i64 (code:Int)) w2 :=
  ⟨c,O',T,X,L,Q,S,ms,code,rfl,rfl,rfl,h.fr hB ht hf h.hold.fs h.hold.cov h.s90 (by omega),by rw [if_neg hc]; exact hr.away (by decide) (Away.fr hf),hp.fr hf⟩
theorem sw_same (h:Loop n w0 B a d gb nv ov cs ol i w c O T X L Q S)(hB:w0.heap.size ≤ B)(hb:Below w.heap.size w w2){lv nxt:Value}{ms:Nat → Nat}{code:Nat}
    (hr:RF w2 O w0.heap.size 47 2 (if code=0 then nxt else lv) 3 (plC ms Q))(hp:PQ w O ms Q) :
    Switched n w0 B a d gb nv ov cs ol i lv nxt (.pointer (some ⟨c.t,0,none⟩)) (.int .i64 (code:Int)) (.int .i64 (code:Int)) w2 :=
  ⟨c,O,T,X,L,Q,S,ms,code,rfl,rfl,rfl,h.fr hB (h.hold.later hb).env.tx (Fr.of_below hb) h.hold.fs h.hold.cov h.s90 (by omega),hr,hp.later hb⟩
theorem sw_cells {lg lc nb nc bx:Nat}{ms:Nat → Nat}{z z1 z2 z3 z4:Int}(h:Loop n w0 B a d gb (.slice (some ⟨nb,0,none⟩) 3 nc) ov cs ol i w c O T X L Q S)(hr:RF w O w0.heap.size 47 2 (.slice (some ⟨lg,0,none⟩) 3 lc) 3 (plC ms Q))(hx:Is w bx 49 #[.int .i64 z,.int .i64 z1,.int .i64 z2,.int .i64 z3,.int .i64 z4])(k:Nat)(hk:k < 3) :
    SwCells n gb nb lg bx k (k + 2) (ms k) (Q k).size z z1 z2 z3 z4 w:=by
  refine ⟨geo5 h.geo.1,?_,⟨hx.cell 0,hx.cell 1,hx.cell 2,hx.cell 3,hx.cell 4⟩,(PRow.cell hr.1 k hk).1,(PRow.cell hr.1 k hk).2⟩
  rw [World.ownsRow.cellAt h.nums.1 k (by omega)]
  obtain rfl | rfl | rfl:k=0 ∨ k=1 ∨ k=2:=by omega
  all_goals rfl
theorem told_hold {hb m:Nat}{ms:Nat → Nat}(w:World)(h:Hold n hb m w c O T X L Q S)(hp:PQ w O ms Q)(k:Nat)(hk:k < 3) :
    Calls Tryz.prog 23 #[.pointer (some ⟨c.t,0,none⟩),geoV n,.int .i64 ((k + 2:Nat):Int),.agg #[.map (some (ms k)),.int .i64 ((Q k).size:Int)]] w fun e w' => e=.returned (.bool true) ∧ Below w.heap.size w w':=by
  obtain ⟨lo,hi,G,C,D,h1,h2,_⟩:=(hp k hk).ex
  exact told_any c w O T n h.env X L Q h.fs k hk lo hi (ms k) G C D h2 h1
theorem lcommit_any (h:Loop n w0 B a d gb nv ov cs ol i w c O T X L Q S)(hB:w0.heap.size ≤ B)(hi:i ≤ 40) :
    Calls Tryz.prog 21 #[.pointer (some ⟨c.t,0,none⟩)] w fun e w' => e=.returned (.int .i64 0) ∧ ∃ F D,Laid n (200 * i + 200) w' B a d F D X L Q ∧ Away w w' O F ∧ Below w0.heap.size w0 w':=by
  obtain ⟨base,a1,d1,t,b,N,D⟩:=c
  obtain ⟨c1,c2,c3⟩:=h.cx
  have c1:base=B:=c1
  have c2:a1=a:=c2
  have c3:d1=d:=c3
  subst c1 c2 c3
  have hN:N=n:=h.hold.env.hN
  subst hN
  obtain ⟨g1,g2,g3,g4⟩:=geo_facts h.hold.env.hn
  refine (tcommit_any base a1 d1 t b N D w O T h.hold.env.tx (by omega) h.hold.bt S h.hold.cov (by have:=h.s90; omega) h.hold.env.wd h.hold.half (by have:D.n ≤ 200 * i:=h.hold.rest.n; omega)).mono ?_
  rintro e w' ⟨ws,hp,rfl,hd,kt⟩
  obtain ⟨r1,F,hl,ha⟩:=h.hold.commit (w2:=w') hp hd kt
  have r1:(D.does (csteps ws)).2=0:=r1
  refine ⟨by rw [r1],F,_,hl,ha,h.below.trans ⟨kt.os,kt.tape,kt.output,kt.size,fun k hk => ?_⟩⟩
  have hs:=h.below.size
  exact kt.block k (by omega) (.inl (by omega))
theorem lbegin_any {m:Nat}{F:Nat → Prop}{D:Dk}(h:Laid n m w B a d F D X L Q) :
    Calls Tryz.prog 9 #[.pointer (some ⟨d,0,none⟩)] w fun e w' => ∃ (c:Cx) (O:Nat → Prop) (T:Tn),e=.returned (.pointer (some ⟨c.t,0,none⟩)) ∧ Hold n 0 m w' c O T X L Q [] ∧ (c.base=B ∧ c.a=a ∧ c.d=d) ∧ (∀ j,O j → B ≤ j) ∧ Away w w' F O ∧ Below w.heap.size w w':=by
  refine (tbegin_any B a d n D F w h.typed h.disk h.rest.up h.rest.len).mono ?_
  rintro e w' ⟨t,b,rfl,ht,h1,h2,hb⟩
  obtain ⟨q1,q2⟩:=h.begin ht h1 h2 hb
  refine ⟨_,_,_,rfl,q1,⟨rfl,rfl,rfl⟩,fun j hj => ?_,q2,hb⟩
  have:=h.top
  rcases hj with o | o | o
  · exact h.low j o
  · omega
  · omega
theorem sw_begun {w3:World}(h:Loop n w0 B a d gb nv ov cs ol i w c O T X L Q S){m:Nat}(hm:m ≤ 200 * i + 200){F:Nat → Prop}(ha:Away w w2 O F)(hb:Below w0.heap.size w0 w2){c2:Cx}{O2:Nat → Prop}{T2:Tn}(hh:Hold n 0 m w3 c2 O2 T2 X L Q [])(hc:c2.base=B ∧ c2.a=a ∧ c2.d=d)(hl:∀ j,O2 j → B ≤ j)
    (ha2:Away w2 w3 F O2)(hb2:Below w2.heap.size w2 w3){lv nxt:Value}{ms:Nat → Nat}(hr:RF w O w0.heap.size 47 2 nxt 3 (plC ms Q))(hp:PQ w O ms Q) :
    Switched n w0 B a d gb nv ov cs ol i lv nxt (.pointer (some ⟨c2.t,0,none⟩)) (.int .i64 ((0:Nat):Int)) (.int .i64 ((0:Nat):Int)) w3:=by
  have hA:=ha.trans ha2
  refine ⟨c2,O2,T2,X,L,Q,[],ms,0,rfl,rfl,rfl,⟨hh.mono (Nat.zero_le _) (by omega),Nat.zero_le _,hc,hl,h.nums.away (by decide) hA,h.geo.away (by decide) hA,h.ops.away (by decide) hA,hb.trans (hb2.mono hb.size)⟩,by rw [if_pos rfl]; exact hr.away (by decide) hA,hp.away hA⟩
end
end Go.Proofs.YthkijogloebdoaaGreatDoor
end
