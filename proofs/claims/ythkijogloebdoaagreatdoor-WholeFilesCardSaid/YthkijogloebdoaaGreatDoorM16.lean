/-
  WholeFiles, the texts Pr Ps Sa Pma Fr1 Fr2 Wfa: lemmas for the proof that three files on one disk are plain rows of bytes. No conditions.
-/
import Derived.Test.YthkijogloebdoaaGreatDoorM15
import Derived.Test.YthkijogloebdoaaGreatDoorM11
import Derived.Test.YthkijogloebdoaaGreatDoorM03
import Derived.Test.YthkijogloebdoaaGreatDoorM10
import Derived.Test.YthkijogloebdoaaGreatDoorM13
import Derived.Test.YthkijogloebdoaaGreatDoorM12
import Derived.Test.YthkijogloebdoaaGreatDoorM14
import Derived.Test.YthkijogloebdoaaGreatDoorM07
import Derived.Test.YthkijogloebdoaaGreatDoorM09
import Derived.Test.YthkijogloebdoaaGreatDoorM08
set_option linter.unusedVariables false
set_option linter.unusedSimpArgs false
section
namespace Go.Proofs.YthkijogloebdoaaGreatDoor
open Go.RowKit Go.Maps Rec Gp Fs
theorem pn_in (w:World)(d:Nat)(ad:Addr)(n c:Nat):(Op.equalIn (d + 1) 28 (.slice (some ad) n c) (.slice none 0 0)).run Tryz.prog w=.ok false w:=by
  simp [Op.equalIn,run_underlying Tryz.underlying28]
theorem pn_in0 (w:World)(d:Nat):(Op.equalIn (d + 1) 28 (.slice none 0 0) (.slice none 0 0)).run Tryz.prog w=.ok true w:=by
  simp [Op.equalIn,run_underlying Tryz.underlying28]
theorem pn_eql (w:World)(ad:Addr)(n c:Nat):(binOp .eql 28 (.slice (some ad) n c) (.slice none 0 0)).run Tryz.prog w=.ok (.bool false) w:=by
  have h:=pn_in w 9999 ad n c
  show (do pure (.bool (← Op.equal 28 (.slice (some ad) n c) (.slice none 0 0))):Sem Value).run Tryz.prog w=_
  rw [Sem.run_bind]
  show ((Op.equalIn (9999 + 1) 28 (.slice (some ad) n c) (.slice none 0 0)).run Tryz.prog w).andThen _=_
  rw [h]
  rfl
theorem pn_eql0 (w:World):(binOp .eql 28 (.slice none 0 0) (.slice none 0 0)).run Tryz.prog w=.ok (.bool true) w:=by
  have h:=pn_in0 w 9999
  show (do pure (.bool (← Op.equal 28 (.slice none 0 0) (.slice none 0 0))):Sem Value).run Tryz.prog w=_
  rw [Sem.run_bind]
  show ((Op.equalIn (9999 + 1) 28 (.slice none 0 0) (.slice none 0 0)).run Tryz.prog w).andThen _=_
  rw [h]
  rfl
theorem pn_neq (w:World)(ad:Addr)(n c:Nat):(binOp .neq 28 (.slice (some ad) n c) (.slice none 0 0)).run Tryz.prog w=.ok (.bool true) w:=by
  have h:=pn_in w 9999 ad n c
  show (do pure (.bool (!(← Op.equal 28 (.slice (some ad) n c) (.slice none 0 0)))):Sem Value).run Tryz.prog w=_
  rw [Sem.run_bind]
  show ((Op.equalIn (9999 + 1) 28 (.slice (some ad) n c) (.slice none 0 0)).run Tryz.prog w).andThen _=_
  rw [h]
  rfl
theorem pn_neq0 (w:World):(binOp .neq 28 (.slice none 0 0) (.slice none 0 0)).run Tryz.prog w=.ok (.bool false) w:=by
  have h:=pn_in0 w 9999
  show (do pure (.bool (!(← Op.equal 28 (.slice none 0 0) (.slice none 0 0)))):Sem Value).run Tryz.prog w=_
  rw [Sem.run_bind]
  show ((Op.equalIn (9999 + 1) 28 (.slice none 0 0) (.slice none 0 0)).run Tryz.prog w).andThen _=_
  rw [h]
  rfl
theorem keeps_drew_set (w:World)(g k:Nat)(v:Value):Keeps (fun i => i=g) w (w.drew.setCell ⟨g,k,none⟩ v) :=
  have h:=keeps_set w.drew g k v
  ⟨h.os,h.tape,h.output,h.size,fun i hi hn => h.block i hi hn⟩
theorem elV_none {B:Nat → Option (List UInt8)}{G C:Nat → Nat}{i:Nat}(h:B i=none):elV B G C i=.slice none 0 0:=by unfold elV; rw [h]; rfl
theorem elV_some {B:Nat → Option (List UInt8)}{G C:Nat → Nat}{i:Nat}{l:List UInt8}(h:B i=some l):elV B G C i=.slice (some ⟨G i,0,none⟩) 512 (C i):=by unfold elV; rw [h]; rfl
theorem updB_self {B:Nat → Option (List UInt8)}{i:Nat}{l:List UInt8}(h:B i=some l):updB B i (some l)=B:=by
  funext j
  unfold updB
  split
  · rename_i e; rw [e,h]
  · rfl
theorem updB_updB (B:Nat → Option (List UInt8))(i:Nat)(u v:Option (List UInt8)):updB (updB B i u) i v=updB B i v:=by
  funext j
  unfold updB
  split <;> rfl
theorem spliced_one (l:List UInt8)(k:Nat)(b:UInt8)(h:k < l.length):spliced l k [b]=l.set k b:=by
  unfold spliced
  rw [List.set_eq_take_append_cons_drop,if_pos h]
  simp
theorem str_index (s:List UInt8)(j:Nat)(hj:j < s.length)(X:World):(Instr.index 9 (.string ⟨s.toArray⟩) (.int .i64 (j:Int))).run Tryz.prog X=.ok (.int .u8 (n8 s[j])) X:=by
  have hs:(⟨s.toArray⟩:ByteArray).size=s.length:=by show s.toArray.size=s.length; simp
  rw [run_index_string X 9 _ _ _ Tryz.underlying9,dif_pos ⟨by omega,by rw [hs]; omega⟩]
  rfl
set_option maxRecDepth 100000 in
set_option maxHeartbeats 3200000 in
theorem pwrite_any (w:World)(lo hi m:Nat)(P:Pl)(hP:P.Ok)(G C:Nat → Nat)(D:DataW Value)(h:PM w lo hi m P.B G C D)(hhi:hi ≤ w.heap.size)(off n:Nat)(s:List UInt8)(hn:s.length=n)(ho:off + n ≤ 8459264)(hn5:n ≤ 5000) :
    Calls Tryz.prog 14 #[.agg #[.map (some m),.int .i64 (P.size:Int)],.int .i64 (off:Int),.string ⟨s.toArray⟩] w fun e w' =>
      ∃ (m':Nat) (G' C':Nat → Nat) (D':DataW Value),e=.returned (.agg #[.map (some m'),.int .i64 ((P.wr off s).size:Int)]) ∧ PM w' w.heap.size w'.heap.size m' (P.wr off s).B G' C' D' ∧ Below w.heap.size w w':=by
  obtain ⟨sz,hsz⟩:∃ sz,P.size=sz:=⟨_,rfl⟩
  have hszP:=hP.size
  rw [hsz] at hszP ⊢
  obtain ⟨hb0,i0,i1⟩:=two_new w #[.map (some m),.int .i64 (sz:Int)] #[.map none,.int .i64 0] 47 47
  obtain ⟨W,hW⟩:∃ W,(w.alloc (.cells #[.map (some m),.int .i64 (sz:Int)] 47)).alloc (.cells #[.map none,.int .i64 0] 47)=W:=⟨_,rfl⟩
  have hz1:W.heap.size=w.heap.size + 2:=by rw [← hW]; simp [World.size_alloc]
  rw [hW] at hb0 i0 i1
  have c0:W.cell? ⟨w.heap.size,0,none⟩=some (.map (some m)):=i0.cell 0
  have c1:W.cell? ⟨w.heap.size,1,none⟩=some (.int .i64 (sz:Int)):=i0.cell 1
  have HCP:=Lib.hid (copied_any W lo hi m P.B G C D sz (h.below hb0 hhi) (by omega))
  have HI1:=Lib.hid i1
  have HB0:=Lib.hid hb0
  obtain ⟨bs,hbs⟩:∃ bs:ByteArray,(⟨s.toArray⟩:ByteArray)=bs:=⟨_,rfl⟩
  have hszb:bs.size=n:=by rw [← hbs,← hn]; show s.toArray.size=s.length; simp
  have HBS:=Lib.hid (And.intro hbs hn)
  rw [hbs]
  clear i0 i1 hb0 h hbs hn
  go_enter Tryz.func14,Tryz.ntmps14
  go_wp2_with (first
    | (go_at_call 31
       refine HCP.out.mono ?_
       rintro e w1 ⟨m1,G1,C1,D1,rfl,hp1,hb1⟩
       have hs1:=hb1.size
       have hb2:=below_new w1 (.cells #[.map (some m1),.int .i64 (sz:Int)] 47)
       have i2:=Is.new w1 47 #[.map (some m1),.int .i64 (sz:Int)]
       have hm1:=hp1.m0
       have hm2:=hp1.m1
       obtain ⟨r,hr⟩:∃ r,w1.heap.size=r:=⟨_,rfl⟩
       have hz2:(w1.alloc (.cells #[.map (some m1),.int .i64 (sz:Int)] 47)).heap.size=r + 1:=by rw [World.size_alloc,hr]
       have i1':=(HI1.out.below hb1 HI1.out.lt).below hb2 (by have:=HI1.out.lt; omega)
       have hp2:=(hp1.below hb2 (Nat.le_refl _)).wide (lo2:=w.heap.size + 2) (hi2:=r + 1) (by omega) (by omega)
       have hgr:∀ i,(P.B i).isSome=true → G1 i ≠ r:=fun i hi => by
         cases hb:P.B i with
         | none => rw [hb] at hi; cases hi
         | some l => have:=(hp1.yes i l hb).2.2.2.2.1; omega
       have hbb:Below w.heap.size w _:=HB0.out.trans ((hb1.mono (by omega)).trans (hb2.mono (by omega)))
       obtain ⟨W2,hW2⟩:∃ W2,w1.alloc (.cells #[.map (some m1),.int .i64 (sz:Int)] 47)=W2:=⟨_,rfl⟩
       rw [hW2] at hz2 i2 i1' hp2 hbb
       rw [hr] at i2
       have HI1:=Lib.hid i1'
       have HI2:=Lib.hid i2
       have HP2:=Lib.hid hp2
       have HGR:=Lib.hid hgr
       have HBB:=Lib.hid hbb
       clear hb1 hb2 hp1 i2 i1' hp2 hgr hbb))
  go_loopw [8] (fun iv wr => ∃ (j:Nat) (G' C':Nat → Nat) (D':DataW Value),iv=.int .i64 (j:Int) ∧ j ≤ n ∧ PM wr (w.heap.size + 2) wr.heap.size m1 (P.wrB off (s.take j)) G' C' D' ∧ Is wr (w.heap.size + 1) 47 #[.map none,.int .i64 0] ∧ Is wr r 47 #[.map (some m1),.int .i64 (sz:Int)] ∧ Below w.heap.size w wr ∧ r < wr.heap.size ∧ (∀ i,(P.wrB off (s.take j) i).isSome=true → G' i ≠ r))
    (fun iv _ => n - (intOf iv).toNat)
  case atStart =>
    have e0:P.wrB off (s.take 0)=P.B:=by rw [List.take_zero]; exact P.wrB_nil off
    exact ⟨0,_,_,_,rfl,Nat.zero_le _,(HP2.out.cast e0).wide (Nat.le_refl _) (by omega),HI1.out,HI2.out,HBB.out,by omega,fun i hi => by rw [e0] at hi; exact HGR.out i hi⟩
  case round =>
    obtain ⟨j,G2,C2,D2,rfl,hjn,hpm,hi1,hi2,hbw,hrw,hgr⟩:=hrel
    have HP:=Lib.hid hpm
    have HJ1:=Lib.hid hi1
    have HJ2:=Lib.hid hi2
    have HBW:=Lib.hid hbw
    have HGR2:=Lib.hid hgr
    clear hpm hi1 hi2 hbw hgr
    have c2:wr.cell? ⟨r,0,none⟩=some (.map (some m1)):=HJ2.out.cell 0
    have c3:wr.cell? ⟨r,1,none⟩=some (.int .i64 (sz:Int)):=HJ2.out.cell 1
    by_cases hjl:j < n
    · have hlt:(j:Int) < (n:Int):=by omega
      obtain ⟨k,hk⟩:∃ k,(off + j) / 512=k:=⟨_,rfl⟩
      obtain ⟨fr,hfr⟩:∃ fr,(off + j) % 512=fr:=⟨_,rfl⟩
      have hfr5:fr < 512:=by omega
      have hk5:k < 16522:=by omega
      have u1:=i64_wr ((off:Int) + (j:Int)) (by omega)
      have u2:((off:Int) + (j:Int)) / 512=(k:Int):=by omega
      have u3:((off:Int) + (j:Int)) % 512=(fr:Int):=by omega
      have u4:=i64_wr ((j:Int) + 1) (by omega)
      have q1:=pn_eql
      have q2:=pn_eql0
      have HAR:=Lib.hid (And.intro hk hfr)
      clear hk hfr
      cases hbk:P.wrB off (s.take j) k with
      | none =>
        have hlk:=HP.out.look k (by omega) wr rfl
        rw [elV_none hbk] at hlk
        go_upto_region 7 with fail
        rw [u2]
        obtain ⟨x0,hx0⟩:∃ x0,wr.alloc (.cells (u8s nil512) 5)=x0:=⟨_,rfl⟩
        have hbx:=below_new wr (.cells (u8s nil512) 5)
        have hrx:=RwU.of_is (Is.new wr 5 (u8s nil512))
        have hzx:(wr.alloc (.cells (u8s nil512) 5)).heap.size=wr.heap.size + 1:=World.size_alloc _ _
        rw [hx0] at hbx hrx hzx
        have c2x:x0.cell? ⟨r,0,none⟩=some (.map (some m1)):=(hbx.cell (p:=⟨r,0,none⟩) hrw).trans c2
        obtain ⟨w6,D6,hst,hp6,hg6,hs6⟩:=((HP.out.below hbx (Nat.le_refl _)).agree (w2:=x0.drew) (fun _ _ _ => rfl)).store k hk5 wr.heap.size 512 nil512 hrx.drew nil512_len (Nat.le_refl _) (hi2:=wr.heap.size + 1) (by omega)
        have hmk:=fun X:World => run_make512 X
        go_region
        go_upto_region 8 with fail
        obtain ⟨l6,hl6⟩:∃ l6,(P.wrB off (s.take j) k).getD Fs.blank=l6:=⟨_,rfl⟩
        have hl6b:nil512=l6:=by rw [← hl6,hbk]; rfl
        rw [hl6b] at hp6
        obtain ⟨G6,hG6⟩:∃ G6,upd1 G2 k wr.heap.size=G6:=⟨_,rfl⟩
        obtain ⟨C6,hC6⟩:∃ C6,upd1 C2 k 512=C6:=⟨_,rfl⟩
        rw [hG6,hC6] at hp6
        have hp6:=hp6.wide (Nat.le_refl _) (show wr.heap.size + 1 ≤ w6.heap.size by rw [hs6]; exact Nat.le_of_eq hzx.symm)
        have k6:Keeps (fun i => i=m1 ∨ wr.heap.size ≤ i ∨ i=G6 k) wr w6:=by
          have k1:Keeps (fun i => i=m1 ∨ wr.heap.size ≤ i ∨ i=G6 k) wr x0:=⟨hbx.os,hbx.tape,hbx.output,hbx.size,fun i hi _ => hbx.block i hi⟩
          exact ⟨hg6.os.trans k1.os,hg6.tape.trans k1.tape,hg6.output.trans k1.output,Nat.le_trans k1.size hg6.size,fun i hi hn => (hg6.block i (Nat.lt_of_lt_of_le hi k1.size) (fun e => hn (by injection e with e; exact .inl e))).trans (k1.block i hi hn)⟩
        have c6:w6.cell? ⟨r,0,none⟩=some (.map (some m1)):=by
          rw [World.cell?_of_block (hg6.block r (by show r < x0.heap.size; omega) (fun e => by injection e with e; omega))]; exact c2x
        have hgr6:∀ i,(updB (P.wrB off (s.take j)) k (some l6) i).isSome=true → G6 i ≠ r:=fun i hi => by
          rw [← hG6]
          by_cases ei:i=k
          · rw [ei,upd1_same]; omega
          · rw [upd1_other _ _ _ ei]
            rw [updB_other _ _ _ ei] at hi
            exact HGR2.out i hi
        obtain ⟨_,hl5,_,hgl,_,hrw6,_⟩:=hp6.yes k l6 (updB_same _ _ _)
        have hlk6:=hp6.look k (by omega) w6.drew rfl
        rw [elV_some (updB_same _ k (some l6))] at hlk6
        have cc:=hrw6.cell (k:=fr) (by omega)
        have ff:=hrw6.free fr
        have hjs:j < s.length:=by rw [HBS.out.2]; exact hjl
        have hix:=fun X => str_index s j hjs X
        rw [HBS.out.1] at hix
        obtain ⟨b8,hb8⟩:∃ b8,s[j]=b8:=⟨_,rfl⟩
        rw [hb8] at hix
        have hp6d:PM w6.drew (w.heap.size + 2) w6.heap.size m1 (updB (P.wrB off (s.take j)) k (some l6)) G6 C6 D6:=hp6.agree (fun _ _ _ => rfl)
        have hset:=hp6d.set k fr l6 (updB_same _ _ _) b8
        have hB:P.wrB off (s.take (j + 1))=updB (updB (P.wrB off (s.take j)) k (some l6)) k (some (l6.set fr b8)):=by
          rw [updB_updB,Pl.wr_step hP off s j 1 k fr (by have:=HAR.out; omega) (by omega) (Nat.le_refl _) (by omega),hl6]
          funext k2
          unfold updB
          rw [show (s.drop j).take 1=[b8] by rw [List.drop_eq_getElem_cons hjs,hb8]; rfl,spliced_one l6 fr b8 (by omega)]
        have hkk:=k6.trans ((keeps_drew_set w6 (G6 k) fr (.int .u8 (n8 b8))).mono (T:=fun i => i=m1 ∨ wr.heap.size ≤ i ∨ i=G6 k) (fun i e => .inr (.inr e)))
        have HSET:=Lib.hid (hset.cast hB)
        have HK:=Lib.hid hkk
        have hs6:=hkk.size
        have HG6:=Lib.hid hgr6
        have HL:=Lib.hid hl6
        have HBQ:=Lib.hid hB
        have hsz6:=(keeps_drew_set w6 (G6 k) fr (.int .u8 (n8 b8))).size
        have HZ6:=Lib.hid hsz6
        have hgk:G6 k ≠ r:=hgr6 k (by rw [updB_same]; rfl)
        clear hset hkk hgr6 hp6 hp6d k6 hl6 hB hsz6
        go_region
        go_wp2_with fail
        go_roundw
        case rel =>
          have hz6:=HZ6.out
          have hJ1:=HJ1.out.keeps HK.out (fun e => by rcases e with e | e | e <;> omega)
          have hJ2:=HJ2.out.keeps HK.out (fun e => by rcases e with e | e | e <;> omega)
          refine ⟨j + 1,G6,C6,D6,by rw [show ((j:Int) + 1)=((j + 1:Nat):Int) by omega],by omega,HSET.out.wide (Nat.le_refl _) hz6,hJ1,hJ2,HBW.out.trans (HK.out.below (by omega) (fun i e => by rcases e with e | e | e <;> omega)),by show r < (w6.drew.setCell ⟨G6 k,fr,none⟩ (.int .u8 (n8 b8))).heap.size; omega,fun i hi => ?_⟩
          rw [HBQ.out] at hi
          by_cases ei:i=k
          · rw [ei]; exact hgk
          · rw [updB_other _ _ _ ei] at hi
            exact HG6.out i hi
        case measure =>
          show n - ((j:Int) + 1).toNat < n - ((j:Int)).toNat
          omega
      | some l =>
        have hlk:=HP.out.look k (by omega) wr rfl
        rw [elV_some hbk] at hlk
        go_upto_region 8 with fail
        rw [u2]
        obtain ⟨l6,hl6⟩:∃ l6,(P.wrB off (s.take j) k).getD Fs.blank=l6:=⟨_,rfl⟩
        have hl6b:l=l6:=by rw [← hl6,hbk]; rfl
        obtain ⟨w6,hw6⟩:∃ w6,wr=w6:=⟨_,rfl⟩
        have hp6:=HP.out.cast (updB_self hbk)
        have c6:=c2
        have hgr6:∀ i,(updB (P.wrB off (s.take j)) k (some l) i).isSome=true → G2 i ≠ r:=by rw [updB_self hbk]; exact HGR2.out
        rw [hl6b] at hp6 hgr6
        obtain ⟨G6,hG6⟩:∃ G6,G2=G6:=⟨_,rfl⟩
        obtain ⟨C6,hC6⟩:∃ C6,C2=C6:=⟨_,rfl⟩
        obtain ⟨D6,hD6⟩:∃ D6,D2=D6:=⟨_,rfl⟩
        rw [hG6,hC6,hD6,hw6] at hp6
        have k6:Keeps (fun i => i=m1 ∨ wr.heap.size ≤ i ∨ i=G6 k) wr w6:=by rw [← hw6]; exact Keeps.refl _ _
        rw [hG6] at hgr6
        rw [hw6] at c6 ⊢
        obtain ⟨_,hl5,_,hgl,_,hrw6,_⟩:=hp6.yes k l6 (updB_same _ _ _)
        have hlk6:=hp6.look k (by omega) w6.drew rfl
        rw [elV_some (updB_same _ k (some l6))] at hlk6
        have cc:=hrw6.cell (k:=fr) (by omega)
        have ff:=hrw6.free fr
        have hjs:j < s.length:=by rw [HBS.out.2]; exact hjl
        have hix:=fun X => str_index s j hjs X
        rw [HBS.out.1] at hix
        obtain ⟨b8,hb8⟩:∃ b8,s[j]=b8:=⟨_,rfl⟩
        rw [hb8] at hix
        have hp6d:PM w6.drew (w.heap.size + 2) w6.heap.size m1 (updB (P.wrB off (s.take j)) k (some l6)) G6 C6 D6:=hp6.agree (fun _ _ _ => rfl)
        have hset:=hp6d.set k fr l6 (updB_same _ _ _) b8
        have hB:P.wrB off (s.take (j + 1))=updB (updB (P.wrB off (s.take j)) k (some l6)) k (some (l6.set fr b8)):=by
          rw [updB_updB,Pl.wr_step hP off s j 1 k fr (by have:=HAR.out; omega) (by omega) (Nat.le_refl _) (by omega),hl6]
          funext k2
          unfold updB
          rw [show (s.drop j).take 1=[b8] by rw [List.drop_eq_getElem_cons hjs,hb8]; rfl,spliced_one l6 fr b8 (by omega)]
        have hkk:=k6.trans ((keeps_drew_set w6 (G6 k) fr (.int .u8 (n8 b8))).mono (T:=fun i => i=m1 ∨ wr.heap.size ≤ i ∨ i=G6 k) (fun i e => .inr (.inr e)))
        have HSET:=Lib.hid (hset.cast hB)
        have HK:=Lib.hid hkk
        have hs6:=hkk.size
        have HG6:=Lib.hid hgr6
        have HL:=Lib.hid hl6
        have HBQ:=Lib.hid hB
        have hsz6:=(keeps_drew_set w6 (G6 k) fr (.int .u8 (n8 b8))).size
        have HZ6:=Lib.hid hsz6
        have hgk:G6 k ≠ r:=hgr6 k (by rw [updB_same]; rfl)
        clear hset hkk hgr6 hp6 hp6d k6 hl6 hB hsz6
        go_region
        go_wp2_with fail
        go_roundw
        case rel =>
          have hz6:=HZ6.out
          have hJ1:=HJ1.out.keeps HK.out (fun e => by rcases e with e | e | e <;> omega)
          have hJ2:=HJ2.out.keeps HK.out (fun e => by rcases e with e | e | e <;> omega)
          refine ⟨j + 1,G6,C6,D6,by rw [show ((j:Int) + 1)=((j + 1:Nat):Int) by omega],by omega,HSET.out.wide (Nat.le_refl _) hz6,hJ1,hJ2,HBW.out.trans (HK.out.below (by omega) (fun i e => by rcases e with e | e | e <;> omega)),by show r < (w6.drew.setCell ⟨G6 k,fr,none⟩ (.int .u8 (n8 b8))).heap.size; omega,fun i hi => ?_⟩
          rw [HBQ.out] at hi
          by_cases ei:i=k
          · rw [ei]; exact hgk
          · rw [updB_other _ _ _ ei] at hi
            exact HG6.out i hi
        case measure =>
          show n - ((j:Int) + 1).toNat < n - ((j:Int)).toNat
          omega
    · have hje:j=n:=by omega
      subst hje
      have hnlt:¬ (j:Int) < (j:Int):=by omega
      have c4:wr.cell? ⟨w.heap.size + 1,0,none⟩=some (.map none):=HJ1.out.cell 0
      have c5:wr.cell? ⟨w.heap.size + 1,1,none⟩=some (.int .i64 0):=HJ1.out.cell 1
      have f3:=HJ2.out.free 1
      have f4:=HJ1.out.free 0
      have f5:=HJ1.out.free 1
      have hne1:¬ (w.heap.size + 1=r):=by omega
      have hne2:¬ (r=w.heap.size + 1):=by omega
      have hwr:P.wrB off (s.take j)=(P.wr off s).B:=by rw [← HBS.out.2,List.take_length]; rfl
      have key:∀ (wx:World) (z:Int),((P.wr off s).size:Int)=z → (hx:Keeps (fun k => k=r) wr wx) → (hr1:Is wx (w.heap.size + 1) 47 #[.map none,.int .i64 0]) → ∃ (m':Nat) (G' C':Nat → Nat) (D':DataW Value),(Ending.returned (.agg #[.map (some m1),.int .i64 z])=Ending.returned (.agg #[.map (some m'),.int .i64 ((P.wr off s).size:Int)])) ∧ PM ((wx.setCell ⟨w.heap.size + 1,0,none⟩ (.map (some m1))).setCell ⟨w.heap.size + 1,1,none⟩ (.int .i64 z)) w.heap.size ((wx.setCell ⟨w.heap.size + 1,0,none⟩ (.map (some m1))).setCell ⟨w.heap.size + 1,1,none⟩ (.int .i64 z)).heap.size m' (P.wr off s).B G' C' D' ∧ Below w.heap.size w ((wx.setCell ⟨w.heap.size + 1,0,none⟩ (.map (some m1))).setCell ⟨w.heap.size + 1,1,none⟩ (.int .i64 z)):=by
        intro wx z hz hx hr1
        have hk:=(hx.mono (T:=fun k => k=r ∨ k=w.heap.size + 1) (fun i e => .inl e)).trans (((keeps_set wx (w.heap.size + 1) 0 (.map (some m1))).trans (keeps_set _ (w.heap.size + 1) 1 (.int .i64 z))).mono (fun i e => .inr e))
        have hsz:=hk.size
        refine ⟨_,_,_,_,by rw [hz],((HP.out.agreeG (fun k h1 h2 h3 => hk.block k h2 (fun e => ?_))).wide (by omega) hsz).cast hwr.symm,HBW.out.trans (hk.below (by have:=HBW.out.size; omega) (fun i e => ?_))⟩
        · rcases e with e | e
          · have e:k=r:=e
            rcases h3 with h3 | ⟨i,h3,h4⟩
            · omega
            · exact HGR2.out i h3 (by omega)
          · have e:k=w.heap.size + 1:=e; omega
        · rcases e with e | e
          · have e:i=r:=e; omega
          · have e:i=w.heap.size + 1:=e; omega
      have HKEY:=Lib.hid key
      clear key
      by_cases hn0:j=0
      · subst hn0
        have hgt:¬ ((0:Nat):Int) > 0:=by omega
        go_wp2_with fail
        have hI:=(HJ1.out.put 0 (.map (some m1))).put 1 (.int .i64 (sz:Int))
        refine bodyPost_ret (results_cell_row (P:=Tryz.prog) rfl _ _ (w.heap.size + 1) 47 _ (0,0) _ rfl hI Tryz.underlying47 rfl (by kernel_rfl)) rfl ?_
        obtain ⟨a,b,c,d,e1,e2,e3⟩:=HKEY.out wr (sz:Int) (by rw [← hsz]; unfold Pl.wr; rw [if_pos HBS.out.2]) (Keeps.refl _ _) HJ1.out
        exact ⟨a,e1,⟨b,c,d,e2⟩,e3⟩
      · have hgt:(j:Int) > 0:=by omega
        obtain ⟨M,hM⟩:∃ M:Nat,max sz (off + j)=M:=⟨_,rfl⟩
        have u1:=i64_wr ((off:Int) + (j:Int)) (by omega)
        have hmx:=run_max_ii (sz:Int) ((off:Int) + (j:Int)) (M:Int) (by rw [← hM]; split <;> omega)
        go_wp2_with fail
        have hJ:=HJ1.out.other ⟨r,1,none⟩ (by show w.heap.size + 1 ≠ r; omega) (.int .i64 (M:Int))
        have hI:=(hJ.put 0 (.map (some m1))).put 1 (.int .i64 (M:Int))
        refine bodyPost_ret (results_cell_row (P:=Tryz.prog) rfl _ _ (w.heap.size + 1) 47 _ (0,0) _ rfl hI Tryz.underlying47 rfl (by kernel_rfl)) rfl ?_
        obtain ⟨a,b,c,d,e1,e2,e3⟩:=HKEY.out _ (M:Int) (by rw [← hM,← hsz]; unfold Pl.wr; rw [if_neg (by rw [HBS.out.2]; exact hn0),HBS.out.2]) (keeps_set wr r 1 _) hJ
        exact ⟨a,e1,⟨b,c,d,e2⟩,e3⟩
end Go.Proofs.YthkijogloebdoaaGreatDoor
end
section
namespace Go.Proofs.YthkijogloebdoaaGreatDoor
open Go.RowKit Go.Maps Rec Gp Fs
def filled (P:Pl)(off n j:Nat):List UInt8:=P.rdN off j ++ List.replicate (n - j) 0
theorem filled_len (P:Pl)(off n j:Nat)(h:j ≤ n):(filled P off n j).length=n:=by
  unfold filled; rw [List.length_append,Pl.rdN_len,List.length_replicate]; omega
theorem filled_set (P:Pl)(off n j:Nat)(h:j < n):(filled P off n j).set j (P.byte (off + j))=filled P off n (j + 1):=by
  unfold filled
  rw [Pl.rdN_succ,List.set_append_right _ _ (by rw [Pl.rdN_len]; exact Nat.le_refl _),Pl.rdN_len,Nat.sub_self,show n - j=(n - (j + 1)) + 1 by omega,List.replicate_succ,List.set_cons_zero,List.append_assoc]
  rfl
theorem filled_skip (P:Pl)(off n j:Nat)(h:j < n)(h0:P.byte (off + j)=0):filled P off n j=filled P off n (j + 1):=by
  unfold filled
  rw [Pl.rdN_succ,h0,show n - j=(n - (j + 1)) + 1 by omega,List.replicate_succ,List.append_assoc]
  rfl
theorem filled_all (P:Pl)(off n:Nat):filled P off n n=P.rdN off n:=by
  unfold filled; rw [Nat.sub_self]; simp
theorem filled_none (P:Pl)(off n:Nat):filled P off n 0=List.replicate n 0:=by
  unfold filled Pl.rdN; simp
theorem byte_none {P:Pl}{i k fr:Nat}(hk:i / 512=k)(hb:P.B k=none):P.byte i=0:=by
  unfold Pl.byte Pl.blk
  rw [hk,hb]
  exact blank_get _
theorem byte_some {P:Pl}{i k fr:Nat}{l:List UInt8}(hk:i / 512=k)(hf:i % 512=fr)(hb:P.B k=some l)(h:fr < l.length):P.byte i=l[fr]:=by
  unfold Pl.byte Pl.blk
  rw [hk,hb,hf]
  show l.getD fr 0=_
  rw [List.getD_eq_getElem?_getD,List.getElem?_eq_getElem h]; rfl
set_option maxRecDepth 100000 in
set_option maxHeartbeats 3200000 in
theorem pread_any (w:World)(lo hi m:Nat)(P:Pl)(hP:P.Ok)(G C:Nat → Nat)(D:DataW Value)(h:PM w lo hi m P.B G C D)(hhi:hi ≤ w.heap.size)(off size:Nat)(ho:off ≤ 9223372036854775807)(hs5:size ≤ 5000) :
    Calls Tryz.prog 20 #[.agg #[.map (some m),.int .i64 (P.size:Int)],.int .i64 (off:Int),.int .i64 (size:Int)] w fun e w' =>
      e=.returned (.string ⟨(P.rd off size).toArray⟩) ∧ Below w.heap.size w w':=by
  obtain ⟨sz,hsz⟩:∃ sz,P.size=sz:=⟨_,rfl⟩
  have hszP:=hP.size
  have hrd:P.rd off size=if sz ≤ off then [] else P.rdN off (min size (sz - off)):=by unfold Pl.rd; rw [hsz]
  rw [hsz] at hszP ⊢
  rw [hrd]
  have hb0:=below_new w (.cells #[.map (some m),.int .i64 (sz:Int)] 47)
  have i0:=Is.new w 47 #[.map (some m),.int .i64 (sz:Int)]
  obtain ⟨W,hW⟩:∃ W,w.alloc (.cells #[.map (some m),.int .i64 (sz:Int)] 47)=W:=⟨_,rfl⟩
  have hz1:W.heap.size=w.heap.size + 1:=by rw [← hW]; simp [World.size_alloc]
  rw [hW] at hb0 i0
  have c0:W.cell? ⟨w.heap.size,0,none⟩=some (.map (some m)):=i0.cell 0
  have c1:W.cell? ⟨w.heap.size,1,none⟩=some (.int .i64 (sz:Int)):=i0.cell 1
  have HP0:=Lib.hid (h.below hb0 hhi)
  have HI0:=Lib.hid i0
  have HB0:=Lib.hid hb0
  have HRD:=Lib.hid hrd
  clear h i0 hb0 hrd
  by_cases hge:sz ≤ off
  · have hge2:(sz:Int) ≤ (off:Int):=by omega
    rw [if_pos hge]
    go_enter Tryz.func20,Tryz.ntmps20
    go_wp2_with fail
    go_ret
    exact ⟨rfl,HB0.out⟩
  · have hlt2:¬ (sz:Int) ≤ (off:Int):=by omega
    rw [if_neg hge]
    obtain ⟨n,hn⟩:∃ n,min size (sz - off)=n:=⟨_,rfl⟩
    rw [hn]
    have u1:=i64_wr ((sz:Int) - (off:Int)) (by omega)
    have hmn:=run_min_ii (size:Int) ((sz:Int) - (off:Int)) (n:Int) (by rw [← hn]; split <;> omega)
    go_enter Tryz.func20,Tryz.ntmps20
    go_wp2_with (first
      | (refine wpList_make_u8 rfl (.tmp 21) (.tmp 21) rfl w.heap.size n rfl rfl (by omega) (by omega) ?_
         intro w1 hm1 hg1
         rw [hz1] at hm1 ⊢
         have hs1:=hm1.lt (w.heap.size + 1) rfl
         have hbw:Below W.heap.size W w1:=⟨hg1.os,hg1.tape,hg1.output,hg1.size,fun k hk => hg1.block k hk (fun e => by cases e)⟩
         have HM1:=Lib.hid hm1
         have HBW:=Lib.hid hbw
         clear hm1 hg1 hbw))
    go_loopw [8] (fun iv wr => ∃ (j:Nat),iv=.int .i64 (j:Int) ∧ j ≤ n ∧ Mine wr w.heap.size (some ⟨w.heap.size + 1,0,none⟩) n (filled P off n j) ∧ Below (w.heap.size + 1) W wr)
      (fun iv _ => n - (intOf iv).toNat)
    case atStart => exact ⟨0,rfl,Nat.zero_le _,by rw [filled_none]; exact HM1.out,HBW.out.mono (by omega)⟩
    case round =>
      obtain ⟨j,rfl,hjn,hmr,hbr⟩:=hrel
      have HMR:=Lib.hid hmr
      have HBR:=Lib.hid hbr
      have d0:wr.cell? ⟨w.heap.size,0,none⟩=some (.map (some m)):=(hbr.cell (p:=⟨w.heap.size,0,none⟩) (by show w.heap.size < w.heap.size + 1; omega)).trans c0
      have hpr:=HP0.out.below hbr (by omega)
      have HPR:=Lib.hid hpr
      clear hmr hbr hpr
      by_cases hjl:j < n
      · have hlt:(j:Int) < (n:Int):=by omega
        obtain ⟨k,hk⟩:∃ k,(off + j) / 512=k:=⟨_,rfl⟩
        obtain ⟨fr,hfr⟩:∃ fr,(off + j) % 512=fr:=⟨_,rfl⟩
        have hfr5:fr < 512:=by omega
        have v1:=i64_wr ((off:Int) + (j:Int)) (by omega)
        have v2:((off:Int) + (j:Int)) / 512=(k:Int):=by omega
        have v3:((off:Int) + (j:Int)) % 512=(fr:Int):=by omega
        have v4:=i64_wr ((j:Int) + 1) (by omega)
        have q1:=pn_neq
        have q2:=pn_neq0
        have hlk:=HPR.out.look k (by omega) wr rfl
        cases hbk:P.B k with
        | none =>
          rw [elV_none hbk] at hlk
          go_wp2_with fail
          go_roundw
          case rel => exact ⟨j + 1,by rw [show ((j:Int) + 1)=((j + 1:Nat):Int) by omega],by omega,by rw [← filled_skip P off n j hjl (byte_none (fr:=fr) hk hbk)]; exact HMR.out,HBR.out⟩
          case measure =>
            show n - ((j:Int) + 1).toNat < n - ((j:Int)).toNat
            omega
        | some l =>
          rw [elV_some hbk] at hlk
          obtain ⟨_,hl5,_,_,hgh,hrl,_⟩:=HPR.out.yes k l hbk
          have e1:=hrl.cell (k:=fr) (by omega)
          have hfl:=filled_len P off n j hjn
          have e2:=HMR.out.cell (k:=j) (by omega)
          have e3:=HMR.out.free j
          have hby:=byte_some hk hfr hbk (by omega)
          obtain ⟨b8,hb8⟩:∃ b8,l[fr]'(by omega)=b8:=⟨_,rfl⟩
          rw [hb8] at e1
          have HBY:=Lib.hid (hby.trans hb8)
          have hnx:=HMR.out.put j b8
          have hbx:=(HBR.out.trans ((keeps_set wr (w.heap.size + 1) j (.int .u8 (n8 b8))).below (by have:=HBR.out.size; omega) (fun i e => by have e:i=w.heap.size + 1:=e; omega)))
          have HNX:=Lib.hid hnx
          have HBX:=Lib.hid hbx
          clear hnx hbx hrl hby
          go_wp2_with fail
          refine ⟨⟨j + 1,by rw [show ((j:Int) + 1)=((j + 1:Nat):Int) by omega],by omega,?_,HBX.out⟩,?_⟩
          · have hq:=HNX.out
            rw [← HBY.out,filled_set P off n j hjl] at hq
            rw [← HBY.out]
            exact hq
          · show n - ((j:Int) + 1).toNat < n - ((j:Int)).toNat
            omega
      · have hje:j=n:=by omega
        subst hje
        have hnlt:¬ (j:Int) < (j:Int):=by omega
        have hstr:=str_any wr (some ⟨w.heap.size + 1,0,none⟩) j (filled P off j j) HMR.out.bytes j (filled_len P off j j (Nat.le_refl _))
        go_wp2_with fail
        go_ret
        refine ⟨by rw [filled_all]; rfl,HB0.out.trans (HBR.out.mono (by omega))⟩
end Go.Proofs.YthkijogloebdoaaGreatDoor
end
section
namespace Go.Proofs.YthkijogloebdoaaGreatDoor
open Go.RowKit Rec Gp
theorem mod_eq (v n:Int)(hn:0 < n):v % n=if v.tmod n < 0 then v.tmod n + n else v.tmod n:=by
  have h1:=Int.tmod_eq_emod (a:=v) (b:=n)
  have h2:=Int.emod_nonneg v (show n ≠ 0 by omega)
  have h3:=Int.emod_lt_of_pos v hn
  split at h1 <;> split <;> omega
theorem mod_any (v n:Int)(w:World)(hn:0 < n)(hn2:n ≤ 1000000)(h0 : -9223372036854775808 ≤ v)(h1:v ≤ 9223372036854775807) :
    Calls Tryz.prog 11 #[.int .i64 v,.int .i64 n] w fun e w' => e=.returned (.int .i64 (v % n)) ∧ w=w':=by
  have hm:=mod_eq v n hn
  have hne:¬ n=0:=by omega
  have hb1:v.tmod n < n:=Int.tmod_lt_of_pos v hn
  have hb2 : -n < v.tmod n:=by have:=Int.lt_tmod_of_pos v hn; omega
  obtain ⟨r,hr⟩:∃ r,v.tmod n=r:=⟨_,rfl⟩
  rw [hr] at hm hb1 hb2
  have hw:IntKind.i64.wrap r=r:=IntWalk.i64_in _ (by omega)
  by_cases hs:r < 0
  · rw [if_pos hs] at hm
    go_enter Tryz.func11,Tryz.ntmps11
    go_wp2_with fail
    go_ret
    exact ⟨by first | (rw [← hm]; rfl) | (rw [← hm]; simp),rfl⟩
  · rw [if_neg hs] at hm
    go_enter Tryz.func11,Tryz.ntmps11
    go_wp2_with fail
    go_ret
    exact ⟨by first | (rw [← hm]; rfl) | (rw [← hm]; simp),rfl⟩
def sizeN (v:Int):Nat:=if v % 60=59 then (4090 + v.tdiv 60 % 20).toNat else (128 + v % 200).toNat
theorem sizeN_disk (v:Int):Disk (sizeN v):=by
  unfold sizeN
  have h1:=Int.emod_nonneg (v.tdiv 60) (show (20:Int) ≠ 0 by omega)
  have h2:=Int.emod_lt_of_pos (v.tdiv 60) (show (0:Int) < 20 by omega)
  split
  · exact ⟨by omega,by omega⟩
  · exact ⟨by omega,by omega⟩
set_option maxRecDepth 100000 in
theorem size_any (v:Int)(w:World)(h0 : -9223372036854775808 ≤ v)(h1:v ≤ 9223372036854775807) :
    Calls Tryz.prog 4 #[.int .i64 v] w fun e w' => e=.returned (.int .i64 (sizeN v:Int)) ∧ w=w':=by
  have HM1:=Lib.hid (mod_any v 60 w (by omega) (by omega) h0 h1)
  have HM2:=Lib.hid (mod_any v 200 w (by omega) (by omega) h0 h1)
  have hq0 : -9223372036854775808 ≤ v.tdiv 60 ∧ v.tdiv 60 ≤ 9223372036854775807:=by
    have:=Int.mul_tdiv_add_tmod v 60
    have:=Int.tmod_lt_of_pos v (show (0:Int) < 60 by omega)
    have:=Int.lt_tmod_of_pos v (show (0:Int) < 60 by omega)
    omega
  obtain ⟨q,hq⟩:∃ q,v.tdiv 60=q:=⟨_,rfl⟩
  rw [hq] at hq0
  have HM3:=Lib.hid (mod_any q 20 w (by omega) (by omega) hq0.1 hq0.2)
  have hwq:IntKind.i64.wrap q=q:=IntWalk.i64_in _ (by omega)
  have a1:=Int.emod_nonneg q (show (20:Int) ≠ 0 by omega)
  have a2:=Int.emod_lt_of_pos q (show (0:Int) < 20 by omega)
  have b1:=Int.emod_nonneg v (show (200:Int) ≠ 0 by omega)
  have b2:=Int.emod_lt_of_pos v (show (0:Int) < 200 by omega)
  obtain ⟨a,ha⟩:∃ a,q % 20=a:=⟨_,rfl⟩
  obtain ⟨b,hb⟩:∃ b,v % 200=b:=⟨_,rfl⟩
  obtain ⟨m,hm⟩:∃ m,v % 60=m:=⟨_,rfl⟩
  rw [ha] at HM3 a1 a2
  rw [hb] at HM2 b1 b2
  rw [hm] at HM1
  have u1:=IntWalk.i64_in (n:=(4090:Int) + a) (by omega)
  have u2:=IntWalk.i64_in (n:=(128:Int) + b) (by omega)
  by_cases hc:m=59
  · have hs:(sizeN v:Int)=4090 + a:=by unfold sizeN; rw [if_pos (hm.trans hc),hq,ha]; omega
    have hcb:(m == 59)=true:=by rw [beq_iff_eq]; exact hc
    rw [hs]
    clear hs hc ha hb hm hq0 h0 h1 HM2
    go_enter Tryz.func4,Tryz.ntmps4
    go_wp2_with (first
      | (go_at_call 11; with_reducible refine HM1.out.mono ?_; rintro e w1 ⟨rfl,rfl⟩)
      | (go_at_call 11; with_reducible refine HM3.out.mono ?_; rintro e w1 ⟨rfl,rfl⟩))
    go_ret
    exact ⟨rfl,rfl⟩
  · have hs:(sizeN v:Int)=128 + b:=by unfold sizeN; rw [if_neg (fun e => hc (hm.symm.trans e)),hb]; omega
    have hcb:(m == 59)=false:=by rw [beq_eq_false_iff_ne]; exact hc
    rw [hs]
    clear hs hc ha hb hm hq0 h0 h1 HM3
    go_enter Tryz.func4,Tryz.ntmps4
    go_wp2_with (first
      | (go_at_call 11; with_reducible refine HM1.out.mono ?_; rintro e w1 ⟨rfl,rfl⟩)
      | (go_at_call 11; with_reducible refine HM2.out.mono ?_; rintro e w1 ⟨rfl,rfl⟩))
    go_ret
    exact ⟨rfl,rfl⟩
set_option maxRecDepth 100000 in
theorem regions_any (n:Nat)(hn:Disk n)(w:World) :
    Calls Tryz.prog 8 #[.int .i64 (n:Int)] w fun e w' => e=.returned (.tuple #[.int .i64 (ino n:Int),.int .i64 (dat n:Int)]) ∧ w=w':=by
  have hn2:(n:Int) ≤ 16384:=hn.2
  have e1:(ino n:Int)=98 + ((n:Int) + 4095) / 4096:=by unfold ino; omega
  have e2:(dat n:Int)=(ino n:Int) + (n:Int) / 64:=by unfold dat; omega
  obtain ⟨i,hi⟩:∃ i,ino n=i:=⟨_,rfl⟩
  obtain ⟨d,hd⟩:∃ d,dat n=d:=⟨_,rfl⟩
  rw [hi] at e1 e2 ⊢
  rw [hd] at e2 ⊢
  obtain ⟨p,hp⟩:∃ p:Nat,((n:Int) + 4095) / 4096=(p:Int):=⟨(n + 4095) / 4096,by omega⟩
  obtain ⟨q,hq⟩:∃ q:Nat,(n:Int) / 64=(q:Int):=⟨n / 64,by omega⟩
  rw [hp] at e1
  rw [hq] at e2
  have u0:=IntWalk.i64_in (n:=(n:Int) + 4095) (by omega)
  have u1:=IntWalk.i64_in (n:=(p:Int)) (by omega)
  have u2:=IntWalk.i64_in (n:=(q:Int)) (by omega)
  have u3:IntKind.i64.wrap ((98:Int) + (p:Int))=(i:Int):=by rw [← e1]; exact IntWalk.i64_in _ (by omega)
  have u4:IntKind.i64.wrap ((i:Int) + (q:Int))=(d:Int):=by rw [← e2]; exact IntWalk.i64_in _ (by omega)
  have E1:=Lib.hid e1
  have E2:=Lib.hid e2
  clear e1 e2 hi hd hn
  go_enter Tryz.func8,Tryz.ntmps8
  go_wp2_with fail
  refine bodyPost_ret (v:=.tuple #[.int .i64 (i:Int),.int .i64 (d:Int)]) (by simp [results,Tryz.results8,go_sem,E1.out,E2.out]) rfl ?_
  exact ⟨rfl,rfl⟩
end Go.Proofs.YthkijogloebdoaaGreatDoor
end
section
namespace Go.Proofs.YthkijogloebdoaaGreatDoor
open Go.RowKit Go.Maps Rec Gp Fs
theorem u8_of (z:Int):∃ b:UInt8,n8 b=z % 256:=by
  refine ⟨UInt8.ofNat (z % 256).toNat,?_⟩
  unfold n8
  rw [UInt8.toNat_ofNat']
  omega
set_option maxRecDepth 100000 in
set_option maxHeartbeats 3200000 in
theorem made_any (w:World)(seed:Int)(n:Nat)(h0 : -9223372036854775808 ≤ seed)(h1:seed ≤ 9223372036854775807)(hn:n ≤ 5000) :
    Calls Tryz.prog 13 #[.int .i64 seed,.int .i64 (n:Int)] w fun e w' =>
      ∃ l:List UInt8,l.length=n ∧ e=.returned (.string ⟨l.toArray⟩) ∧ Below w.heap.size w w':=by
  obtain ⟨r5,hr5⟩:∃ r5:Int,seed % 5=r5:=⟨_,rfl⟩
  have ha:=Int.emod_nonneg seed (show (5:Int) ≠ 0 by omega)
  have hb:=Int.emod_lt_of_pos seed (show (0:Int) < 5 by omega)
  rw [hr5] at ha hb
  have HMD:=fun X => mod_any seed 5 X (by omega) (by omega) h0 h1
  rw [hr5] at HMD
  have HMD:=Lib.hid HMD
  go_enter Tryz.func13,Tryz.ntmps13
  go_wp2_with (first
    | (refine wpList_make_u8 rfl (.tmp 7) (.tmp 7) rfl w.heap.size n rfl rfl (by omega) (by omega) ?_
       intro w1 hm1 hg1
       have hbw:Below w.heap.size w w1:=⟨hg1.os,hg1.tape,hg1.output,hg1.size,fun k hk => hg1.block k hk (fun e => by cases e)⟩
       have HM1:=Lib.hid hm1
       have HBW:=Lib.hid hbw
       clear hm1 hg1 hbw))
  go_loopw [6] (fun iv wr => ∃ (j:Nat) (l:List UInt8),iv=.int .i64 (j:Int) ∧ j ≤ n ∧ l.length=n ∧ Mine wr w.heap.size (some ⟨w.heap.size,0,none⟩) n l ∧ Below w.heap.size w wr)
    (fun iv _ => n - (intOf iv).toNat)
  case atStart => exact ⟨0,_,rfl,Nat.zero_le _,List.length_replicate,HM1.out,HBW.out⟩
  case round =>
    obtain ⟨j,l,rfl,hjn,hll,hmr,hbr⟩:=hrel
    have HMR:=Lib.hid hmr
    have HBR:=Lib.hid hbr
    clear hmr hbr
    by_cases hjl:j < n
    · have hlt:(j:Int) < (n:Int):=by omega
      have v1:=i64_wr ((j:Int) + 1) (by omega)
      have v2:=i64_wr (1 + r5) (by omega)
      have hmul:(0:Int) ≤ (j:Int) * (1 + r5) ∧ (j:Int) * (1 + r5) ≤ 5000 * 6:=⟨Int.mul_nonneg (by omega) (by omega),Int.mul_le_mul (by omega) (by omega) (by omega) (by omega)⟩
      have v3:=i64_wr ((j:Int) * (1 + r5)) (by omega)
      have e2:=HMR.out.cell (k:=j) (by omega)
      have e3:=HMR.out.free j
      go_wp2_with (first
        | (go_at_call 11
           refine (HMD.out _).mono ?_
           rintro e w' ⟨rfl,rfl⟩))
      obtain ⟨b8,hb8⟩:=u8_of (wrap64 (seed + (j:Int) * (1 + r5)))
      rw [← hb8]
      refine ⟨⟨j + 1,l.set j b8,by rw [show ((j:Int) + 1)=((j + 1:Nat):Int) by omega],by omega,by rw [List.length_set]; exact hll,?_,HBR.out.trans ((keeps_set wr w.heap.size j _).below HBR.out.size (fun i e => by have e:i=w.heap.size:=e; omega))⟩,?_⟩
      · exact HMR.out.put j b8
      · show n - ((j:Int) + 1).toNat < n - ((j:Int)).toNat
        omega
    · have hje:j=n:=by omega
      subst hje
      have hnlt:¬ (j:Int) < (j:Int):=by omega
      have hstr:=str_any wr (some ⟨w.heap.size,0,none⟩) j l HMR.out.bytes j hll
      go_wp2_with fail
      go_ret
      exact ⟨l,hll,rfl,HBR.out⟩
end Go.Proofs.YthkijogloebdoaaGreatDoor
end
section
set_option maxRecDepth 100000
namespace Go.Proofs.YthkijogloebdoaaGreatDoor
open Go.RowKit Go.Maps Rec Gp Fs
structure FreshAt (n:Nat)(img:List UInt8):Prop where
  len:img.length=n * 512
  bits:∀ b,dat n ≤ b → b < n → Bt.bit8 (img.getD (50176 + b / 8) 0) (b % 8)=false
  zero:∀ j,ino n * 512 ≤ j → img.getD j 0=0
  low:∀ j,j < 50176 → img.getD j 0=0
structure FreshOk (n:Nat)(img:List UInt8):Prop where
  len:img.length=n * 512
  bits:∀ b,dat n ≤ b → b < n → Bt.bit8 (img.getD (50176 + b / 8) 0) (b % 8)=false
  root:∀ j,ino n * 512 ≤ j → img.getD j 0=if j=ino n * 512 + 64 ∨ j=ino n * 512 + 66 then 2 else 0
  low:∀ j,j < 50176 → img.getD j 0=0
theorem byte_set (l:List UInt8)(i j:Nat)(b:UInt8)(hi:i < l.length):(l.set i b).getD j 0=if i=j then b else l.getD j 0:=by
  rw [List.getD_eq_getElem?_getD,List.getElem?_set]
  by_cases e:i=j
  · subst e; rw [if_pos rfl,if_pos rfl,if_pos hi]; rfl
  · rw [if_neg e,if_neg e,List.getD_eq_getElem?_getD]
theorem FreshAt.start {n:Nat}:FreshAt n (List.replicate (n * 512) 0):=by
  have key:∀ j,(List.replicate (n * 512) (0:UInt8)).getD j 0=0:=fun j => by
    rw [List.getD_eq_getElem?_getD,List.getElem?_replicate]; split <;> rfl
  refine ⟨List.length_replicate,fun b _ _ => ?_,fun j _ => key j,fun j _ => key j⟩
  rw [key]
  show (0 / 2 ^ (b % 8) % 2 == 1)=false
  rw [Nat.zero_div]; rfl
theorem or_fin:∀ (b:Fin 256)(k j:Fin 8),j.val ≠ k.val → Bt.bit8 (UInt8.ofNat b.val ||| UInt8.ofNat (2 ^ k.val)) j.val=Bt.bit8 (UInt8.ofNat b.val) j.val:=by decide +kernel
theorem or_bit (b:UInt8)(k j:Nat)(hk:k < 8)(hj:j < 8)(h:j ≠ k):Bt.bit8 (b ||| UInt8.ofNat (2 ^ k)) j=Bt.bit8 b j:=by
  have:=or_fin ⟨b.toNat,b.toNat_lt⟩ ⟨k,hk⟩ ⟨j,hj⟩ h
  rw [← Bt.byte_eta] at this
  exact this
theorem or8_fin:∀ (c:Fin 256)(k:Fin 8),bits BinOp.or IntKind.u8 (n8 (UInt8.ofNat c.val)) ((2:Int) ^ k.val % 256)=n8 (UInt8.ofNat c.val ||| UInt8.ofNat (2 ^ k.val)):=by decide +kernel
theorem or8 (b:UInt8)(k:Nat)(hk:k < 8):bits BinOp.or IntKind.u8 (n8 b) ((2:Int) ^ k % 256)=n8 (b ||| UInt8.ofNat (2 ^ k)):=by
  have:=or8_fin ⟨b.toNat,b.toNat_lt⟩ ⟨k,hk⟩
  rw [← Bt.byte_eta] at this
  exact this
theorem FreshAt.step {n:Nat}{img:List UInt8}(h:FreshAt n img)(hn:Disk n)(k:Nat)(hk:k < (ino n - 98) * 4096)(hout:k < dat n ∨ n ≤ k) :
    FreshAt n (img.set (50176 + k / 8) (img.getD (50176 + k / 8) 0 ||| UInt8.ofNat (2 ^ (k % 8)))):=by
  obtain ⟨g1,g2,g3,g4⟩:=geo_facts hn
  have hlt:50176 + k / 8 < img.length:=by rw [h.len]; omega
  refine ⟨by rw [List.length_set]; exact h.len,fun b h1 h2 => ?_,fun j hj => ?_,fun j hj => by rw [byte_set _ _ _ _ hlt,if_neg (by omega)]; exact h.low j hj⟩
  · rw [byte_set _ _ _ _ hlt]
    by_cases e:50176 + k / 8=50176 + b / 8
    · rw [if_pos e,or_bit _ _ _ (by omega) (by omega) (by omega),e]
      exact h.bits b h1 h2
    · rw [if_neg e]
      exact h.bits b h1 h2
  · rw [byte_set _ _ _ _ hlt,if_neg (by omega)]
    exact h.zero j hj
theorem FreshAt.done {n:Nat}{img:List UInt8}(h:FreshAt n img)(hn:Disk n):FreshOk n ((img.set (ino n * 512 + 64) 2).set (ino n * 512 + 66) 2):=by
  obtain ⟨g1,g2,g3,g4⟩:=geo_facts hn
  have hlt:ino n * 512 + 64 < img.length:=by rw [h.len]; omega
  have hlt2:ino n * 512 + 66 < (img.set (ino n * 512 + 64) 2).length:=by rw [List.length_set,h.len]; omega
  refine ⟨by rw [List.length_set,List.length_set]; exact h.len,fun b h1 h2 => ?_,fun j hj => ?_,fun j hj => by rw [byte_set _ _ _ _ hlt2,if_neg (by omega),byte_set _ _ _ _ hlt,if_neg (by omega)]; exact h.low j hj⟩
  · rw [byte_set _ _ _ _ hlt2,if_neg (by omega),byte_set _ _ _ _ hlt,if_neg (by omega)]
    exact h.bits b h1 h2
  · rw [byte_set _ _ _ _ hlt2,byte_set _ _ _ _ hlt,h.zero j hj]
    by_cases e1:ino n * 512 + 66=j
    · rw [if_pos e1,if_pos (by omega)]
    · rw [if_neg e1]
      by_cases e2:ino n * 512 + 64=j
      · rw [if_pos e2,if_pos (by omega)]
      · rw [if_neg e2,if_neg (by omega)]
set_option maxRecDepth 100000 in
set_option maxHeartbeats 3200000 in
theorem fresh_any (w:World)(n:Nat)(hn:Disk n) :
    Calls Tryz.prog 6 #[.int .i64 (n:Int)] w fun e w' =>
      ∃ img:List UInt8,FreshOk n img ∧ e=.returned (.slice (some ⟨w.heap.size,0,none⟩) (n * 512) (n * 512)) ∧ Mine w' w.heap.size (some ⟨w.heap.size,0,none⟩) (n * 512) img ∧ Below w.heap.size w w':=by
  obtain ⟨g1,g2,g3,g4⟩:=geo_facts hn
  have HN:=Lib.hid hn
  have HRG:=Lib.hid (fun X => regions_any n hn X)
  have HST:=Lib.hid (fun img (h:FreshAt n img) k (hk:k < (ino n - 98) * 4096) hout => h.step hn k hk hout)
  have HDN:=Lib.hid (fun img (h:FreshAt n img) => h.done hn)
  obtain ⟨iN,hiN⟩:∃ iN,ino n=iN:=⟨_,rfl⟩
  obtain ⟨dN,hdN⟩:∃ dN,dat n=dN:=⟨_,rfl⟩
  rw [hiN,hdN] at HRG
  rw [hiN,hdN] at HST
  rw [hiN] at HDN
  rw [hiN] at g3 g4
  rw [hdN] at g4
  obtain ⟨en,hen⟩:∃ en,(iN - 98) * 4096=en:=⟨_,rfl⟩
  rw [hen] at HST
  obtain ⟨N,hN⟩:∃ N,n * 512=N:=⟨_,rfl⟩
  have u1:=i64_wr ((n:Int) * 512) (by omega)
  have u1b:(n:Int) * 512=(N:Int):=by omega
  have u2:=i64_wr ((iN:Int) - 98) (by omega)
  have u3:=i64_wr (((iN:Int) - 98) * 4096) (by omega)
  have u3b:((iN:Int) - 98) * 4096=(en:Int):=by omega
  have HIN:=Lib.hid (And.intro hiN (And.intro hdN (And.intro hen (And.intro hN (And.intro g3 g4)))))
  rw [hN]
  have b1:iN ≤ 102 ∧ 98 ≤ iN ∧ en ≤ 16384 ∧ N ≤ 8388608 ∧ iN * 512 + 67 ≤ N ∧ 50176 + en / 8 ≤ N:=by omega
  obtain ⟨b1,b2,b3,b4,b5,b6⟩:=b1
  clear hn hiN hdN hen hN g3 g4
  go_enter Tryz.func6,Tryz.ntmps6
  go_wp2_with (first
    | (refine wpList_make_u8 rfl (.tmp 11) (.tmp 11) rfl w.heap.size N (by simp [Act.eval,u1b]) (by simp [Act.eval,u1b]) (by omega) (by omega) ?_
       intro w1 hm1 hg1
       have hbw:Below w.heap.size w w1:=⟨hg1.os,hg1.tape,hg1.output,hg1.size,fun k hk => hg1.block k hk (fun e => by cases e)⟩
       have HM1:=Lib.hid hm1
       have HBW:=Lib.hid hbw
       clear hm1 hg1 hbw)
    | (go_at_call 8
       refine (HRG.out _).mono ?_
       rintro e w2 ⟨rfl,rfl⟩))
  try rw [u3b]
  go_loopw [7] (fun iv wr => ∃ (k:Nat) (img:List UInt8),iv=.int .i64 (k:Int) ∧ k ≤ en ∧ FreshAt n img ∧ Mine wr w.heap.size (some ⟨w.heap.size,0,none⟩) N img ∧ Below w.heap.size w wr) (fun iv _ => en - (intOf iv).toNat)
  case atStart => exact ⟨0,_,rfl,Nat.zero_le _,(by rw [← HIN.out.2.2.2.1]; exact FreshAt.start),HM1.out,HBW.out⟩
  case round =>
    obtain ⟨k,img,rfl,hke,hfa,hmr,hbr⟩:=hrel
    have hlen:=hfa.len
    rw [HIN.out.2.2.2.1] at hlen
    have HFA:=Lib.hid hfa
    have HMR:=Lib.hid hmr
    have HBR:=Lib.hid hbr
    clear hfa hmr hbr
    by_cases hkl:k < en
    · have hlt:(k:Int) < (en:Int):=by omega
      have v1:=i64_wr ((k:Int) + 1) (by omega)
      by_cases hcut:k < dN ∨ n ≤ k
      · have hst:=HST.out img HFA.out k hkl (by exact hcut)
        obtain ⟨at_,hat⟩:∃ at_,50176 + k / 8=at_:=⟨_,rfl⟩
        have hat5:at_ < N:=by omega
        have v2:50176 + (k:Int) / 8=(at_:Int):=by omega
        have v2b:=i64_wr (50176 + (k:Int) / 8) (by omega)
        obtain ⟨b,hb⟩:∃ b,k % 8=b:=⟨_,rfl⟩
        have v3:(k:Int) % 8=(b:Int):=by omega
        rw [hat,hb] at hst
        have e2:=HMR.out.cell (k:=at_) (by omega)
        have e3:=HMR.out.free at_
        obtain ⟨b8,hb8⟩:∃ b8,img.getD at_ 0=b8:=⟨_,rfl⟩
        have hb8':img[at_]'(by omega)=b8:=by rw [← hb8,List.getD_eq_getElem?_getD,List.getElem?_eq_getElem (by omega)]; rfl
        rw [hb8'] at e2
        rw [hb8] at hst
        by_cases hkd:k < dN
        · have c1:(k:Int) < (dN:Int):=by omega
          go_wp2_with fail
          rw [or8 b8 b (by omega)]
          refine ⟨⟨k + 1,_,by rw [show ((k:Int) + 1)=((k + 1:Nat):Int) by omega],by omega,hst,HMR.out.put at_ _,HBR.out.trans ((keeps_set wr w.heap.size at_ _).below HBR.out.size (fun i e => by have e:i=w.heap.size:=e; omega))⟩,?_⟩
          show en - ((k:Int) + 1).toNat < en - ((k:Int)).toNat
          omega
        · have c1:¬ (k:Int) < (dN:Int):=by omega
          have c2:(n:Int) ≤ (k:Int):=by omega
          go_wp2_with fail
          rw [or8 b8 b (by omega)]
          refine ⟨⟨k + 1,_,by rw [show ((k:Int) + 1)=((k + 1:Nat):Int) by omega],by omega,hst,HMR.out.put at_ _,HBR.out.trans ((keeps_set wr w.heap.size at_ _).below HBR.out.size (fun i e => by have e:i=w.heap.size:=e; omega))⟩,?_⟩
          show en - ((k:Int) + 1).toNat < en - ((k:Int)).toNat
          omega
      · have c1:¬ (k:Int) < (dN:Int):=by omega
        have c2:¬ (n:Int) ≤ (k:Int):=by omega
        go_wp2_with fail
        refine ⟨⟨k + 1,img,by rw [show ((k:Int) + 1)=((k + 1:Nat):Int) by omega],by omega,HFA.out,HMR.out,HBR.out⟩,?_⟩
        show en - ((k:Int) + 1).toNat < en - ((k:Int)).toNat
        omega
    · have hkn:k=en:=by omega
      subst hkn
      have hnlt:¬ (k:Int) < (k:Int):=by omega
      obtain ⟨a,ha⟩:∃ a,iN * 512 + 64=a:=⟨_,rfl⟩
      have hdn:=HDN.out img HFA.out
      rw [show iN * 512 + 66=a + 2 by omega,ha] at hdn
      have w1:=i64_wr ((iN:Int) * 512) (by omega)
      have w2:=i64_wr ((iN:Int) * 512 + 64) (by omega)
      have w2b:(iN:Int) * 512 + 64=(a:Int):=by omega
      have w3:=i64_wr ((a:Int) + 2) (by omega)
      have HW3:=Lib.hid (show ((a:Int) + 2)=((a + 2:Nat):Int) by omega)
      have h82:n8 2=2:=rfl
      have e1:=HMR.out.cell (k:=a) (by omega)
      have f1:=HMR.out.free a
      have hm1:=HMR.out.put a 2
      have e2:=hm1.cell (k:=a + 2) (by rw [List.length_set]; omega)
      have f2:=hm1.free (a + 2)
      have hm2:=hm1.put (a + 2) 2
      have hb2:=HBR.out.trans (((keeps_set wr w.heap.size a (.int .u8 (n8 2))).trans (keeps_set _ w.heap.size (a + 2) (.int .u8 (n8 2)))).below HBR.out.size (fun i e => by have e:i=w.heap.size:=e; omega))
      rw [h82] at e2 f2 hm2 hb2
      have HM2:=Lib.hid hm2
      have HB2:=Lib.hid hb2
      have HDN2:=Lib.hid hdn
      clear hm1 hm2 hb2 hdn
      go_wp2_with fail
      go_ret
      exact ⟨_,HDN2.out,rfl,HM2.out,HB2.out⟩
end Go.Proofs.YthkijogloebdoaaGreatDoor
end
section
set_option maxRecDepth 100000
namespace Go.Proofs.YthkijogloebdoaaGreatDoor
open Go.RowKit Go.Maps Rec Gp Fs
def blocksOf (img:List UInt8)(n:Nat):List (List UInt8):=(List.range n).map fun i => sl img (i * 512) 512
theorem blocksOf_len (img:List UInt8)(n:Nat):(blocksOf img n).length=n:=by unfold blocksOf; rw [List.length_map,List.length_range]
theorem blocksOf_each {img:List UInt8}{n:Nat}(h:img.length=n * 512):∀ b ∈ blocksOf img n,b.length=512:=by
  intro b hb
  obtain ⟨i,hi,rfl⟩:=List.mem_map.1 hb
  have:=List.mem_range.1 hi
  exact sl_length _ _ _ (by omega)
theorem blocksOf_flat {img:List UInt8}:∀ (n:Nat),n * 512 ≤ img.length → (blocksOf img n).flatten=img.take (n * 512)
  | 0,_ => by rw [Nat.zero_mul,List.take_zero]; rfl
  | n + 1,h => by
    unfold blocksOf
    rw [List.range_succ,List.map_append,List.flatten_append]
    have:=blocksOf_flat (img:=img) n (by omega)
    unfold blocksOf at this
    rw [this]
    show img.take (n * 512) ++ ([sl img (n * 512) 512]).flatten=_
    rw [List.flatten_cons,List.flatten_nil,List.append_nil]
    unfold sl
    rw [show (n + 1) * 512=n * 512 + 512 by omega,← List.take_add]
def rootI:Ino:=⟨2,2,0,fun _ => 0⟩
def freeI:Ino:=⟨0,0,0,fun _ => 0⟩
def fileI:Ino:=⟨1,1,0,fun _ => 0⟩
theorem rootI_ok:rootI.Ok:=⟨fun _ _ => by show 0 < 4294967296; omega,by show 0 ≤ 8459264; omega,by show 2 ≤ 1000; omega,.inr (.inr ⟨rfl,Nat.le_refl _,rfl⟩)⟩
theorem freeI_ok:freeI.Ok:=⟨fun _ _ => by show 0 < 4294967296; omega,by show 0 ≤ 8459264; omega,by show 0 ≤ 1000; omega,.inl ⟨rfl,rfl,rfl,fun _ _ => rfl⟩⟩
theorem fileI_ok:fileI.Ok:=⟨fun _ _ => by show 0 < 4294967296; omega,by show 0 ≤ 8459264; omega,by show 1 ≤ 1000; omega,.inr (.inl rfl)⟩
theorem encN_root:encN rootI 12=(List.range 64).map (fun j => if j=0 ∨ j=2 then 2 else 0):=by decide +kernel
theorem encN_free:encN freeI 12=(List.range 64).map (fun _ => 0):=by decide +kernel
structure TakenV (n:Nat)(V:Nat → List UInt8)(k:Nat):Prop where
  len:∀ i,i < n → (V i).length=512
  bits:∀ b,dat n ≤ b → b < n → Bt.bit (V (98 + b / 4096)) (b % 4096)=false
  root:InoAt V n 1 rootI
  files:∀ j,2 ≤ j → j < 2 + k → InoAt V n j fileI
  free:∀ j,2 + k ≤ j → j < 8 → InoAt V n j freeI
theorem sl_eq {l m:List UInt8}{a k:Nat}(h:a + k ≤ l.length)(hm:m.length=k)(e:∀ j,j < k → l.getD (a + j) 0=m.getD j 0):sl l a k=m:=by
  refine List.ext_getElem? fun j => ?_
  by_cases hj:j < k
  · rw [sl_at _ _ _ _ hj]
    have:=e j hj
    rw [List.getD_eq_getElem?_getD,List.getD_eq_getElem?_getD,List.getElem?_eq_getElem (by omega),List.getElem?_eq_getElem (by omega)] at this
    rw [List.getElem?_eq_getElem (by omega),List.getElem?_eq_getElem (by omega)]
    exact congrArg some this
  · rw [List.getElem?_eq_none (by rw [sl_length _ _ _ h]; omega),List.getElem?_eq_none (by omega)]
theorem sl_getD {l:List UInt8}{a k j:Nat}(hj:j < k):(sl l a k).getD j 0=l.getD (a + j) 0:=by
  rw [List.getD_eq_getElem?_getD,sl_at _ _ _ _ hj,List.getD_eq_getElem?_getD]
theorem first_view {n:Nat}(hn:Disk n){img:List UInt8}(h:FreshOk n img){V:Nat → List UInt8}(hV:∀ i,i < n → V i=sl img (i * 512) 512):TakenV n V 0:=by
  obtain ⟨g1,g2,g3,g4⟩:=geo_facts hn
  have hrec:∀ j x,1 ≤ j → j < 8 → x.Ok → (∀ q,q < 64 → (encN x 12).getD q 0=if j * 64 + q=64 ∨ j * 64 + q=66 then 2 else 0) → InoAt V n j x:=fun j x h1 h2 hx he => by
    refine ⟨?_,hx⟩
    rw [show j / 8=0 by omega,show j % 8=j by omega,Nat.add_zero,hV _ (by omega),sl_sl _ _ _ _ _ (by omega)]
    rw [sl_eq (m:=encN x 12) (by rw [h.len]; omega) (encN_len x 12 (Nat.le_refl _)) (fun q hq => by
      rw [he q hq,h.root _ (by omega)]
      by_cases c:j * 64 + q=64 ∨ j * 64 + q=66
      · rw [if_pos c,if_pos (by omega)]
      · rw [if_neg c,if_neg (by omega)])]
    exact encN_rec x hx
  refine ⟨fun i hi => ?_,fun b h1 h2 => ?_,?_,fun j h1 h2 => by omega,fun j h1 h2 => ?_⟩
  · rw [hV i hi]; exact sl_length _ _ _ (by rw [h.len]; omega)
  · rw [hV _ (by omega)]
    unfold Bt.bit
    rw [sl_getD (by omega),show (98 + b / 4096) * 512 + b % 4096 / 8=50176 + b / 8 by omega,show b % 4096 % 8=b % 8 by omega]
    exact h.bits b h1 h2
  · refine hrec 1 rootI (by omega) (by omega) rootI_ok (fun q hq => ?_)
    rw [encN_root,List.getD_eq_getElem?_getD,List.getElem?_map,List.getElem?_range hq]
    show (if q=0 ∨ q=2 then (2:UInt8) else 0)=_
    by_cases c:q=0 ∨ q=2
    · rw [if_pos c,if_pos (by omega)]
    · rw [if_neg c,if_neg (by omega)]
  · refine hrec j freeI (by omega) h2 freeI_ok (fun q hq => ?_)
    rw [encN_free,List.getD_eq_getElem?_getD,List.getElem?_map,List.getElem?_range hq,if_neg (by omega)]
    rfl
theorem TakenV.next {n k:Nat}{V:Nat → List UInt8}(h:TakenV n V k)(hn:Disk n)(hk:k < 3):TakenV n (upd V (ino n + (2 + k) / 8) (spliced (V (ino n + (2 + k) / 8)) ((2 + k) % 8 * 64) (encN fileI 12))) (k + 1):=by
  obtain ⟨g1,g2,g3,g4⟩:=geo_facts hn
  have hl:=h.len (ino n + (2 + k) / 8) (by omega)
  have hoth:∀ j y,InoAt V n j y → 2 + k ≠ j → InoAt (upd V (ino n + (2 + k) / 8) (spliced (V (ino n + (2 + k) / 8)) ((2 + k) % 8 * 64) (encN fileI 12))) n j y:=fun j y hy e => inoAt_other hl hy e
  refine ⟨fun i hi => ?_,fun b h1 h2 => ?_,hoth 1 _ h.root (by omega),fun j h1 h2 => ?_,fun j h1 h2 => hoth j _ (h.free j (by omega) h2) (by omega)⟩
  · by_cases e:i=ino n + (2 + k) / 8
    · rw [e,upd_same,spliced_length _ _ _ (by rw [encN_len _ _ (Nat.le_refl _),hl]; omega)]
      exact hl
    · rw [upd_other _ _ _ e]; exact h.len i hi
  · rw [upd_other _ _ _ (by have:=bm_lt hn h2; omega)]
    exact h.bits b h1 h2
  · by_cases e:j=2 + k
    · subst e; exact inoAt_put hl fileI_ok
    · exact hoth j _ (h.files j h1 (by omega)) (fun h => e h.symm)
def nilP:Pl:=⟨fun _ => none,0⟩
theorem nilP_ok:nilP.Ok:=⟨fun k l h => (by cases h),fun k h => absurd rfl h,fun i _ => blank_get _,by show 0 ≤ 8459264; omega⟩
theorem TakenV.fs {n:Nat}{V:Nat → List UInt8}(h:TakenV n V 3)(hn:Disk n):FsIn n V (fun _ => fileI) (fun _ _ => 0) (fun _ => nilP):=by
  obtain ⟨g1,g2,g3,g4⟩:=geo_facts hn
  refine ⟨⟨fun f p hf hp _ => ?_,fun _ _ e => e.elim,fun _ _ e => absurd rfl e,fun _ _ _ _ e => absurd rfl e,fun b h1 h2 => ?_,h.len⟩,fun f _ q _ _ e => absurd rfl e,fun f hf => h.files (f + 2) (by omega) (by omega),fun _ _ => ⟨rfl,rfl,rfl⟩,fun f _ k => ?_,fun _ _ => nilP_ok⟩
  · by_cases e:par p=16652
    · rw [refn_root e]; rfl
    · rw [refn_none e rfl]
  · rw [h.bits b h1 h2]
    constructor
    · intro e; cases e
    · rintro ⟨f,p,e⟩
      have e:0=b:=e
      omega
  · rw [if_neg (fun e => e.2 rfl)]; rfl
def metI (k j:Nat):Ino:=if j=1 then rootI else if j < 2 + k then fileI else freeI
theorem TakenV.met {n k:Nat}{V:Nat → List UInt8}(h:TakenV n V k)(hk:k < 3):(∀ j,1 ≤ j → j ≤ 2 + k → InoAt V n j (metI k j)) ∧ (∀ j,1 ≤ j → j < 2 + k → (metI k j).kind ≠ 0) ∧ (metI k (2 + k)).kind=0:=by
  refine ⟨fun j h1 h2 => ?_,fun j h1 h2 => ?_,?_⟩
  · unfold metI
    by_cases e:j=1
    · rw [if_pos e,e]; exact h.root
    · rw [if_neg e]
      by_cases e2:j < 2 + k
      · rw [if_pos e2]; exact h.files j (by omega) e2
      · rw [if_neg e2]; exact h.free j (by omega) (by omega)
  · unfold metI
    by_cases e:j=1
    · rw [if_pos e]; show (2:Nat) ≠ 0; omega
    · rw [if_neg e,if_pos h2]; show (1:Nat) ≠ 0; omega
  · unfold metI
    rw [if_neg (by omega),if_neg (by omega)]; rfl
end Go.Proofs.YthkijogloebdoaaGreatDoor
end
section
set_option maxRecDepth 100000
namespace Go.Proofs.YthkijogloebdoaaGreatDoor
open Go.RowKit Go.Maps Rec Gp Fs
structure RestD (N m:Nat)(D:Dk):Prop where
  up:D.down=false
  pend:D.pend=[]
  left:D.left=0
  keep:D.keep=[]
  len:D.lasts.length=N
  zero:D.lasts.getD 1 []=Tx.zero
  n:D.n ≤ m
theorem step1_keep (D:Dk)(s:Option (Nat × List UInt8))(h:D.keep=[]):(D.step1 s).keep=[]:=by
  cases s with
  | none =>
    show (Dk.flush D).keep=[]
    unfold Dk.flush
    split
    · rfl
    · exact h
  | some x =>
    show (Dk.write D x.1 x.2).keep=[]
    unfold Dk.write
    split
    · rfl
    · exact h
theorem does_keep (S:List (Option (Nat × List UInt8))):∀ D:Dk,D.keep=[] → (D.does S).1.keep=[]:=by
  induction S with
  | nil => intro D h; exact h
  | cons s S ih =>
    intro D h
    show (if D.err=0 then Dk.does (D.step1 s) S else (D.step1 s,D.err)).1.keep=[]
    split
    · exact ih _ (step1_keep D s h)
    · exact step1_keep D s h
theorem lastOf_val (ws:List (Nat × List UInt8))(j:Nat)(l:List UInt8):∀ b,(∀ x ∈ ws,x.1=j → x.2=l) → (∃ x ∈ ws,x.1=j) → lastOf b ws j=l:=by
  induction ws with
  | nil => intro b _ ⟨x,hx,_⟩; cases hx
  | cons y ws ih =>
    intro b h1 h2
    show lastOf (if y.1=j then y.2 else b) ws j=l
    by_cases e:∃ x ∈ ws,x.1=j
    · exact ih _ (fun x hx => h1 x (List.mem_cons_of_mem _ hx)) e
    · rw [lastOf_out ws j _ (fun x hx hj => e ⟨x,hx,hj⟩)]
      obtain ⟨x,hx,hj⟩:=h2
      rcases List.mem_cons.1 hx with rfl | hx
      · rw [if_pos hj]; exact h1 x (List.mem_cons_self ..) hj
      · exact (e ⟨x,hx,hj⟩).elim
theorem commit_rest {N m:Nat}{D:Dk}{P:Nat → Option (List UInt8)}{ws:List (Nat × List UInt8)}(h:RestD N m D)(hN:98 ≤ N)(hp:Puts N P ws) :
    (D.does (csteps ws)).2=0 ∧ RestD N (m + 200) (D.does (csteps ws)).1 ∧ ∀ j,98 ≤ j → j < N → (D.does (csteps ws)).1.read j=(P j).getD (D.read j):=by
  have hkeep:=does_keep (csteps ws) D h.keep
  unfold csteps at hkeep ⊢
  by_cases e:ws.length=0
  · rw [if_pos e]
    have hn:ws=[]:=List.eq_nil_of_length_eq_zero e
    refine ⟨rfl,⟨h.up,h.pend,h.left,h.keep,h.len,h.zero,by have:=h.n; show D.n ≤ _; omega⟩,fun j _ _ => ?_⟩
    cases hj:P j with
    | none => rfl
    | some l => have:=hp.each j l hj; rw [hn] at this; cases this
  · rw [if_neg e] at hkeep ⊢
    obtain ⟨H,hH⟩:∃ H,Hd.made (ws.map (·.1)) (ws.map (·.2))=H:=⟨_,rfl⟩
    rw [hH] at hkeep ⊢
    have few:=hp.rise.few
    have hok:(⟨N,H,ws,fun j => D.lasts.getD j []⟩:Tx).Ok:=⟨hN,few,fun x hx => by
      obtain ⟨k,hk,rfl⟩:=List.mem_iff_getElem.1 hx
      exact hp.rise.low k hk⟩
    have hE:=Tx.whole_ends hok D h.up h.pend ⟨h.len,h.zero,fun _ _ _ => rfl⟩
    obtain ⟨hn,hpend,hends⟩:=hE
    rcases hends with ⟨e1,e2,e3,e4⟩ | ⟨_,_,_,e4⟩
    · refine ⟨e1,⟨e2,hpend,e4 h.left,hkeep,e3.1,e3.2.1,?_⟩,fun j h1 h2 => ?_⟩
      · have:=h.n
        have hn:(D.does (Tx.whole H ws)).1.n ≤ D.n + (2 * ws.length + 6):=hn
        omega
      · have h3:=e3.2.2 j h1 h2
        have hr:(D.does (Tx.whole H ws)).1.read j=(D.does (Tx.whole H ws)).1.lasts.getD j []:=by unfold Dk.read; rw [hpend]; rfl
        rw [hr,h3]
        have hr0:D.read j=D.lasts.getD j []:=by unfold Dk.read; rw [h.pend]; rfl
        rw [hr0]
        show lastOf (D.lasts.getD j []) ws j=_
        cases hj:P j with
        | none => exact lastOf_out _ _ _ (fun x hx ex => by have:=hp.all x hx; rw [ex,hj] at this; cases this)
        | some l => exact lastOf_val ws j l _ (fun x hx ex => by have:=hp.all x hx; rw [ex,hj] at this; injection this with this; exact this.symm) ⟨(j,l),hp.each j l hj,rfl⟩
    · exact absurd h.left e4
theorem rest_open {n:Nat}(hn:Disk n){img:List UInt8}(h:FreshOk n img):RestD n 0 (openDk (blocksOf img n)):=by
  obtain ⟨g1,g2,g3,g4⟩:=geo_facts hn
  refine ⟨rfl,rfl,rfl,rfl,blocksOf_len img n,?_,Nat.le_refl _⟩
  show (blocksOf img n).getD 1 []=Tx.zero
  unfold blocksOf
  rw [List.getD_eq_getElem?_getD,List.getElem?_map,List.getElem?_range (by omega)]
  show sl img (1 * 512) 512=Tx.zero
  refine sl_eq (by rw [h.len]; omega) List.length_replicate (fun j hj => ?_)
  rw [h.low _ (by omega)]
  unfold Tx.zero
  rw [List.getD_eq_getElem?_getD,List.getElem?_replicate,if_pos hj]; rfl
theorem view_open {n:Nat}(img:List UInt8)(i:Nat)(hi:i < n):(⟨fun _ => none,[]⟩:Tn).view (openDk (blocksOf img n)) i=sl img (i * 512) 512:=by
  show (openDk (blocksOf img n)).read i=_
  show (blocksOf img n).getD i []=_
  unfold blocksOf
  rw [List.getD_eq_getElem?_getD,List.getElem?_map,List.getElem?_range hi]; rfl
theorem fsIn_congr {n:Nat}{V V2:Nat → List UInt8}{X:Nat → Ino}{L:Nat → Nat → Nat}{Q:Nat → Pl}(h:FsIn n V X L Q)(hn:Disk n)(e:∀ j,98 ≤ j → j < n → V2 j=V j)(hl:∀ j,j < n → (V2 j).length=512):FsIn n V2 X L Q:=by
  obtain ⟨g1,g2,g3,g4⟩:=geo_facts hn
  have hL:∀ f p,L f p ≠ 0 → V2 (L f p)=V (L f p):=fun f p hp => by
    obtain ⟨_,_,i3,i4⟩:=h.tree.inn f p hp
    exact e _ (by omega) i4
  refine ⟨⟨fun f p hf hp he => ?_,h.tree.gone,h.tree.inn,h.tree.inj,fun b h1 h2 => ?_,hl⟩,h.live,fun f hf => inoAt_same (h.ino f hf) (e _ (by omega) (by omega)),h.kind,fun f hf k => ?_,h.ok⟩
  · rw [h.tree.refV (fun f p hp _ => hL f p hp) f p hf hp]; exact h.tree.ref f p hf hp he
  · rw [e _ (by omega) (by have:=bm_lt hn h2; omega)]; exact h.tree.bits b h1 h2
  · rw [h.has f hf k]
    by_cases c:k < 16522 ∧ L f k ≠ 0
    · rw [if_pos c,if_pos c,hL f k c.2]
    · rw [if_neg c,if_neg c]
theorem commit_away {w w2:World}{base a:Nat}(hA:Tk w a [72])(k:KT (some a) base (80 :: diskT) w w2){F:Nat → Prop}(hF:∀ j,F j → j < w2.heap.size ∧ Tk w2 j diskF) :
    ∀ j,j < w.heap.size → ¬ Tk w j fileT → w2.heap[j]? = w.heap[j]? ∧ ¬ F j:=fun j hj hn => by
  have h1:w2.heap[j]? = w.heap[j]?:=k.block j hj (.inr ⟨fun e => by
    injection e with e
    subst e
    obtain ⟨cs,t,f,q1,q2⟩:=hA
    exact hn ⟨cs,t,f,q1,by simp at q2; subst q2; decide⟩,fun ⟨cs,t,f,q1,q2⟩ => hn ⟨cs,t,f,q1,by
      simp [diskT] at q2
      rcases q2 with rfl | rfl | rfl | rfl <;> decide⟩⟩)
  refine ⟨h1,fun o => ?_⟩
  obtain ⟨_,cs,t,f,q1,q2⟩:=hF j o
  rw [h1] at q1
  exact hn ⟨cs,t,f,q1,List.mem_cons_of_mem _ q2⟩
end Go.Proofs.YthkijogloebdoaaGreatDoor
end
