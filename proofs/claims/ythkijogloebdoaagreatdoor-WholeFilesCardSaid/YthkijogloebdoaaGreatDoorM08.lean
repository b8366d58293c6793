/-
  WholeFiles, the texts Ft Fu Fw Fx: lemmas for the proof that three files on one disk are plain rows of bytes. No conditions.
-/
import Derived.Test.YthkijogloebdoaaGreatDoorM07
set_option linter.unusedVariables false
set_option linter.unusedSimpArgs false
section
namespace Go.Proofs.YthkijogloebdoaaGreatDoor
open Go.RowKit Go.Maps
set_option maxRecDepth 100000 in
set_option maxHeartbeats 800000 in
theorem tbegin_any (base a d N:Nat)(D:Dk)(F:Nat → Prop)(w:World)(hF:∀ k,F k → k < w.heap.size ∧ Tk w k diskF)(hD:∀ w2,Agree F w w2 → DiskAt w2 base a d D)(hup:D.down=false)(hlen:D.lasts.length=N) :
    Calls Tryz.prog 9 #[.pointer (some ⟨d,0,none⟩)] w fun e w' => ∃ t b,e=.returned (.pointer (some ⟨t,0,none⟩)) ∧ TxnAt ⟨base,a,d,t,b,N,D⟩ w' (fun k => F k ∨ k=t ∨ k=b) ⟨fun _ => none,[]⟩ ∧ w.heap.size ≤ t ∧ w.heap.size ≤ b ∧ Below w.heap.size w w':=by
  have hmm:=@run_makeMap Tryz.prog
  have HF:=Lib.hid hF
  have HD:=Lib.hid hD
  have HU:=Lib.hid hup
  have HL:=Lib.hid hlen
  clear hF hD hup hlen
  go_enter Tryz.func9,Tryz.ntmps9
  go_wp2_with fail
  go_ret
  have hb1:=below_new w (.map #[] 0)
  have hb2:=below_new (w.alloc (.map #[] 0)) (.cells #[.pointer (some ⟨d,0,none⟩),.map (some w.heap.size),.slice none 0 0,.bool false] 80)
  have hI:=Is.new (w.alloc (.map #[] 0)) 80 #[.pointer (some ⟨d,0,none⟩),.map (some w.heap.size),.slice none 0 0,.bool false]
  rw [World.size_alloc] at hI
  have hB:=hb1.trans (hb2.mono (by rw [World.size_alloc]; omega))
  refine ⟨w.heap.size + 1,w.heap.size,rfl,⟨HU.out,HL.out,?_,⟨F,fun k hk => ⟨.inl hk,(HF.out k hk).2.same (hB.block k (HF.out k hk).1)⟩,fun w3 h3 => HD.out w3 (fun k hk => (h3 k hk).trans (hB.block k (HF.out k hk).1))⟩,by simp,by simp,fun x hx => (by cases hx),?_⟩,by omega,by omega,hB⟩
  · rintro k (hk | rfl | rfl)
    · have:=(HF.out k hk).1; simp only [World.size_alloc]; omega
    · simp only [World.size_alloc]; omega
    · simp only [World.size_alloc]; omega
  · exact ⟨.map [],none,0,[],hI,⟨(World.ownsMap_made w _ _ _).alloc _,(fun x hx => by cases hx),(fun i _ => rfl),(fun i l hl => by cases hl)⟩,Own.nil _ _ _ _,fun g hg => (by cases hg),rfl,fun j hj => absurd hj (by simp)⟩
theorem tmark_any (c:Cx)(w:World)(O:Nat → Prop)(T:Tn)(h:TxnAt c w O T):Calls Tryz.prog 60 #[.pointer (some ⟨c.t,0,none⟩)] w fun e w' => e=.returned (.tuple #[.int .i64 (T.H.length:Int),.int .i64 0]) ∧ w=w':=by
  obtain ⟨Dm,U,uc,ucs,hI,hM,hO,ho,hu⟩:=h.ex
  obtain ⟨m,hm⟩:∃ m,T.H.length=m:=⟨_,rfl⟩
  rw [hm] at hI ⊢
  have c2:w.cell? ⟨c.t,2,none⟩=some (.slice U m uc):=hI.cell 2
  have c3:w.cell? ⟨c.t,3,none⟩=some (.bool false):=hI.cell 3
  generalize c.t=t at c2 c3 ⊢
  clear hI hM hO ho hu h hm
  go_enter Tryz.func60,Tryz.ntmps60
  go_wp2_with fail
  go_ret2
  exact ⟨rfl,rfl⟩
theorem rw_sec {w:World}{g:Nat}{b:List UInt8}(h:Is w g 72 (u8s b)):Rw w g b:=Rw.of_is h
set_option maxRecDepth 100000 in
set_option maxHeartbeats 1600000 in
theorem tread_any (c:Cx)(w:World)(O:Nat → Prop)(T:Tn)(h:TxnAt c w O T)(i:Nat)(hi:i < c.N) :
    Calls Tryz.prog 37 #[.pointer (some ⟨c.t,0,none⟩),.int .i64 (i:Int)] w fun e w' => (∃ g cp,e=.returned (.tuple #[.slice (some ⟨g,0,none⟩) 512 cp,.int .i64 0]) ∧ Rw w' g (T.view c.D i) ∧ w.heap.size ≤ g ∧ 512 ≤ cp) ∧ Below w.heap.size w w':=by
  obtain ⟨Dm,U,uc,ucs,hI,hM,_⟩:=h.ex
  have hD:=h.diskAt
  have hvl:=h.view_len hi
  have hup:=h.up
  have hlen:=h.len
  clear h
  obtain ⟨base,a,d,t,b,N,D⟩:=c
  simp only at hI hM hD hvl hup hlen hi ⊢
  have hlN:D.lasts.length ≤ 16384:=hD.1.2.1
  have c0:w.cell? ⟨t,0,none⟩=some (.pointer (some ⟨d,0,none⟩)):=hI.cell 0
  have c1:w.cell? ⟨t,1,none⟩=some (.map (some b)):=hI.cell 1
  have c3:w.cell? ⟨t,3,none⟩=some (.bool false):=hI.cell 3
  obtain ⟨v,ps,hrun,hv⟩:=(hM.look i (by omega) w rfl).1
  have hval:=hM.val hv
  have HD:=Lib.hid hD
  have HDN:=Lib.hid hup
  have HNN:=Lib.hid hlen
  have HVL:=Lib.hid hvl
  have hi1:(0:Int) ≤ (i:Int):=by omega
  have hi2:(i:Int) < (N:Int):=by omega
  have HIL:=Lib.hid (show i < D.lasts.length by omega)
  clear hD hup hI hM hv hlen hlN hvl
  rcases hval with ⟨hP,hh,rfl⟩ | ⟨l,g,c,hP,hh,hl5,rfl,hbuf⟩
  · rw [hh] at hrun
    have HS:=Lib.hid (show T.view D i=D.read i by unfold Tn.view; rw [hP]; rfl)
    clear hP hh
    go_enter Tryz.func37,Tryz.ntmps37
    go_wp2_with (first
      | (go_at_call 70
         refine (blocks_any base a d D _ HD.out).mono ?_
         rw [HNN.out]
         rintro e w1 ⟨rfl,rfl⟩)
      | (go_at_call 72
         refine (dread_ok base a d D i w HD.out HDN.out HIL.out).mono ?_
         rintro e w2 ⟨⟨g2,rfl,hg2,hIg⟩,hb2⟩
         have HB2:=Lib.hid hb2
         have HBY:=Lib.hid (rw_sec hIg)
         have HG2:=Lib.hid hg2
         clear hb2 hIg hg2))
    go_ret2
    exact ⟨⟨_,512,rfl,by rw [HS.out]; exact HBY.out,HG2.out,Nat.le_refl _⟩,HB2.out⟩
  · rw [hh] at hrun
    have HS:=Lib.hid (show T.view D i=l by unfold Tn.view; rw [hP]; rfl)
    have HB5:=Lib.hid hl5
    obtain ⟨gb,rfl,_,hbuf⟩:=hbuf
    have HBF:=Lib.hid hbuf.bytes
    clear hP hh hl5 hbuf
    go_enter Tryz.func37,Tryz.ntmps37
    go_wp2_with (first
      | (go_at_call 70
         refine (blocks_any base a d D _ HD.out).mono ?_
         rw [HNN.out]
         rintro e w1 ⟨rfl,rfl⟩)
      | (go_at_call 71
         refine (clone8_any (some ⟨gb,0,none⟩) 512 c l HB5.out _ HBF.out (fun h => by cases h) (by simp) (by decide)).mono ?_
         rintro e w5 ⟨⟨A5,c5,rfl,hM5⟩,hb5⟩
         obtain ⟨g5,rfl,hg5,_⟩:=hM5.form (by have:=HB5.out; omega)
         have HB2:=Lib.hid hb5
         have HBY:=Lib.hid (Rw.of_mine hM5 (by intro e; have:=HB5.out; rw [e] at this; cases this))
         have HG5:=Lib.hid hg5
         have HCP5:=Lib.hid (show 512 ≤ c5 by have:=hM5.cap_le.1; rw [HB5.out] at this; exact this)
         clear hb5 hM5 hg5))
    go_ret2
    exact ⟨⟨_,c5,rfl,by rw [HS.out]; exact HBY.out,HG5.out,HCP5.out⟩,HB2.out⟩
theorem not_map {w:World}{g b:Nat}{t:TypeId}{cs:Array Value}{es:Array MapEntry}{clock:Nat}(hI:Is w g t cs)(hb:w.heap[b]? = some (.map es clock)):g ≠ b:=fun e => by
  subst e
  rw [show w.heap[g]? = _ from hI] at hb
  injection hb with hb
  cases hb
theorem Buf.turned {w w6:World}{a:Option Nat}{A:Option Addr}{l:List UInt8}{b:Nat}{es:Array MapEntry}{clock:Nat}(h:Buf w 0 a A l)(hb:w.heap[b]? = some (.map es clock))(hg:w.grownBy w6 (some b)):Buf w6 0 a A l:=by
  rcases h with h | ⟨g,off,cs,t,f,rfl,hq,hs,hc⟩
  · exact .inl h
  · refine Buf.same (.inr ⟨g,off,cs,t,f,rfl,hq,hs,hc⟩) (fun g' off' e => ?_)
    injection e with e
    injection e with e1 e2
    subst e1
    refine hg.block g (Array.getElem?_eq_some_iff.1 hq).1 (fun e => ?_)
    injection e with e
    subst e
    rw [hb] at hq
    cases hq
theorem Hb.turned {w w6:World}{O:Nat → Prop}{a:Nat}{A:Addr}{l:List UInt8}{b:Nat}{es:Array MapEntry}{clock:Nat}(h:Hb w O a A l)(hb:w.heap[b]? = some (.map es clock))(hg:w.grownBy w6 (some b)):Hb w6 O a A l:=by
  obtain ⟨g,rfl,ho,h⟩:=h
  exact ⟨g,rfl,ho,h.turned hb hg⟩
theorem MapIn.store {w w6:World}{O:Nat → Prop}{a b N n i c:Nat}{ga:Addr}{P:Nat → Option (List UInt8)}{D:DataW Value}{l:List UInt8}(h:MapIn w O a b N P D)(hi0:98 ≤ i)(hi:i < N)(h5:l.length=512)
    (hown:w6.ownsMap Tryz.prog 3 RV b n (D.put (keyD i) (.held (.slice (some ga) 512 c))))(hg:w.grownBy w6 (some b))(hbuf:Hb w O a ga l) :
    MapIn w6 O a b N (fun j => if j=i then some l else P j) (D.put (keyD i) (.held (.slice (some ga) 512 c))):=by
  have hM:=h.own.isMap
  have hne:∀ j:Nat,j ≠ i → keyD j ≠ keyD i:=fun j hj e => hj (by injection e with _ e; omega)
  obtain ⟨es,clock,hb⟩:=ownsMap_isMap h.own
  refine ⟨ownsMap_tight hown,fun x hx => ?_,fun j hj => ?_,fun j l' hj => ?_⟩
  · by_cases e:(Lit.int .i64 x)=keyD i
    · exact ⟨i,by injection e with _ e,hi0,hi,by simp⟩
    · rw [Maps.has_put_other e] at hx
      obtain ⟨j,rfl,q1,q2,q3⟩:=h.keys x hx
      refine ⟨j,rfl,q1,q2,?_⟩
      by_cases ej:j=i
      · simp [ej]
      · simp [ej,q3]
  · by_cases ej:j=i
    · simp [ej] at hj
    · simp [ej] at hj
      rw [Maps.has_put_other (hne j ej)]
      exact h.no j hj
  · by_cases ej:j=i
    · subst ej
      simp at hj
      subst hj
      exact ⟨Maps.has_put_same (k:=keyD j) hM trivial _,h5,ga,c,Maps.atKey_put_same (k:=keyD j) hM trivial _ _,hbuf.turned hb hg⟩
    · simp [ej] at hj
      obtain ⟨q1,q2,g',c',q3,q4⟩:=h.yes j l' hj
      exact ⟨by rw [Maps.has_put_other (hne j ej)]; exact q1,q2,g',c',by rw [Maps.atKey_put_other (hne j ej)]; exact q3,q4.turned hb hg⟩
theorem MapIn.drop {w w6:World}{O:Nat → Prop}{a b N n i:Nat}{P:Nat → Option (List UInt8)}{D:DataW Value}(h:MapIn w O a b N P D)
    (hown:w6.ownsMap Tryz.prog 3 RV b n (D.del (keyD i)))(hg:w.grownBy w6 (some b)) :
    MapIn w6 O a b N (fun j => if j=i then none else P j) (D.del (keyD i)):=by
  have hne:∀ j:Nat,j ≠ i → keyD j ≠ keyD i:=fun j hj e => hj (by injection e with _ e; omega)
  obtain ⟨es,clock,hb⟩:=ownsMap_isMap h.own
  refine ⟨ownsMap_tight hown,fun x hx => ?_,fun j hj => ?_,fun j l' hj => ?_⟩
  · by_cases e:(Lit.int .i64 x)=keyD i
    · rw [e,Maps.has_del_same] at hx; cases hx
    · rw [Maps.has_del_other e] at hx
      obtain ⟨j,rfl,q1,q2,q3⟩:=h.keys x hx
      refine ⟨j,rfl,q1,q2,?_⟩
      by_cases ej:j=i
      · exact absurd (by rw [ej]) e
      · simp [ej,q3]
  · by_cases ej:j=i
    · rw [ej]; exact Maps.has_del_same
    · simp [ej] at hj
      rw [Maps.has_del_other (hne j ej)]
      exact h.no j hj
  · by_cases ej:j=i
    · simp [ej] at hj
    · simp [ej] at hj
      obtain ⟨q1,q2,g',c',q3,q4⟩:=h.yes j l' hj
      exact ⟨by rw [Maps.has_del_other (hne j ej)]; exact q1,q2,g',c',by rw [Maps.atKey_del_other (hne j ej)]; exact q3,q4.turned hb hg⟩
theorem TxnAt.turned {c:Cx}{w w6:World}{O:Nat → Prop}{T:Tn}{P:Nat → Option (List UInt8)}{Dm D6:DataW Value}{U:Option Addr}{uc:Nat}{ucs:List Value}(h:TxnAt c w O T)(hM:MapIn w O c.a c.b c.N T.P Dm)
    (hI:Is w c.t 80 #[.pointer (some ⟨c.d,0,none⟩),.map (some c.b),.slice U T.H.length uc,.bool false])(hO:Own w 0 1 1 U T.H.length uc ucs)(ho:∀ g,Of U g → O g)(hu:Undos w O c.t c.a ucs T.H)
    (hg:w.grownBy w6 (some c.b))(hM6:MapIn w6 O c.a c.b c.N P D6):TxnAt c w6 O ⟨P,T.H⟩:=by
  obtain ⟨es,clock,hb⟩:=ownsMap_isMap hM.own
  obtain ⟨F,hF,hD⟩:=h.disk
  have kI:∀ {g t cs},Is w g t cs → Is w6 g t cs:=fun hi => (hg.block _ hi.lt (by have:=not_map hi hb; intro e; injection e with e; exact this e)).trans hi
  have hFk:∀ k,F k → w6.heap[k]? = w.heap[k]?:=fun k hk => hg.block k (h.lt k (hF k hk).1) (fun e => by
    injection e with e
    subst e
    exact not_tk_map hb _ (hF _ hk).2)
  have hdisk:∃ F:Nat → Prop,(∀ k,F k → O k ∧ Tk w6 k diskF) ∧ ∀ w2,Agree F w6 w2 → DiskAt w2 c.base c.a c.d c.D :=
    ⟨F,fun k hk => ⟨(hF k hk).1,(hF k hk).2.same (hFk k hk)⟩,fun w2 hw2 => hD w2 (fun k hk => (hw2 k hk).trans (hFk k hk))⟩
  exact ⟨h.up,h.len,fun k hk => Nat.lt_of_lt_of_le (h.lt k hk) hg.size,hdisk,h.own,h.ownb,h.his,D6,U,uc,ucs,kI hI,hM6,hO.kept (fun g hg' => by obtain ⟨_,cur,hi⟩:=hO.typed g hg'; exact (kI hi).trans hi.symm),ho,
    hu.1,fun j hj => by
      obtain ⟨v,q1,bo,bw,bt,bi,hv,o1,o2,o3,o4,h1,h2,h3,h4⟩:=hu.2 j hj
      refine ⟨v,q1,bo,bw,bt,bi,hv,o1,o2,o3,o4,kI h1,kI h2,kI h3,?_⟩
      rcases h4 with ⟨h5,h6⟩ | ⟨l,g,cc,h5,h6,h7,h8⟩
      · exact .inl ⟨h5,kI h6⟩
      · exact .inr ⟨l,g,cc,h5,h6,kI h7,h8.turned hb hg⟩⟩
end Go.Proofs.YthkijogloebdoaaGreatDoor
end
section
namespace Go.Proofs.YthkijogloebdoaaGreatDoor
open Go.RowKit Go.Maps
set_option maxRecDepth 100000 in
set_option maxHeartbeats 1600000 in
theorem undo1_any (c:Cx)(w:World)(O:Nat → Prop)(T:Tn)(h:TxnAt c w O T)(j:Nat)(hj:j < T.H.length)(hn:c.N ≤ 1000000)(bo bw bt bi:Nat)(o1:O bo)(o2:O bw)(o3:O bt)(o4:O bi)
    (h1:Is w bo 4 #[.bool T.H[j].2.isSome])(h2:Is w bt 36 #[.pointer (some ⟨c.t,0,none⟩)])(h3:Is w bi 3 #[.int .i64 (T.H[j].1:Int)])
    (h4:(T.H[j].2=none ∧ Is w bw 28 #[.slice none 0 0]) ∨ ∃ l g cc,T.H[j].2=some l ∧ l.length=512 ∧ Is w bw 28 #[.slice (some g) 512 cc] ∧ Hb w O c.a g l) :
    Calls Tryz.prog 73 #[.pointer (some ⟨bo,0,none⟩),.pointer (some ⟨bw,0,none⟩),.pointer (some ⟨bt,0,none⟩),.pointer (some ⟨bi,0,none⟩)] w fun e w' =>
      e=.returned (.tuple #[]) ∧ TxnAt c w' O ⟨Tn.undo1 T.P T.H[j],T.H⟩ ∧ Fr w O w' O:=by
  obtain ⟨hx0,hx1⟩:=h.his _ (List.getElem_mem hj)
  have hown:=h.ownb
  obtain ⟨Dm,U,uc,ucs,hI,hM,hO,ho,hu⟩:=h.ex
  obtain ⟨⟨i,was⟩,hx⟩:∃ x,T.H[j]=x:=⟨_,rfl⟩
  rw [hx] at h1 h3 h4 hx0 hx1 ⊢
  simp only at h1 h3 h4 hx0 hx1
  have c1:w.cell? ⟨bo,0,none⟩=some (.bool was.isSome):=h1.cell 0
  have c2:w.cell? ⟨bt,0,none⟩=some (.pointer (some ⟨c.t,0,none⟩)):=h2.cell 0
  have c3:w.cell? ⟨bi,0,none⟩=some (.int .i64 (i:Int)):=h3.cell 0
  have ct:w.cell? ⟨c.t,1,none⟩=some (.map (some c.b)):=hI.cell 1
  have hkey:keyOf Tryz.prog 3 (.int .i64 (i:Int))=some (keyD i):=keyOf_int_mk Tryz.underlying3 (wf_i64 _ (by omega) (by omega))
  have hfr:∀ w6,w.drew.mapTurned w6 c.b → Fr w O w6 O:=fun w6 ht => ⟨⟨ht.grown.os,ht.grown.tape,ht.grown.output,ht.grown.size,fun k hk hn' => ht.grown.block k hk (fun e => by injection e with e; exact hn' (e ▸ hown))⟩,fun k hk => .inl hk⟩
  have HFR:=Lib.hid hfr
  rcases h4 with ⟨rfl,h4⟩ | ⟨l,g,cc,rfl,hl5,h4,hb⟩
  · obtain ⟨w6,hrun,hown6,hturn⟩:=hM.own.drew.drop (int_keyed Tryz.underlying3) Tryz.underlying45 hkey 0
    have hgr:w.grownBy w6 (some c.b):=⟨hturn.grown.os,hturn.grown.tape,hturn.grown.output,hturn.grown.size,hturn.grown.block⟩
    have hfin:TxnAt c w6 O ⟨Tn.undo1 T.P (i,none),T.H⟩:=h.turned hM hI hO ho hu hgr (hM.drop hown6 hgr)
    have HFIN:=Lib.hid hfin
    have HT:=Lib.hid hturn
    generalize c.t=t at c2 ct
    generalize c.b=b at ct hrun
    clear hI hM hO ho hu h h1 h2 h3 h4 hfin hown6 hturn hgr hfr hown hkey hx
    go_enter Tryz.func73,Tryz.ntmps73
    go_wp2_with fail
    go_region
    go_wp2_with fail
    go_end0
    exact ⟨rfl,HFIN.out,HFR.out _ HT.out⟩
  · have hby:=hb
    have c4:w.cell? ⟨bw,0,none⟩=some (.slice (some g) 512 cc):=h4.cell 0
    obtain ⟨w6,hrun,hown6,hturn⟩:=hM.own.drew.store (int_keyed Tryz.underlying3) Tryz.underlying45 (by
      obtain ⟨k1,k2,k3⟩:=mem_intKeys hM.own
      have:=(hM.few (S:=(List.range c.N)) (fun i hi => by
        cases hP:T.P i with
        | none => exact absurd hP hi
        | some l' =>
          obtain ⟨q1,_⟩:=hM.yes i l' hP
          obtain ⟨i',e,_,q,_⟩:=hM.keys i q1
          rw [List.mem_range]; omega)).1
      rw [List.length_range] at this
      simp only [maxLen]; omega) (key:=.int .i64 (i:Int)) (val:=.slice (some g) 512 cc) (kl:=keyD i) (d:=.held (.slice (some g) 512 cc)) (ps := []) hkey rfl
    have hgr:w.grownBy w6 (some c.b):=⟨hturn.grown.os,hturn.grown.tape,hturn.grown.output,hturn.grown.size,hturn.grown.block⟩
    have hfin:TxnAt c w6 O ⟨Tn.undo1 T.P (i,some l),T.H⟩:=h.turned hM hI hO ho hu hgr (hM.store hx0 hx1 hl5 hown6 hgr hb)
    have HFIN:=Lib.hid hfin
    have HT:=Lib.hid hturn
    generalize c.t=t at c2 ct
    generalize c.b=b at ct hrun
    clear hI hM hO ho hu h h1 h2 h3 h4 hfin hown6 hturn hgr hfr hown hkey hx hb hby
    go_enter Tryz.func73,Tryz.ntmps73
    go_wp2_with fail
    go_region
    go_wp2_with fail
    go_end0
    exact ⟨rfl,HFIN.out,HFR.out _ HT.out⟩
theorem TxnAt.cutH {c:Cx}{w:World}{O:Nat → Prop}{P:Nat → Option (List UInt8)}{H:List (Nat × Option (List UInt8))}{Dm:DataW Value}{U:Option Addr}{uc:Nat}{ucs:List Value}(h:TxnAt c w O ⟨P,H⟩)
    (hI:Is w c.t 80 #[.pointer (some ⟨c.d,0,none⟩),.map (some c.b),.slice U H.length uc,.bool false])(hM:MapIn w O c.a c.b c.N P Dm)(hO:Own w 0 1 1 U H.length uc ucs)(ho:∀ g,Of U g → O g)(hu:Undos w O c.t c.a ucs H)(m:Nat)(hm:m ≤ H.length) :
    TxnAt c (w.setCell ⟨c.t,2,none⟩ (.slice U m uc)) O ⟨P,H.take m⟩:=by
  have hl:(H.take m).length=m:=by rw [List.length_take]; omega
  obtain ⟨F,hF,hD⟩:=h.disk
  have hoth:∀ k,k ≠ c.t → (w.setCell ⟨c.t,2,none⟩ (.slice U m uc)).heap[k]? = w.heap[k]?:=fun k hk => heap_setCell_other w ⟨c.t,2,none⟩ k _ hk
  have hFk:∀ k,F k → (w.setCell ⟨c.t,2,none⟩ (.slice U m uc)).heap[k]? = w.heap[k]?:=fun k hk => hoth k (fun e => by subst e; exact not_tk_is hI (by simp [diskF]) (hF _ hk).2)
  have kI:∀ {g t cs},Is w g t cs → t ≠ 80 → Is (w.setCell ⟨c.t,2,none⟩ (.slice U m uc)) g t cs:=fun hi ht => (hoth _ (is_ne hi hI ht)).trans hi
  have kB:∀ {A:Addr} {l:List UInt8},l.length=512 → Hb w O c.a A l → Hb (w.setCell ⟨c.t,2,none⟩ (.slice U m uc)) O c.a A l:=fun {A l} h5 ⟨g,e,og,hb⟩ => by
    subst e
    refine ⟨g,rfl,og,hb.same (fun g' off e => ?_)⟩
    injection e with e
    injection e with e1 e2
    subst e1
    refine hoth _ (fun e => ?_)
    rcases hb with hb | ⟨g2,off2,cs2,t2,f2,e3,hg2,hs2,_⟩
    · rw [hb] at h5; cases h5
    · injection e3 with e3
      injection e3 with e3 e4
      subst e3
      rw [e,show w.heap[c.t]? = _ from hI] at hg2
      injection hg2 with hg2
      injection hg2 with _ hg2
      rcases hs2 with hs2 | ⟨_,hs2⟩
      · omega
      · rw [← hg2] at hs2; revert hs2; decide
  obtain ⟨es,clock,hb⟩:=ownsMap_isMap hM.own
  have hbt:c.b ≠ c.t:=fun e => not_map hI hb e.symm
  have hO2:Own w 0 1 1 U m uc (ucs.take m):=by
    obtain ⟨h1,h2⟩:=hO
    refine ⟨by rw [List.length_take]; omega,?_⟩
    rcases h2 with ⟨hv,h0⟩ | ⟨g,cap,cur,hv,hg,hh,hn,hcap,hsz,htk⟩
    · injection hv with e1 e2 e3
      subst e1 e3
      exact .inl ⟨by rw [show m=0 by omega],by omega⟩
    · injection hv with e1 e2 e3
      subst e1 e3
      refine .inr ⟨g,uc,cur,rfl,hg,hh,by omega,hcap,hsz,?_⟩
      rw [← htk,List.take_take]
      congr 1
      omega
  have hI2:=hI.put 2 (.slice U m uc)
  refine ⟨h.up,h.len,fun k hk => by rw [World.size_setCell]; exact h.lt k hk,⟨F,fun k hk => ⟨(hF k hk).1,(hF k hk).2.same (hFk k hk)⟩,fun w2 hw2 => hD w2 (fun k hk => (hw2 k hk).trans (hFk k hk))⟩,h.own,h.ownb,
    fun x hx => h.his x (List.mem_of_mem_take hx),Dm,U,uc,ucs.take m,by rw [hl]; exact hI2,
    ⟨ownsMap_heap hM.own (hoth _ hbt),hM.keys,hM.no,fun i l hi => by obtain ⟨q1,q2,g,c',q3,q4⟩:=hM.yes i l hi; exact ⟨q1,q2,g,c',q3,kB q2 q4⟩⟩,
    by rw [hl]; exact hO2.kept (fun g hg => by obtain ⟨_,cur,hi⟩:=hO2.typed g hg; exact hoth g (is_ne hi hI (by decide))),ho,by show (ucs.take m).length=(H.take m).length; rw [hl,List.length_take,hu.1]; omega,fun j hj => ?_⟩
  have hjm:j < m:=by rw [show (⟨P,H.take m⟩:Tn).H=H.take m from rfl,hl] at hj; exact hj
  obtain ⟨v,q1,bo,bw,bt,bi,hv,o1,o2,o3,o4,h1,h2,h3,h4⟩:=hu.2 j (by omega)
  refine ⟨v,by rw [List.getElem?_take_of_lt hjm]; exact q1,bo,bw,bt,bi,hv,o1,o2,o3,o4,?_⟩
  rw [show (⟨P,H.take m⟩:Tn).H[j]=H[j] from List.getElem_take]
  refine ⟨kI h1 (by decide),kI h2 (by decide),kI h3 (by decide),?_⟩
  rcases h4 with ⟨h5,h6⟩ | ⟨l,g,cc,h5,h6,h7,h8⟩
  · exact .inl ⟨h5,kI h6 (by decide)⟩
  · exact .inr ⟨l,g,cc,h5,h6,kI h7 (by decide),kB h6 h8⟩
theorem Tn.unwind_cons (P:Nat → Option (List UInt8))(x:Nat × Option (List UInt8))(H:List (Nat × Option (List UInt8))):Tn.unwind P (x :: H)=Tn.undo1 (Tn.unwind P H) x:=by
  unfold Tn.unwind; rw [List.reverse_cons,List.foldl_append]; rfl
set_option maxRecDepth 100000 in
set_option maxHeartbeats 1600000 in
theorem tback_any (c:Cx)(w:World)(O:Nat → Prop)(T:Tn)(h:TxnAt c w O T)(m:Nat)(hm:m ≤ T.H.length)(hT:T.H.length ≤ 1000000000)(hn:c.N ≤ 1000000) :
    Calls Tryz.prog 62 #[.pointer (some ⟨c.t,0,none⟩),.int .i64 (m:Int)] w fun e w' => e=.returned (.int .i64 0) ∧ TxnAt c w' O (T.back m) ∧ Fr w O w' O:=by
  obtain ⟨Dm,U,uc,ucs,hI,hM,hO,ho,hu⟩:=h.ex
  have c2:w.cell? ⟨c.t,2,none⟩=some (.slice U T.H.length uc):=hI.cell 2
  have c3:w.cell? ⟨c.t,3,none⟩=some (.bool false):=hI.cell 3
  have h0:TxnAt c w O ⟨Tn.unwind T.P (T.H.drop T.H.length),T.H⟩:=by rw [List.drop_length]; exact h
  have HH:=Lib.hid h0
  obtain ⟨len,hlen⟩:∃ len,T.H.length=len:=⟨_,rfl⟩
  have HLEN:=Lib.hid hlen
  rw [hlen] at c2 hm hT
  clear hI hM hO ho hu h h0 hlen
  obtain ⟨t,ht⟩:∃ t,c.t=t:=⟨_,rfl⟩
  rw [ht] at c2 c3 ⊢
  have HTT:=Lib.hid ht
  clear ht
  go_enter Tryz.func62,Tryz.ntmps62
  go_wp2_with fail
  go_loopw [5] (fun i wr => ∃ k:Nat,m ≤ k ∧ k ≤ len ∧ i=.int .i64 ((k:Int) - 1) ∧ TxnAt c wr O ⟨Tn.unwind T.P (T.H.drop k),T.H⟩ ∧ Fr w O wr O) (fun i _ => (intOf i + 1).toNat)
  case atStart => exact ⟨len,hm,Nat.le_refl _,by go_num,by have:=HH.out; rw [HLEN.out] at this; exact this,Fr.refl _ _⟩
  case round =>
    obtain ⟨k,hmk,hk,rfl,hx,hf⟩:=hrel
    obtain ⟨Dm,U2,uc2,ucs2,hI,hM,hO,ho,hu⟩:=hx.ex
    simp only at hI hM hO ho hu
    have ct2:wr.cell? ⟨c.t,2,none⟩=some (.slice U2 T.H.length uc2):=hI.cell 2
    have ctf:=hI.free 2
    rw [HLEN.out] at ct2
    have HI:=Lib.hid hI
    have HM:=Lib.hid hM
    have HO:=Lib.hid hO
    have HOO:=Lib.hid ho
    have HU:=Lib.hid hu
    rw [HTT.out] at ct2 ctf
    have HX:=Lib.hid hx
    have HF:=Lib.hid hf
    by_cases hlt:m < k
    · have hk1:k - 1 < T.H.length:=by rw [HLEN.out]; omega
      obtain ⟨v,hv,bo,bw,bt,bi,rfl,o1,o2,o3,o4,q1,q2,q3,q4⟩:=hu.2 (k - 1) hk1
      obtain ⟨gu,rfl,_,_⟩:=hO.form (by omega)
      have hcu:=hO.cell (k - 1) (by omega)
      rw [hv] at hcu
      have hki:(k:Int) - 1=((k - 1:Nat):Int):=by omega
      have e1:T.H.drop (k - 1)=T.H[k - 1] :: T.H.drop k:=by
        have:=List.drop_eq_getElem_cons hk1
        rw [this,show k - 1 + 1=k by omega]
      have hC:=undo1_any c wr O ⟨Tn.unwind T.P (T.H.drop k),T.H⟩ hx (k - 1) hk1 hn bo bw bt bi o1 o2 o3 o4 q1 q2 q3 q4
      obtain ⟨x,hxe⟩:∃ x,T.H[k - 1]=x:=⟨_,rfl⟩
      simp only [hxe] at hC e1
      have HC:=Lib.hid hC
      have HE1:=Lib.hid e1
      rw [hki]
      have hk0:m ≤ k - 1:=by omega
      have hk8:k - 1 < len:=by omega
      have hk9:k=(k - 1) + 1:=by omega
      have HK9:=Lib.hid hk9
      clear hx hf hI hM hO ho hu e1 hki q1 q2 q3 q4 o1 o2 o3 o4 hv hlt hmk hk hk9 hxe hC hk1
      generalize k - 1=k0 at hcu hk0 hk8 HE1 HK9 ⊢
      go_wp2_with (go_at_call 73; refine HC.out.mono ?_; rintro e w1 ⟨rfl,hx1,hf1⟩; have HX1:=Lib.hid hx1; have HF1:=Lib.hid hf1; clear hx1 hf1)
      go_roundw
      case rel =>
        have e1:decide (len < m)=false:=decide_eq_false (by omega)
        rw [e1,Bool.or_false]
        exact ⟨_,_,_,_,_,_,_,_,_,_,_,_,_,_,⟨k0,hk0,by omega,by go_num,by rw [HE1.out,Tn.unwind_cons]; exact HX1.out,HF.out.trans HF1.out⟩,rfl⟩
      case measure => simp [intOf]
    · obtain rfl:k=m:=by omega
      have hcap:(k:Int) ≤ (uc2:Int):=by have:=hO.cap_le.1; rw [HLEN.out] at this; omega
      have hcap2:k ≤ uc2:=by omega
      clear hx hf hI hM hO ho hu hlt
      go_wp2_with fail
      go_ret
      have hm0:k ≤ T.H.length:=by rw [HLEN.out]; exact hk
      have hfin:=HX.out.cutH HI.out HM.out HO.out HOO.out HU.out k hm0
      rw [HTT.out] at hfin
      exact ⟨rfl,hfin,HF.out.trans ⟨(keeps_set wr t 2 _).mono (fun i e => by have:=HX.out.own; rw [HTT.out] at this; exact e ▸ this),fun k hk => .inl hk⟩⟩
end Go.Proofs.YthkijogloebdoaaGreatDoor
end
section
namespace Go.Proofs.YthkijogloebdoaaGreatDoor
open Go.RowKit Go.Maps
theorem infoFu:(Tryz.prog.info? 1).map (fun i => (i.zero,i.size,i.bytes))=some (some .nilFunc,1,8):=by kernel_rfl
theorem DiskAt.drewN {w:World}{base a d:Nat}{D:Dk}(h:DiskAt w base a d D)(n:Nat):DiskAt (w.drewN n) base a d D :=
  h.kt (Ts := []) (s:=none) (KT.drewN w n) (by simp) (by simp) (by simp) (by simp) (by simp) (fun b e => by cases e)
theorem blocks_q {w:World}{base a d:Nat}{D:Dk}(h:DiskAt w base a d D){N:Nat}(hN:D.lasts.length=N)(n:Nat):Calls Tryz.prog 70 #[.pointer (some ⟨d,0,none⟩)] (w.drewN n) fun e w' => e=.returned (.int .i64 (N:Int)) ∧ w'=w.drewN n:=by
  refine (blocks_any base a d D _ (h.drewN n)).mono ?_
  rw [hN]
  rintro e w' ⟨rfl,rfl⟩
  exact ⟨rfl,rfl⟩
def Boxes (w:World)(O:Nat → Prop)(t a bo bw bt bi:Nat)(i:Nat)(was:Option (List UInt8)):Prop :=
  Is w bo 4 #[.bool was.isSome] ∧ Is w bt 36 #[.pointer (some ⟨t,0,none⟩)] ∧ Is w bi 3 #[.int .i64 (i:Int)] ∧
    ((was=none ∧ Is w bw 28 #[.slice none 0 0]) ∨ ∃ l g c,was=some l ∧ l.length=512 ∧ Is w bw 28 #[.slice (some g) 512 c] ∧ Hb w O a g l)
theorem Boxes.lt {w:World}{O:Nat → Prop}{t a bo bw bt bi i:Nat}{was:Option (List UInt8)}(h:Boxes w O t a bo bw bt bi i was):bo < w.heap.size ∧ bw < w.heap.size ∧ bt < w.heap.size ∧ bi < w.heap.size:=by
  obtain ⟨h1,h2,h3,h4⟩:=h
  refine ⟨h1.lt,?_,h2.lt,h3.lt⟩
  rcases h4 with ⟨_,h4⟩ | ⟨_,_,_,_,_,h4,_⟩
  · exact h4.lt
  · exact h4.lt
def twoW (w:World)(t:Nat)(i:Nat):World:=(w.alloc (.cells #[.pointer (some ⟨t,0,none⟩)] 36)).alloc (.cells #[.int .i64 (i:Int)] 3)
theorem TxnAt.grewH {c:Cx}{w wx:World}{O:Nat → Prop}{T:Tn}(h:TxnAt c w O T)(i:Nat)(hi0:98 ≤ i)(hi:i < c.N)(bo bw bt bi:Nat){was:Option (List UInt8)}(hb:Boxes w O c.t c.a bo bw bt bi i was)
    (n1:¬ O bo)(n2:¬ O bw)(n3:¬ O bt)(n4:¬ O bi){U2:Option Addr}{uc2:Nat}{ucs:List Value}{U:Option Addr}{uc:Nat}(hI0:Is w c.t 80 #[.pointer (some ⟨c.d,0,none⟩),.map (some c.b),.slice U T.H.length uc,.bool false])(hu:Undos w O c.t c.a ucs T.H)(ho:∀ g,Of U g → O g)
    (hI:Is wx c.t 80 #[.pointer (some ⟨c.d,0,none⟩),.map (some c.b),.slice U2 (T.H.length + 1) uc2,.bool false])
    (hO:Own wx 0 1 1 U2 (T.H.length + 1) uc2 (ucs ++ [.func (.func 73) #[] #[.pointer (some ⟨bo,0,none⟩),.pointer (some ⟨bw,0,none⟩),.pointer (some ⟨bt,0,none⟩),.pointer (some ⟨bi,0,none⟩)]]))
    (hk:Keeps (fun k => k=c.t ∨ Of U k) w wx)(hOu:∀ g,Of U g → Tk w g [1]) :
    TxnAt c wx (fun k => O k ∨ k=bo ∨ k=bw ∨ k=bt ∨ k=bi ∨ Of U2 k) ⟨T.P,T.H ++ [(i,was)]⟩ ∧ Keeps O w wx:=by
  obtain ⟨F,hF,hD⟩:=h.disk
  obtain ⟨Dm,U',uc',ucs',hI',hM,_⟩:=h.ex
  have hkb:∀ k,k < w.heap.size → ¬ Tk w k [80,1] → wx.heap[k]? = w.heap[k]?:=fun k hk' hn => hk.block k hk' (fun e => by
    rcases e with e | e
    · subst e; exact hn (tk_of hI0 (by simp))
    · obtain ⟨cs,t,f,q1,q2⟩:=hOu k e
      exact hn ⟨cs,t,f,q1,by simp at q2; subst q2; simp⟩)
  have hFk:∀ k,F k → wx.heap[k]? = w.heap[k]?:=fun k hk' => hkb k (h.lt k (hF k hk').1) (fun ⟨cs,t,f,q1,q2⟩ => by
    obtain ⟨cs',t',f',q3,q4⟩:=(hF k hk').2
    rw [q1] at q3
    injection q3 with q3
    injection q3 with _ q3
    subst q3
    simp [diskF] at q2 q4
    rcases q2 with rfl | rfl <;> revert q4 <;> decide)
  have kI:∀ {g t cs},Is w g t cs → t ∉ [80,1] → Is wx g t cs:=fun hi ht => (hkb _ hi.lt (not_tk_is hi ht)).trans hi
  have kB:∀ {A:Addr} {l:List UInt8},l.length=512 → Hb w O c.a A l → Hb wx (fun k => O k ∨ k=bo ∨ k=bw ∨ k=bt ∨ k=bi ∨ Of U2 k) c.a A l:=fun {A l} h5 ⟨g,e,og,hb⟩ => by
    subst e
    refine ⟨g,rfl,.inl og,hb.same (fun g' off e => ?_)⟩
    injection e with e
    injection e with e1 e2
    subst e1
    refine hkb _ (h.lt _ og) (fun ⟨cs,t,f,q1,q2⟩ => ?_)
    rcases hb with hb | ⟨g2,off2,cs2,t2,f2,e3,hg2,hs2,_⟩
    · rw [hb] at h5; cases h5
    · injection e3 with e3
      injection e3 with e3 e4
      subst e3
      rw [q1] at hg2
      injection hg2 with hg2
      injection hg2 with _ hg2
      subst hg2
      rcases hs2 with hs2 | ⟨_,hs2⟩
      · omega
      · simp at q2 hs2
        rcases q2 with rfl | rfl <;> revert hs2 <;> decide
  have kU:∀ {bo' bw' bt' bi' j:Nat} {was':Option (List UInt8)},Boxes w O c.t c.a bo' bw' bt' bi' j was' → Boxes wx (fun k => O k ∨ k=bo ∨ k=bw ∨ k=bt ∨ k=bi ∨ Of U2 k) c.t c.a bo' bw' bt' bi' j was':=fun {bo' bw' bt' bi' j was'} ⟨q1,q2,q3,q4⟩ => by
    refine ⟨kI q1 (by decide),kI q2 (by decide),kI q3 (by decide),?_⟩
    rcases q4 with ⟨q5,q6⟩ | ⟨l,g,cc,q5,q6,q7,q8⟩
    · exact .inl ⟨q5,kI q6 (by decide)⟩
    · exact .inr ⟨l,g,cc,q5,q6,kI q7 (by decide),kB q6 q8⟩
  obtain ⟨es,clock,hbm⟩:=ownsMap_isMap hM.own
  have hbk:wx.heap[c.b]? = w.heap[c.b]?:=hkb _ hM.own.lt (not_tk_map hbm _)
  obtain ⟨l1,l2,l3,l4⟩:=hb.lt
  have hsz:=hk.size
  have hbx:=kU hb
  have hOlt:∀ g,Of U2 g → g < wx.heap.size:=fun g hg => hO.lt g hg
  refine ⟨⟨h.up,h.len,?_,⟨F,fun k hk' => ⟨.inl (hF k hk').1,(hF k hk').2.same (hFk k hk')⟩,fun w2 hw2 => hD w2 (fun k hk' => (hw2 k hk').trans (hFk k hk'))⟩,.inl h.own,.inl h.ownb,?_,Dm,U2,uc2,ucs ++ [.func (.func 73) #[] #[.pointer (some ⟨bo,0,none⟩),.pointer (some ⟨bw,0,none⟩),.pointer (some ⟨bt,0,none⟩),.pointer (some ⟨bi,0,none⟩)]],?_,⟨ownsMap_heap hM.own hbk,hM.keys,hM.no,fun i' l hi' => by obtain ⟨q1,q2,g,c',q3,q4⟩:=hM.yes i' l hi'; exact ⟨q1,q2,g,c',q3,kB q2 q4⟩⟩,?_,fun g hg => by simp [hg],?_⟩,?_⟩
  · rintro k (hk' | rfl | rfl | rfl | rfl | hk')
    · have:=h.lt k hk'; omega
    · omega
    · omega
    · omega
    · omega
    · exact hOlt k hk'
  · intro x hx
    rcases List.mem_append.1 hx with hx | hx
    · exact h.his x hx
    · simp at hx; subst hx; exact ⟨hi0,hi⟩
  · rw [show (⟨T.P,T.H ++ [(i,was)]⟩:Tn).H.length=T.H.length + 1 by simp]; exact hI
  · rw [show (⟨T.P,T.H ++ [(i,was)]⟩:Tn).H.length=T.H.length + 1 by simp]; exact hO
  · refine ⟨by simp [hu.1],fun j hj => ?_⟩
    simp at hj
    by_cases hjl:j < T.H.length
    · obtain ⟨v,q1,bo',bw',bt',bi',hv,o1,o2,o3,o4,q5,q6,q7,q8⟩:=hu.2 j hjl
      obtain ⟨r1,r2,r3,r4⟩:=kU ⟨q5,q6,q7,q8⟩
      have e:(⟨T.P,T.H ++ [(i,was)]⟩:Tn).H[j]'(by simp; omega)=T.H[j]:=List.getElem_append_left hjl
      refine ⟨v,by rw [List.getElem?_append_left (by rw [hu.1]; exact hjl)]; exact q1,bo',bw',bt',bi',hv,.inl o1,.inl o2,.inl o3,.inl o4,?_⟩
      rw [e]
      exact ⟨r1,r2,r3,r4⟩
    · obtain rfl:j=T.H.length:=by omega
      have e:(⟨T.P,T.H ++ [(i,was)]⟩:Tn).H[T.H.length]'(by simp)=(i,was):=by simp
      refine ⟨_,by rw [List.getElem?_append_right (by rw [hu.1]; exact Nat.le_refl _),hu.1,Nat.sub_self]; rfl,bo,bw,bt,bi,rfl,by simp,by simp,by simp,by simp,?_⟩
      rw [e]
      exact hbx
  · exact hk.mono (fun k e => by rcases e with rfl | e; exact h.own; exact ho k e)
end Go.Proofs.YthkijogloebdoaaGreatDoor
end
section
namespace Go.Proofs.YthkijogloebdoaaGreatDoor
open Go.RowKit Go.Maps
theorem Bytes.keeps {w w2:World}{A:Option Addr}{l:List UInt8}{S:Nat → Prop}(h:Bytes w A l)(k:Keeps S w w2)(hn:∀ g off,A=some ⟨g,off,none⟩ → ¬ S g):Bytes w2 A l:=by
  rcases h with rfl | ⟨b,off,rfl,h⟩
  · exact .inl rfl
  · exact .inr ⟨b,off,rfl,fun j hj => (World.cell?_of_block (a:=⟨b,off + j,none⟩) (k.block b (block_lt_of_cell (h j hj)) (hn b off rfl))).trans (h j hj)⟩
theorem TxnAt.more {c:Cx}{w:World}{O Q:Nat → Prop}{T:Tn}(h:TxnAt c w O T)(hs:∀ k,O k → Q k)(hq:∀ k,Q k → k < w.heap.size):TxnAt c w Q T:=by
  obtain ⟨F,hF,hD⟩:=h.disk
  obtain ⟨Dm,U,uc,ucs,h1,h2,h3,h4,h5,h6⟩:=h.ex
  exact ⟨h.up,h.len,hq,⟨F,fun k hk => ⟨hs k (hF k hk).1,(hF k hk).2⟩,hD⟩,hs _ h.own,hs _ h.ownb,h.his,Dm,U,uc,ucs,h1,h2.more hs,h3,fun g hg => hs g (h4 g hg),h5,fun j hj => by obtain ⟨v,q1,q2⟩:=h6 j hj; exact ⟨v,q1,q2.more hs⟩⟩
theorem TxnAt.lay {c:Cx}{wc w5:World}{O1:Nat → Prop}{P:Nat → Option (List UInt8)}{H:List (Nat × Option (List UInt8))}(h:TxnAt c wc O1 ⟨P,H⟩)(i:Nat)(hi0:98 ≤ i)(hi:i < c.N)(hN:c.N ≤ 16384){l:List UInt8}{base g5 c5:Nat}
    (hbc5:Below wc.heap.size wc w5)(hM5:Mine w5 base (some ⟨g5,0,none⟩) c5 l)(hg5:wc.heap.size ≤ g5)(h5:l.length=512) :
    ∃ (O2:Nat → Prop) (w6:World),(Instr.mapUpdate 45 (.map (some c.b)) (.int .i64 (i:Int)) (.slice (some ⟨g5,0,none⟩) 512 c5)).run Tryz.prog w5=.ok () w6 ∧ TxnAt c w6 O2 ⟨fun j => if j=i then some l else P j,H⟩ ∧ (∀ k,O2 k → O1 k ∨ wc.heap.size ≤ k) ∧ Keeps O1 wc w6:=by
  have hT5:=h.later hbc5
  have hlt5:=hM5.lt g5 rfl
  have hT5:=hT5.more (Q:=fun k => O1 k ∨ k=g5) (fun k hk => .inl hk) (fun k hk => by
    rcases hk with hk | rfl
    · exact hT5.lt k hk
    · exact hlt5)
  obtain ⟨Dm,U,uc,ucs,hI,hM,hO,ho,hu⟩:=hT5.ex
  have hkey:keyOf Tryz.prog 3 (.int .i64 (i:Int))=some (keyD i):=keyOf_int_mk Tryz.underlying3 (wf_i64 _ (by omega) (by omega))
  obtain ⟨w6,hrun,hown6,hturn⟩:=hM.own.store (int_keyed Tryz.underlying3) Tryz.underlying45 (by
      have:=(hM.few (S:=(List.range c.N)) (fun i hi => by
        cases hP:P i with
        | none => exact absurd hP hi
        | some l' =>
          obtain ⟨q1,_⟩:=hM.yes i l' hP
          obtain ⟨i',e,_,q,_⟩:=hM.keys i q1
          rw [List.mem_range]; omega)).1
      rw [List.length_range] at this
      simp only [maxLen]; omega) (key:=.int .i64 (i:Int)) (val:=.slice (some ⟨g5,0,none⟩) 512 c5) (kl:=keyD i) (d:=.held (.slice (some ⟨g5,0,none⟩) 512 c5)) (ps := []) hkey rfl
  have hbuf:Hb w5 (fun k => O1 k ∨ k=g5) c.a ⟨g5,0,none⟩ l:=⟨g5,rfl,.inr rfl,Buf.of_mine hM5 (by obtain ⟨_,_,cur,hi⟩:=hT5.diskAt.a_ne; exact ⟨cur,hi⟩)⟩
  have hfin:=hT5.turned hM hI hO ho hu hturn.grown (hM.store hi0 hi h5 hown6 hturn.grown hbuf)
  refine ⟨_,w6,hrun,hfin,fun k hk => ?_,?_⟩
  · rcases hk with hk | rfl
    · exact .inl hk
    · exact .inr hg5
  · have hown:=h.ownb
    refine (Keeps.of_below hbc5).trans ⟨hturn.grown.os,hturn.grown.tape,hturn.grown.output,hturn.grown.size,fun k hk hn => hturn.grown.block k hk (fun e => by injection e with e; exact hn (e ▸ hown))⟩
def Wrote (c:Cx)(w:World)(O:Nat → Prop)(T:Tn)(i:Nat)(l:List UInt8)(e:Ending)(w':World):Prop:=e=.returned (.int .i64 0) ∧ ∃ O',TxnAt c w' O' (T.put i l) ∧ Fr w O w' O'
set_option maxRecDepth 100000 in
set_option maxHeartbeats 3200000 in
theorem twrite_any (c:Cx)(w:World)(O:Nat → Prop)(T:Tn)(h:TxnAt c w O T)(i:Nat)(A0:Option Addr)(c0:Nat)(l:List UInt8)(hi0:98 ≤ i)(hi:i < c.N)(h5:l.length=512)(hby:Bytes w A0 l)(hny:∀ g off,A0=some ⟨g,off,none⟩ → ¬ O g)
    (S:List Nat)(hS:T.Cov S)(hiS:i ∈ S)(h96:S.length ≤ 96)(hT:T.H.length ≤ 1000000) :
    Calls Tryz.prog 38 #[.pointer (some ⟨c.t,0,none⟩),.int .i64 (i:Int),.slice A0 512 c0] w (Wrote c w O T i l):=by
  obtain ⟨base,a,d,t,b,N,D⟩:=c
  dsimp only at hi ⊢
  have hA0:A0 ≠ none:=by
    obtain ⟨bb,off,rfl,_⟩:=hby.at_ (k:=0) (by omega)
    simp
  have hlN:D.lasts.length ≤ 16384:=h.diskAt.1.2.1
  have hlen:=h.len
  dsimp only at hlen
  have hN16:N ≤ 16384:=by omega
  obtain ⟨hb2,j1,j2⟩:=two_new w #[.pointer (some ⟨t,0,none⟩)] #[.int .i64 (i:Int)] 36 3
  have hsW:(twoW w t i).heap.size=w.heap.size + 2:=by unfold twoW; rw [World.size_alloc,World.size_alloc]
  have hb2:Below w.heap.size w (twoW w t i):=hb2
  have j1:Is (twoW w t i) w.heap.size 36 #[.pointer (some ⟨t,0,none⟩)]:=j1
  have j2:Is (twoW w t i) (w.heap.size + 1) 3 #[.int .i64 (i:Int)]:=j2
  have hTW:=h.later hb2
  have hyW:=hby.later hb2
  have HOLT:=Lib.hid h.lt
  have HTW:=Lib.hid hTW
  obtain ⟨Dm,U,uc,ucs,hI,hM,hO,ho,hu⟩:=hTW.ex
  dsimp only at hI hM hO ho hu
  have HDW:=Lib.hid hTW.diskAt
  have c1:(twoW w t i).cell? ⟨t,1,none⟩=some (.map (some b)):=hI.cell 1
  have cb:(twoW w t i).cell? ⟨w.heap.size,0,none⟩=some (.pointer (some ⟨t,0,none⟩)):=j1.cell 0
  have ci:(twoW w t i).cell? ⟨w.heap.size + 1,0,none⟩=some (.int .i64 (i:Int)):=j2.cell 0
  have key:∃ A' n' c',(∀ X,Below (w.heap.size + 2) (twoW w t i) X → (Instr.lookup 45 (.map (some b)) (.int .i64 (i:Int)) true).run Tryz.prog X=.ok (.tuple #[.slice A' n' c',.bool (T.P i).isSome]) X) ∧
      ((T.P i=none ∧ Value.slice A' n' c'=.slice none 0 0) ∨ ∃ l' g cc,T.P i=some l' ∧ l'.length=512 ∧ Value.slice A' n' c'=.slice (some g) 512 cc ∧ Hb (twoW w t i) O a g l'):=by
    have hblt:b < (twoW w t i).heap.size:=hM.own.lt
    obtain ⟨v,ps,hr,hv⟩:=(hM.look i (by omega) _ rfl).1
    have hX:∀ X,Below (w.heap.size + 2) (twoW w t i) X → ∃ v' ps',(Instr.lookup 45 (.map (some b)) (.int .i64 (i:Int)) true).run Tryz.prog X=.ok (.tuple #[v',.bool (Maps.has Dm (keyD i))]) X ∧ RV v'=some (Dm.atKey (keyD i) nilD,ps'):=fun X hX => (hM.look i (by omega) X (hX.block b (by rw [← hsW]; exact hblt))).1
    rcases hM.val hv with ⟨h1,h2,h3⟩ | ⟨l',g,cc,h1,h2,h3,h4,h5'⟩
    · refine ⟨none,0,0,fun X hb => ?_,.inl ⟨h1,rfl⟩⟩
      obtain ⟨v',ps',q1,q2⟩:=hX X hb
      rw [h2] at q1
      rw [h1]
      rcases hM.val q2 with ⟨_,_,e⟩ | ⟨_,_,_,e,_⟩
      · rw [e] at q1; exact q1
      · rw [h1] at e; cases e
    · refine ⟨some g,512,cc,fun X hb => ?_,.inr ⟨l',g,cc,h1,h3,rfl,h5'⟩⟩
      obtain ⟨v',ps',q1,q2⟩:=hX X hb
      have e:v'=v:=by
        unfold RV at q2 hv
        injection q2 with q2
        injection hv with hv
        have q3:=(Prod.mk.inj q2).1.trans (Prod.mk.inj hv).1.symm
        injection q3
      rw [e,h4,h2] at q1
      rw [h1]
      exact q1
  obtain ⟨A',n',c',hlook,hwas⟩:=key
  have HWAS:=Lib.hid hwas
  have hfew:(T.P i).isSome=false → Maps.size Dm < 96:=fun e => by
    have hn:T.P i=none:=by cases hP:T.P i with
      | none => rfl
      | some l' => rw [hP] at e; cases e
    have:=(hM.few hS).2 i hiS hn
    omega
  have HFEW:=Lib.hid hfew
  have HLEN:=Lib.hid (fun (X:World) (hX:X.heap[b]? = (twoW w t i).heap[b]?) ty => ((ownsMap_heap hM.own hX).len Tryz.underlying45 ty))
  have HBL:=Lib.hid hM.own.lt
  obtain ⟨hs,hhs⟩:∃ hs,(T.P i).isSome=hs:=⟨_,rfl⟩
  rw [hhs] at hlook
  have HHS:=Lib.hid hhs
  have hr0:=hlook (twoW w t i).drew (Below.refl _ _).drew
  have hr1:=fun o => hlook ((twoW w t i).alloc o).drew (((Below.refl _ _).alloc (Nat.le_of_eq hsW.symm) o).drew)
  have hr2:=fun o1 o2 => hlook (((twoW w t i).alloc o1).alloc o2).drew ((((Below.refl _ _).alloc (Nat.le_of_eq hsW.symm) o1).alloc (by rw [World.size_alloc]; omega) o2).drew)
  have c1a:=fun o => ((below_new (twoW w t i) o).cell (p:=⟨t,1,none⟩) hI.lt).trans c1
  have cba:=fun o => ((below_new (twoW w t i) o).cell (p:=⟨w.heap.size,0,none⟩) j1.lt).trans cb
  have cia:=fun o => ((below_new (twoW w t i) o).cell (p:=⟨w.heap.size + 1,0,none⟩) j2.lt).trans ci
  have c1b:=fun o1 o2 => ((below_new ((twoW w t i).alloc o1) o2).cell (p:=⟨t,1,none⟩) (by rw [World.size_alloc]; exact Nat.lt_succ_of_lt hI.lt)).trans (c1a o1)
  have cbb:=fun o1 o2 => ((below_new ((twoW w t i).alloc o1) o2).cell (p:=⟨w.heap.size,0,none⟩) (by rw [World.size_alloc]; exact Nat.lt_succ_of_lt j1.lt)).trans (cba o1)
  have cib:=fun o1 o2 => ((below_new ((twoW w t i).alloc o1) o2).cell (p:=⟨w.heap.size + 1,0,none⟩) (by rw [World.size_alloc]; exact Nat.lt_succ_of_lt j2.lt)).trans (cia o1)
  have HJ1:=Lib.hid j1
  have HJ2:=Lib.hid j2
  have HB2:=Lib.hid hb2
  have HNN:=Lib.hid hlen
  have H5:=Lib.hid h5
  have HBY:=Lib.hid hyW
  have HS:=Lib.hid hS
  have HCT:=Lib.hid hi
  have HCB:=Lib.hid h96
  have HI0:=Lib.hid hI
  have HU0:=Lib.hid hu
  have HO0:=Lib.hid ho
  have HOW:=Lib.hid hO
  clear hI hM hO ho hu hTW h j1 j2 hb2 hlen h5 hby hyW hlook hwas hfew hhs hS hiS h96
  obtain ⟨W,hW⟩:∃ W,twoW w t i=W:=⟨_,rfl⟩
  have hWw:(w.alloc (.cells #[.pointer (some ⟨t,0,none⟩)] 36)).alloc (.cells #[.int .i64 (i:Int)] 3)=W:=hW
  rw [hW] at HTW HDW hsW c1 cb ci HWAS HLEN HBL hr0 hr1 hr2 c1a cba cia c1b cbb cib HJ1 HJ2 HB2 HBY HI0 HU0 HOW
  clear hW
  unfold Wrote
  go_enter Tryz.func38,Tryz.ntmps38
  go_upto_region 1 with fail
  go_cut [7,8] from 9 to 17 (fun s7 s8 wx => ∃ bw bo,s7=.pointer (some ⟨bw,0,none⟩) ∧ s8=.pointer (some ⟨bo,0,none⟩) ∧ Is wx bo 4 #[.bool hs] ∧ Is wx bw 28 #[.slice A' n' c'] ∧ w.heap.size + 2 ≤ bo ∧ w.heap.size + 2 ≤ bw ∧ Below (w.heap.size + 2) W wx)
  case first =>
    have tn1:=two_new W #[.slice A' n' c'] #[.bool hs] 28 4
    have tn2:=two_new W #[.bool hs] #[.slice A' n' c'] 4 28
    rw [hsW] at tn1 tn2
    have HTN1:=Lib.hid tn1
    have HTN2:=Lib.hid tn2
    clear tn1 tn2 hWw
    go_region
    all_goals go_wp2_with fail
    all_goals go_meet
    · exact ⟨_,_,rfl,rfl,HTN1.out.2.2,HTN1.out.2.1,by omega,by omega,HTN1.out.1.drew⟩
    · exact ⟨_,_,rfl,rfl,HTN2.out.2.1,HTN2.out.2.2,by omega,by omega,HTN2.out.1.drew⟩
  case rest =>
    obtain ⟨bw,bo,rfl,rfl,hbo,hbw,hlo,hlw,hbx⟩:=hcut
    clear hr0 hr1 hr2 c1a cba cia c1b cbb cib c1 cb ci hWw
    have hbX:Below W.heap.size W wc:=by rw [hsW]; exact hbx
    have hTc:=HTW.out.later hbX
    have HTc:=Lib.hid hTc
    have HIc:=Lib.hid (HI0.out.below hbX HI0.out.lt)
    have HDc:=Lib.hid hTc.diskAt
    have HYc:=Lib.hid (HBY.out.later hbX)
    have HJ1c:=Lib.hid (HJ1.out.below hbX HJ1.out.lt)
    have HJ2c:=Lib.hid (HJ2.out.below hbX HJ2.out.lt)
    have HJOc:=Lib.hid hbo
    have HJWc:=Lib.hid hbw
    have HBc:=Lib.hid (HB2.out.trans (hbX.mono (by rw [hsW]; omega)))
    have hlen:=HLEN.out wc (hbX.block b HBL.out)
    have hXs:=hbX.size
    rw [hsW] at hXs
    have ct0:wc.cell? ⟨t,0,none⟩=some (.pointer (some ⟨d,0,none⟩)):=HIc.out.cell 0
    have ct1:wc.cell? ⟨t,1,none⟩=some (.map (some b)):=HIc.out.cell 1
    have ct2:wc.cell? ⟨t,2,none⟩=some (.slice U T.H.length uc):=HIc.out.cell 2
    have ct3:wc.cell? ⟨t,3,none⟩=some (.bool false):=HIc.out.cell 3
    have ft2:=HIc.out.free 2
    have cb1:wc.cell? ⟨w.heap.size,0,none⟩=some (.pointer (some ⟨t,0,none⟩)):=HJ1c.out.cell 0
    have ci1:wc.cell? ⟨w.heap.size + 1,0,none⟩=some (.int .i64 (i:Int)):=HJ2c.out.cell 0
    have cb8:wc.cell? ⟨bo,0,none⟩=some (.bool hs):=hbo.cell 0
    have hi1:(98:Int) ≤ (i:Int):=by omega
    have hi2:(i:Int) < (N:Int):=by omega
    clear hTc
    have HBX:=Lib.hid hbX
    clear hbx hbo hbw hbX
    go_upto_region 4 with fail
    go_quiet (first | (go_at_call 70; refine Calls.quiet_of_same (blocks_q HDc.out HNN.out _)))
    go_upto_region 8 with fail
    go_cut [39] from 18 to 49 (fun s39 wx => s39=.bool false ∧ wx=wc.drewN nq)
    case first =>
      cases hs
      · have hsz:(Maps.size Dm:Int) < 96:=by have:=HFEW.out HHS.out; omega
        have hlen2:∀ ty,(Builtin.len_ #[45] ty #[.map (some b)]).run Tryz.prog (wc.drewN nq)=.ok (.int .i64 (Maps.size Dm)) (wc.drewN nq):=fun ty => HLEN.out (wc.drewN nq) (HBX.out.block b HBL.out) ty
        go_wp2_with fail
        go_meet
        exact ⟨by rw [decide_eq_false (by omega)],rfl⟩
      · go_wp2_with fail
        go_meet
        exact ⟨rfl,rfl⟩
    case rest =>
      obtain ⟨rfl,rfl⟩:=hcut
      have hbd:=(KT.drewN (a:=none) (base:=wc.heap.size) (Ts := []) wc nq).below (Nat.le_refl _)
      have HTd:=Lib.hid (HTc.out.later hbd)
      have HId:=Lib.hid (HIc.out.below hbd HIc.out.lt)
      have HYd:=Lib.hid (HYc.out.later hbd)
      have HJ1d:=Lib.hid (HJ1c.out.below hbd HJ1c.out.lt)
      have HJ2d:=Lib.hid (HJ2c.out.below hbd HJ2c.out.lt)
      have HJOd:=Lib.hid (HJOc.out.below hbd HJOc.out.lt)
      have HJWd:=Lib.hid (HJWc.out.below hbd HJWc.out.lt)
      have HBXd:=Lib.hid (HBX.out.trans (hbd.mono HBX.out.size))
      have HBd:=Lib.hid (HBc.out.trans (hbd.mono HBc.out.size))
      have HOd:=Lib.hid ((HOW.out.later HBX.out).later hbd)
      clear hbd hlen ct0 ct1 ct2 ct3 ft2 cb1 ci1 cb8
      generalize wc.drewN nq=wd at *
      clear HIc HTc HDc HYc HJ1c HJ2c HBc HJOc HJWc HBX
      have cb1:wd.cell? ⟨w.heap.size,0,none⟩=some (.pointer (some ⟨t,0,none⟩)):=HJ1d.out.cell 0
      have ct2:wd.cell? ⟨t,2,none⟩=some (.slice U T.H.length uc):=HId.out.cell 2
      have ft2:=HId.out.free 2
      have hBd:=HBXd.out.size
      rw [hsW] at hBd
      obtain ⟨un,hun⟩:∃ un,T.H.length=un:=⟨_,rfl⟩
      have HUN:=Lib.hid hun
      rw [hun] at ct2 hT
      have HOd:=Lib.hid (show Own wd 0 1 1 U un uc ucs by have:=HOd.out; rw [hun] at this; exact this)
      have HId:=Lib.hid (show Is wd t 80 #[.pointer (some ⟨d,0,none⟩),.map (some b),.slice U un uc,.bool false] by have:=HId.out; rw [hun] at this; exact this)
      clear hun
      go_upto_region 10 with fail
      go_cut [] from 50 to 59 (fun wx => ∃ U2 uc2,Is wx t 80 #[.pointer (some ⟨d,0,none⟩),.map (some b),.slice U2 (un + 1) uc2,.bool false] ∧ Own wx 0 1 1 U2 (un + 1) uc2 (ucs ++ [(.func (.func 73) #[] #[.pointer (some ⟨bo,0,none⟩),.pointer (some ⟨bw,0,none⟩),.pointer (some ⟨w.heap.size,0,none⟩),.pointer (some ⟨w.heap.size + 1,0,none⟩)])]) ∧ Keeps (fun k => k=t ∨ Of U k) wd wx ∧ ∀ g,Of U2 g → Of U g ∨ wd.heap.size ≤ g)
      case first =>
        obtain ⟨i1,hi1',hy0,hy1,hy2⟩:=info_parts infoFu
        have HI1':=Lib.hid hi1'
        have HY0:=Lib.hid hy0
        have HY1:=Lib.hid hy1
        have HY2:=Lib.hid hy2
        have HDT:=Lib.hid (show some t ≠ (Value.slice U un uc).ownBlock from fun e => by
          rcases HOd.out.shape with h0 | ⟨g,h0⟩
          · rw [h0] at e; cases e
          · obtain ⟨_,cur,hi5⟩:=HOd.out.typed g h0
            rw [h0] at e
            injection e with e
            exact is_ne hi5 HId.out (by decide) (show g=t from e.symm))
        have HBT:=Lib.hid (show some w.heap.size ≠ (Value.slice U un uc).ownBlock from fun e => by
          rcases HOd.out.shape with h0 | ⟨g,h0⟩
          · rw [h0] at e; cases e
          · obtain ⟨_,cur,hi5⟩:=HOd.out.typed g h0
            rw [h0] at e
            injection e with e
            exact is_ne hi5 HJ1d.out (by decide) (show g=w.heap.size from e.symm))
        have HGG:=Lib.hid (show ∀ gg,((Value.slice U un uc).ownBlock=some gg ∨ gg=wd.heap.size + 1) → ∀ g,Of (some (⟨gg,0,none⟩:Addr)) g → Of U g ∨ wd.heap.size ≤ g from fun gg hat g e => by
          injection e with e
          injection e with e
          subst e
          rcases hat with q | q
          · left
            rcases HOd.out.shape with h0 | ⟨g,h0⟩
            · rw [h0] at q; cases q
            · rw [h0] at q ⊢
              injection q with q
              subst q
              rfl
          · right; omega)
        have hb3:=below_new wd (.cells #[(.func (.func 73) #[] #[.pointer (some ⟨bo,0,none⟩),.pointer (some ⟨bw,0,none⟩),.pointer (some ⟨w.heap.size,0,none⟩),.pointer (some ⟨w.heap.size + 1,0,none⟩)])] 1)
        have c76:(wd.alloc (.cells #[(.func (.func 73) #[] #[.pointer (some ⟨bo,0,none⟩),.pointer (some ⟨bw,0,none⟩),.pointer (some ⟨w.heap.size,0,none⟩),.pointer (some ⟨w.heap.size + 1,0,none⟩)])] 1)).cell? ⟨t,2,none⟩=some (.slice U un uc):=(hb3.cell (p:=⟨t,2,none⟩) HId.out.lt).trans ct2
        have cb6:(wd.alloc (.cells #[(.func (.func 73) #[] #[.pointer (some ⟨bo,0,none⟩),.pointer (some ⟨bw,0,none⟩),.pointer (some ⟨w.heap.size,0,none⟩),.pointer (some ⟨w.heap.size + 1,0,none⟩)])] 1)).cell? ⟨w.heap.size,0,none⟩=some (.pointer (some ⟨t,0,none⟩)):=(hb3.cell (p:=⟨w.heap.size,0,none⟩) HJ1d.out.lt).trans cb1
        have HOA:=Lib.hid (HOd.out.later hb3)
        have HB3:=Lib.hid hb3
        clear hi1' hy0 hy1 hy2 hb3
        go_region_law (
             refine step_append_lies _ (by rfl) _ _ _ (by rfl) 0 1 i1 .nilFunc 1 8 Tryz.underlying78 HI1'.out HY0.out HY1.out HY2.out rfl (by decide) (.slice U un uc) un ucs (by simp [Act.eval,Act.put]) (show World.ownsRow (wd.alloc (.cells #[(.func (.func 73) #[] #[.pointer (some ⟨bo,0,none⟩),.pointer (some ⟨bw,0,none⟩),.pointer (some ⟨w.heap.size,0,none⟩),.pointer (some ⟨w.heap.size + 1,0,none⟩)])] 1)).drew 0 1 1 (.slice U un uc) un ucs from HOA.out) ⟨wd.heap.size,0,none⟩ 1 1 [(.func (.func 73) #[] #[.pointer (some ⟨bo,0,none⟩),.pointer (some ⟨bw,0,none⟩),.pointer (some ⟨w.heap.size,0,none⟩),.pointer (some ⟨w.heap.size + 1,0,none⟩)])] (by simp [Act.eval,Act.put]) (by rfl) (by have:=World.news_of_block (w:=(wd.alloc (.cells #[(.func (.func 73) #[] #[.pointer (some ⟨bo,0,none⟩),.pointer (some ⟨bw,0,none⟩),.pointer (some ⟨w.heap.size,0,none⟩),.pointer (some ⟨w.heap.size + 1,0,none⟩)])] 1))) (B:=wd.heap.size) (cs := #[(.func (.func 73) #[] #[.pointer (some ⟨bo,0,none⟩),.pointer (some ⟨bw,0,none⟩),.pointer (some ⟨w.heap.size,0,none⟩),.pointer (some ⟨w.heap.size + 1,0,none⟩)])]) (t:=1) (fr:=(0,0)) (heap_alloc_new wd _); exact this) (by simp [Value.oneCell']) (by omega) (by simp only [maxLen]; omega) (by omega) (by omega) (wd.heap.size + 1) (by simp) ?_
             intro gg cap2 w1 hown1 hgrow hat hlt
             have hdl:t < (wd.alloc (.cells #[(.func (.func 73) #[] #[.pointer (some ⟨bo,0,none⟩),.pointer (some ⟨bw,0,none⟩),.pointer (some ⟨w.heap.size,0,none⟩),.pointer (some ⟨w.heap.size + 1,0,none⟩)])] 1)).heap.size:=by rw [World.size_alloc]; have q:t < wd.heap.size:=HId.out.lt; omega
             have hbl:w.heap.size < (wd.alloc (.cells #[(.func (.func 73) #[] #[.pointer (some ⟨bo,0,none⟩),.pointer (some ⟨bw,0,none⟩),.pointer (some ⟨w.heap.size,0,none⟩),.pointer (some ⟨w.heap.size + 1,0,none⟩)])] 1)).heap.size:=by rw [World.size_alloc]; have q:w.heap.size < wd.heap.size:=HJ1d.out.lt; omega
             have c1':w1.cell? ⟨t,2,none⟩=some (.slice U un uc):=(hgrow.cell_far ⟨t,2,none⟩ hdl HDT.out).trans c76
             have cb':w1.cell? ⟨w.heap.size,0,none⟩=some (.pointer (some ⟨t,0,none⟩)):=(hgrow.cell_far ⟨w.heap.size,0,none⟩ hbl HBT.out).trans cb6
             have f1':w1.frozen? ⟨t,2,none⟩=false:=(hgrow.frozen_far ⟨t,2,none⟩ hdl HDT.out).trans ((HB3.out.frozen (p:=⟨t,2,none⟩) HId.out.lt).trans ft2))
        all_goals (have hgrow':World.grownBy (wd.alloc (.cells #[(.func (.func 73) #[] #[.pointer (some ⟨bo,0,none⟩),.pointer (some ⟨bw,0,none⟩),.pointer (some ⟨w.heap.size,0,none⟩),.pointer (some ⟨w.heap.size + 1,0,none⟩)])] 1)).drew w1 (Value.slice U un uc).ownBlock:=hgrow)
        all_goals (have kn:Keeps (Of U) (wd.alloc (.cells #[(.func (.func 73) #[] #[.pointer (some ⟨bo,0,none⟩),.pointer (some ⟨bw,0,none⟩),.pointer (some ⟨w.heap.size,0,none⟩),.pointer (some ⟨w.heap.size + 1,0,none⟩)])] 1)).drew w1:=Keeps.of_grown HOd.out.shape hgrow')
        all_goals (have kd:Keeps (Of U) wd w1:=(Keeps.of_below HB3.out.drew).trans kn)
        all_goals (have hI1:=HId.out.keeps kd (fun e => by
          obtain ⟨_,cur,hi⟩:=HOd.out.typed t e
          exact is_ne hi HId.out (by decide) rfl))
        all_goals (have hgg:=HGG.out gg hat)
        all_goals go_wp2_with fail
        all_goals go_meet
        all_goals exact ⟨some ⟨gg,0,none⟩,cap2,hI1.put 2 _,(show Own w1 0 1 1 _ _ cap2 _ from hown1).kept (fun g hg => heap_setCell_other w1 ⟨t,2,none⟩ g _ (fun e => by
            obtain ⟨_,cur,hi⟩:=(show Own w1 0 1 1 _ _ cap2 _ from hown1).typed g hg
            exact is_ne hi hI1 (by decide) (show g=t from e))),(kd.mono (fun i e => .inr e)).trans ((keeps_set w1 t 2 _).mono (fun i e => .inl e)),hgg⟩
      case rest =>
        obtain ⟨U2,uc2,hI2,hO2,hk2,hU2⟩:=hcut
        have hsz:=hk2.size
        have hne:∀ g t' cs,Is wd g t' cs → t' ≠ 80 → t' ≠ 1 → wc.heap[g]? = wd.heap[g]?:=fun g t' cs hi h1 h2 => hk2.block g hi.lt (fun e => by
          rcases e with e | e
          · exact is_ne hi HId.out h1 e
          · obtain ⟨_,cur,hi'⟩:=HOd.out.typed g e
            exact is_ne hi hi' h2 rfl)
        have j1e:=(hne _ _ _ HJ1d.out (by decide) (by decide)).trans HJ1d.out
        have j2e:=(hne _ _ _ HJ2d.out (by decide) (by decide)).trans HJ2d.out
        have hag:Agree O W wd:=fun k hk => HBXd.out.block k (by have:=HTW.out.lt k hk; rw [hsW] at this; omega)
        have hboxes:Boxes wd O t a bo bw w.heap.size (w.heap.size + 1) i (T.P i):=by
          refine ⟨by rw [HHS.out]; exact HJOd.out,HJ1d.out,HJ2d.out,?_⟩
          rcases HWAS.out with ⟨h1,h2⟩ | ⟨l',g,cc,h1,h2,h3,h4⟩
          · exact .inl ⟨h1,by have:=HJWd.out; rw [h2] at this; exact this⟩
          · exact .inr ⟨l',g,cc,h1,h2,by have:=HJWd.out; rw [h3] at this; exact this,h4.agree hag⟩
        have hout:∀ k,w.heap.size ≤ k → ¬ O k:=fun k hk ho => by have:=HOLT.out k ho; omega
        have hUd:Undos wd O t a ucs T.H:=⟨HU0.out.1,fun j hj => by obtain ⟨v,q1,q2⟩:=HU0.out.2 j hj; exact ⟨v,q1,q2.agree hag⟩⟩
        obtain ⟨hTx,hKx⟩:=TxnAt.grewH (wx:=wc) HTd.out i hi0 hi bo bw w.heap.size (w.heap.size + 1) hboxes (hout _ (by omega)) (hout _ (by omega)) (hout _ (by omega)) (hout _ (by omega)) (U2:=U2) (uc2:=uc2) (ucs:=ucs) (U:=U) (uc:=uc)
          (by rw [HUN.out]; exact HId.out) hUd HO0.out (by rw [HUN.out]; exact hI2) (by rw [HUN.out]; exact hO2) hk2 (fun g hg => by obtain ⟨_,cur,hi'⟩:=HOd.out.typed g hg; exact tk_of hi' (by simp))
        have HTX:=Lib.hid hTx
        have HKX:=Lib.hid hKx
        have HIe:=Lib.hid hI2
        have HYe:=Lib.hid (HYd.out.keeps hk2 (fun g off e hs => by
          rcases hs with hs | hs
          · exact hny g off e (hs ▸ HTW.out.own)
          · exact hny g off e (HO0.out g hs)))
        have ct1:wc.cell? ⟨t,1,none⟩=some (.map (some b)):=hI2.cell 1
        have cb2:wc.cell? ⟨w.heap.size,0,none⟩=some (.pointer (some ⟨t,0,none⟩)):=Is.cell j1e 0
        have ci2:wc.cell? ⟨w.heap.size + 1,0,none⟩=some (.int .i64 (i:Int)):=Is.cell j2e 0
        obtain ⟨O1,hO1⟩:∃ O1:Nat → Prop,O1=fun k => O k ∨ k=bo ∨ k=bw ∨ k=w.heap.size ∨ k=w.heap.size + 1 ∨ Of U2 k:=⟨_,rfl⟩
        have HO1:=Lib.hid hO1
        have HTX:=Lib.hid (show TxnAt ⟨base,a,d,t,b,N,D⟩ wc O1 ⟨T.P,T.H ++ [(i,T.P i)]⟩ by rw [hO1]; exact hTx)
        have HU2:=Lib.hid hU2
        have HK2:=Lib.hid hk2
        have HJ1e:=Lib.hid j1e
        have HJ2e:=Lib.hid j2e
        clear hTx hO1 hU2 hk2 hI2 hO2 hKx hboxes hUd hag hne j1e j2e cb1 ct2 ft2
        go_upto_region 11 with fail
        go_cut [] from 60 to 66 (fun wx => ∃ O2,TxnAt ⟨base,a,d,t,b,N,D⟩ wx O2 (T.put i l) ∧ (∀ k,O2 k → O1 k ∨ wc.heap.size ≤ k) ∧ Keeps O1 wc wx)
        case first =>
          go_region_law (
               go_simp
               go_at_call 71
               refine (clone8_any A0 512 c0 l H5.out _ (by exact HYe.out) (fun e => absurd e hA0) hA0 (by decide)).mono ?_
               rintro e w5 ⟨⟨A5,c5,rfl,hM5⟩,hb5'⟩
               have hbc5:Below wc.heap.size wc w5:=⟨hb5'.os,hb5'.tape,hb5'.output,hb5'.size,hb5'.block⟩
               obtain ⟨g5,rfl,hg5,hl5⟩:=hM5.form (by have:=H5.out; omega)
               have ct15:w5.cell? ⟨t,1,none⟩=some (.map (some b)):=(hbc5.cell (p:=⟨t,1,none⟩) HIe.out.lt).trans ct1
               have cb25:w5.cell? ⟨w.heap.size,0,none⟩=some (.pointer (some ⟨t,0,none⟩)):=(hbc5.cell (p:=⟨w.heap.size,0,none⟩) (Is.lt HJ1e.out)).trans cb2
               have ci25:w5.cell? ⟨w.heap.size + 1,0,none⟩=some (.int .i64 (i:Int)):=(hbc5.cell (p:=⟨w.heap.size + 1,0,none⟩) (Is.lt HJ2e.out)).trans ci2
               obtain ⟨O2,w6,hrun6,hfin,hO2,hK2⟩:=HTX.out.lay i hi0 hi hN16 hbc5 hM5 hg5 H5.out)
          all_goals go_wp2_with fail
          all_goals go_meet
          all_goals exact ⟨O2,hfin,hO2,hK2⟩
        case rest =>
          obtain ⟨O2,hfin,hO2,hK⟩:=hcut
          go_wp2_with fail
          go_ret
          have hO1k:∀ k,O1 k → O k ∨ w.heap.size ≤ k:=by
            rw [HO1.out]
            rintro k (hk | rfl | rfl | rfl | rfl | hk)
            · exact .inl hk
            · exact .inr (by omega)
            · exact .inr (by omega)
            · exact .inr (by omega)
            · exact .inr (by omega)
            · rcases HU2.out k hk with q | q
              · exact .inl (HO0.out k q)
              · exact .inr (by omega)
          have hsk:=HK2.out.size
          refine ⟨rfl,O2,hfin,⟨hK.os.trans (HK2.out.os.trans HBd.out.os),hK.tape.trans (HK2.out.tape.trans HBd.out.tape),hK.output.trans (HK2.out.output.trans HBd.out.output),by have:=hK.size; omega,fun k hk hn => ?_⟩,fun k hk => ?_⟩
          · refine (hK.block k (by omega) (fun h1 => ?_)).trans ((HK2.out.block k (by omega) (fun h2 => ?_)).trans (HBd.out.block k hk))
            · rcases hO1k k h1 with q | q
              · exact hn q
              · omega
            · rcases h2 with h2 | h2
              · exact hn (h2 ▸ HTW.out.own)
              · exact hn (HO0.out k h2)
          · rcases hO2 k hk with q | q
            · exact hO1k k q
            · exact .inr (by omega)
end Go.Proofs.YthkijogloebdoaaGreatDoor
end
