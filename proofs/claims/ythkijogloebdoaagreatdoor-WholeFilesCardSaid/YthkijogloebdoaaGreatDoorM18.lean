/-
  WholeFiles, the texts Bf Fga Fgc Fgd Fgf Bh: lemmas for the proof that three files on one disk are plain rows of bytes. No conditions.
-/
import Derived.Test.YthkijogloebdoaaGreatDoorM17
import Derived.Test.YthkijogloebdoaaGreatDoorM14
import Derived.Test.YthkijogloebdoaaGreatDoorM13
import Derived.StillTailTactics
set_option linter.unusedVariables false
set_option linter.unusedSimpArgs false
section
namespace Go.Proofs.YthkijogloebdoaaGreatDoor
open Go.RowKit Go.Maps Rec Gp Fs
set_option maxRecDepth 100000 in
theorem add1_ok (w:World)(ob tb mb t m bb eb yb nb:Nat)(u:FrameMode)(h:GuardB w ob tb mb t m)(hb:w.cell? ⟨bb,0,none⟩=some (guardV ob tb mb))(he:w.cell? ⟨eb,0,none⟩=some (.int .i64 0)) :
    CallsD Tryz.prog 65 #[.pointer (some ⟨bb,0,none⟩),.pointer (some ⟨eb,0,none⟩),.pointer (some ⟨yb,0,none⟩),.pointer (some ⟨nb,0,none⟩)] u w fun e u' w' => u'=u ∧ e=.returned (.tuple #[]) ∧ w=w':=by
  have HG:=Lib.hid (guard1_ok w ob tb mb t m h)
  clear h
  go_enter_d Tryz.func65,Tryz.ntmps65
  go_wp2_with (go_at_call 98; refine HG.out.mono ?_; rintro e w' ⟨rfl,rfl⟩)
  go_end0
  exact ⟨rfl,rfl⟩
theorem zeroC_one:zeroC.all (·.oneCell')=true:=by simp [zeroC,Value.oneCell']
theorem keeps_row (w:World)(g:Nat)(cs:Array Value):Keeps (·=g) w (w.setRow g cs):=⟨rfl,rfl,rfl,by simp [World.setRow],fun k _ hne => setRow_other w g k _ (fun e => hne e)⟩
set_option maxRecDepth 100000 in
theorem add1_err (c:Cx)(w:World)(O:Nat → Prop)(T:Tn)(ht:TxnAt c w O T)(hn:c.N ≤ 1000000)(ob tb mb m bb eb yb nb:Nat)(u:FrameMode)(h:GuardB w ob tb mb c.t m)(hm:m ≤ T.H.length)(hT:T.H.length ≤ 1000000)(e0 z:Int)(h0:e0 ≠ 0)(yc:Array Value)(hys:yc.size=15)
    (hb:w.cell? ⟨bb,0,none⟩=some (guardV ob tb mb))(he:Is w eb 25 #[.int .i64 e0])(hy:Is w yb 44 yc)(hnb:Is w nb 3 #[.int .i64 z])(oe:¬ O eb)(oy:¬ O yb)(on:¬ O nb)(n1:eb ≠ yb)(n2:eb ≠ nb)(n3:yb ≠ nb) :
    CallsD Tryz.prog 65 #[.pointer (some ⟨bb,0,none⟩),.pointer (some ⟨eb,0,none⟩),.pointer (some ⟨yb,0,none⟩),.pointer (some ⟨nb,0,none⟩)] u w fun e u' w' => u'=u ∧ e=.returned (.tuple #[]) ∧
      TxnAt c w' O (T.back m) ∧ FrX (fun k => k=yb ∨ k=nb) w O w' O ∧ Is w' yb 44 zeroC ∧ Is w' nb 3 #[.int .i64 0] ∧ Is w' eb 25 #[.int .i64 e0]:=by
  have HG:=Lib.hid (guard1_err c w O T ht hn ob tb mb m h hm hT e0 h0)
  have hce:w.cell? ⟨eb,0,none⟩=some (.int .i64 e0):=he.cell 0
  have hne:(e0 != 0)=true:=by rw [bne_iff_ne]; exact h0
  have HE:=Lib.hid he
  have HY:=Lib.hid hy
  have HN:=Lib.hid hnb
  clear h hm hT ht hn h0 he hy hnb
  go_enter_d Tryz.func65,Tryz.ntmps65
  go_wp2_with (first
    | (go_at_call 98
       refine HG.out.mono ?_
       rintro e w1 ⟨rfl,hT1,hF1⟩
       have HT1:=Lib.hid hT1
       have HF1:=Lib.hid hF1
       have HE1:=Lib.hid (Is.fr HE.out hF1 oe)
       have HY1:=Lib.hid (Is.fr HY.out hF1 oy)
       have HN1:=Lib.hid (Is.fr HN.out hF1 on)
       have ce1:w1.cell? ⟨eb,0,none⟩=some (.int .i64 e0):=HE1.out.cell 0
       clear hT1 hF1)
    | (refine wpList_store_row rfl 44 (.tmp 2) (.tmp 9) rfl yb zeroC rfl rfl 44 yc HY1.out size15 hys zeroC_one ?_
       have HN2:=Lib.hid (HN1.out.rowOther yb (fun e => n3 e.symm) zeroC)
       have HE2:=Lib.hid (HE1.out.rowOther yb n1 zeroC)
       have HY2:=Lib.hid (HY1.out.row zeroC)
       have HK2:=Lib.hid (keeps_row w1 yb zeroC)
       obtain ⟨w2,hw2⟩:∃ w2,w1.setRow yb zeroC=w2:=⟨_,rfl⟩
       rw [hw2] at HN2 HE2 HY2 HK2
       rw [hw2]
       have cn2:w2.cell? ⟨nb,0,none⟩=some (.int .i64 z):=HN2.out.cell 0
       have fn2:=HN2.out.free 0
       clear hw2))
  go_end0
  exact ⟨rfl,(HT1.out.keep1 HK2.out oy).set on 0 _,(FrX.of_fr HF1.out).trans ((FrX.of_keeps (HK2.out.mono (fun i e => .inl e))).trans (FrX.of_keeps ((keeps_set w2 nb 0 (.int .i64 0)).mono (fun i e => .inr e)))),HY2.out.other ⟨nb,0,none⟩ n3 _,HN2.out.put 0 _,HE2.out.other ⟨nb,0,none⟩ n2 _⟩
structure AddB (w W:World)(t n:Nat)(x y:Array Value)(z e:Int):Prop where
  bt:Is W w.heap.size 36 #[.pointer (some ⟨t,0,none⟩)]
  bg:Is W (w.heap.size + 1) 31 (geoL n)
  bx:Is W (w.heap.size + 2) 44 x
  by_:Is W (w.heap.size + 3) 44 y
  bn:Is W (w.heap.size + 4) 3 #[.int .i64 z]
  be:Is W (w.heap.size + 5) 25 #[.int .i64 e]
theorem AddB.keeps {w W W2:World}{t n:Nat}{x y:Array Value}{z e:Int}{S:Nat → Prop}(h:AddB w W t n x y z e)(k:Keeps S W W2)(hS:∀ i,S i → i < w.heap.size ∨ w.heap.size + 6 ≤ i):AddB w W2 t n x y z e :=
  ⟨h.bt.keeps k (fun s => by have:=hS _ s; omega),h.bg.keeps k (fun s => by have:=hS _ s; omega),h.bx.keeps k (fun s => by have:=hS _ s; omega),h.by_.keeps k (fun s => by have:=hS _ s; omega),h.bn.keeps k (fun s => by have:=hS _ s; omega),h.be.keeps k (fun s => by have:=hS _ s; omega)⟩
theorem run_lv_int (w:World)(g:Nat)(v:Value)(h:w.cell? ⟨g,0,none⟩=some v):(loadVar 3 ⟨g,0,none⟩).run Tryz.prog w=.ok v w:=by simp [loadVar,go_sem,h]
theorem run_lv_err (w:World)(g:Nat)(v:Value)(h:w.cell? ⟨g,0,none⟩=some v):(loadVar 25 ⟨g,0,none⟩).run Tryz.prog w=.ok v w:=by simp [loadVar,go_sem,h]
theorem results_add {fn:Func}{p q r:Tmp}(h:fn.results=#[.cell p 44,.cell q 3,.cell r 25])(tmps:Array Value)(w:World)(g1 g2 g3:Nat)(cs:Array Value)(z e:Int)(hp:tmps.getD p undef=.pointer (some ⟨g1,0,none⟩))(hq:tmps.getD q undef=.pointer (some ⟨g2,0,none⟩))(hr:tmps.getD r undef=.pointer (some ⟨g3,0,none⟩))
    (h1:Is w g1 44 cs)(hs:cs.size=15)(h2:Is w g2 3 #[.int .i64 z])(h3:Is w g3 25 #[.int .i64 e]) :
    (results fn tmps).run Tryz.prog w=.ok (.tuple #[.agg cs,.int .i64 z,.int .i64 e]) w:=by
  have hp':tmps[p]?.getD undef=.pointer (some ⟨g1,0,none⟩):=by simpa using hp
  have hq':tmps[q]?.getD undef=.pointer (some ⟨g2,0,none⟩):=by simpa using hq
  have hr':tmps[r]?.getD undef=.pointer (some ⟨g3,0,none⟩):=by simpa using hr
  have c2:w.cell? ⟨g2,0,none⟩=some (.int .i64 z):=h2.cell 0
  have c3:w.cell? ⟨g3,0,none⟩=some (.int .i64 e):=h3.cell 0
  simp [results,h,hp',hq',hr',asAddr,run_loadVar_row w g1 44 44 cs (0,0) _ h1 Tryz.underlying44 rfl (by rw [hs]; exact size15),run_lv_int w g2 _ c2,run_lv_err w g3 _ c3]
def putIno (W:World)(g:Nat)(y:Ino):World:=(((((((((((((((W.setCell ⟨g,0,none⟩ (.int .i64 (y.kind:Int))).setCell ⟨g,1,none⟩ (.int .i64 (y.links:Int))).setCell ⟨g,2,none⟩ (.int .i64 (y.size:Int))).setCell ⟨g,3,none⟩ (.int .i64 (y.num 0:Int))).setCell ⟨g,4,none⟩ (.int .i64 (y.num 1:Int))).setCell ⟨g,5,none⟩ (.int .i64 (y.num 2:Int))).setCell ⟨g,6,none⟩ (.int .i64 (y.num 3:Int))).setCell ⟨g,7,none⟩ (.int .i64 (y.num 4:Int))).setCell ⟨g,8,none⟩ (.int .i64 (y.num 5:Int))).setCell ⟨g,9,none⟩ (.int .i64 (y.num 6:Int))).setCell ⟨g,10,none⟩ (.int .i64 (y.num 7:Int))).setCell ⟨g,11,none⟩ (.int .i64 (y.num 8:Int))).setCell ⟨g,12,none⟩ (.int .i64 (y.num 9:Int))).setCell ⟨g,13,none⟩ (.int .i64 (y.num 10:Int))).setCell ⟨g,14,none⟩ (.int .i64 (y.num 11:Int)))
theorem putC (y:Ino):(((((((((((((((zeroC.setIfInBounds 0 (.int .i64 (y.kind:Int))).setIfInBounds 1 (.int .i64 (y.links:Int))).setIfInBounds 2 (.int .i64 (y.size:Int))).setIfInBounds 3 (.int .i64 (y.num 0:Int))).setIfInBounds 4 (.int .i64 (y.num 1:Int))).setIfInBounds 5 (.int .i64 (y.num 2:Int))).setIfInBounds 6 (.int .i64 (y.num 3:Int))).setIfInBounds 7 (.int .i64 (y.num 4:Int))).setIfInBounds 8 (.int .i64 (y.num 5:Int))).setIfInBounds 9 (.int .i64 (y.num 6:Int))).setIfInBounds 10 (.int .i64 (y.num 7:Int))).setIfInBounds 11 (.int .i64 (y.num 8:Int))).setIfInBounds 12 (.int .i64 (y.num 9:Int))).setIfInBounds 13 (.int .i64 (y.num 10:Int))).setIfInBounds 14 (.int .i64 (y.num 11:Int)))=y.C:=by kernel_rfl
theorem putIno_is {W:World}{g:Nat}{t:TypeId}(h:Is W g t zeroC)(y:Ino):Is (putIno W g y) g t y.C:=by
  unfold putIno
  rw [← putC y]
  exact (((((((((((((((h.put 0 (.int .i64 (y.kind:Int))).put 1 (.int .i64 (y.links:Int))).put 2 (.int .i64 (y.size:Int))).put 3 (.int .i64 (y.num 0:Int))).put 4 (.int .i64 (y.num 1:Int))).put 5 (.int .i64 (y.num 2:Int))).put 6 (.int .i64 (y.num 3:Int))).put 7 (.int .i64 (y.num 4:Int))).put 8 (.int .i64 (y.num 5:Int))).put 9 (.int .i64 (y.num 6:Int))).put 10 (.int .i64 (y.num 7:Int))).put 11 (.int .i64 (y.num 8:Int))).put 12 (.int .i64 (y.num 9:Int))).put 13 (.int .i64 (y.num 10:Int))).put 14 (.int .i64 (y.num 11:Int)))
theorem putIno_keeps (W:World)(g:Nat)(y:Ino):Keeps (·=g) W (putIno W g y):=(((((((((((((((keeps_set W g 0 _).trans (keeps_set _ g 1 _)).trans (keeps_set _ g 2 _)).trans (keeps_set _ g 3 _)).trans (keeps_set _ g 4 _)).trans (keeps_set _ g 5 _)).trans (keeps_set _ g 6 _)).trans (keeps_set _ g 7 _)).trans (keeps_set _ g 8 _)).trans (keeps_set _ g 9 _)).trans (keeps_set _ g 10 _)).trans (keeps_set _ g 11 _)).trans (keeps_set _ g 12 _)).trans (keeps_set _ g 13 _)).trans (keeps_set _ g 14 _))
theorem add_fin (W6:World)(yb nb eb:Nat)(y:Ino)(z e z0 e0:Int)(h3:Is W6 yb 44 zeroC)(h4:Is W6 nb 3 #[.int .i64 z0])(h5:Is W6 eb 25 #[.int .i64 e0])(n1:yb ≠ nb)(n2:yb ≠ eb)(n3:nb ≠ eb) :
    ∃ W9,((((((((((((((((((W6.setCell ⟨yb,0,none⟩ (.int .i64 (y.kind:Int))).setCell ⟨yb,1,none⟩ (.int .i64 (y.links:Int))).setCell ⟨yb,2,none⟩ (.int .i64 (y.size:Int))).setCell ⟨yb,3,none⟩ (.int .i64 (y.num 0:Int))).setCell ⟨yb,4,none⟩ (.int .i64 (y.num 1:Int))).setCell ⟨yb,5,none⟩ (.int .i64 (y.num 2:Int))).setCell ⟨yb,6,none⟩ (.int .i64 (y.num 3:Int))).setCell ⟨yb,7,none⟩ (.int .i64 (y.num 4:Int))).setCell ⟨yb,8,none⟩ (.int .i64 (y.num 5:Int))).setCell ⟨yb,9,none⟩ (.int .i64 (y.num 6:Int))).setCell ⟨yb,10,none⟩ (.int .i64 (y.num 7:Int))).setCell ⟨yb,11,none⟩ (.int .i64 (y.num 8:Int))).setCell ⟨yb,12,none⟩ (.int .i64 (y.num 9:Int))).setCell ⟨yb,13,none⟩ (.int .i64 (y.num 10:Int))).setCell ⟨yb,14,none⟩ (.int .i64 (y.num 11:Int))).setCell ⟨nb,0,none⟩ (.int .i64 z)).setCell ⟨eb,0,none⟩ (.int .i64 e)).drew)=W9 ∧ Is W9 yb 44 y.C ∧ Is W9 nb 3 #[.int .i64 z] ∧ Is W9 eb 25 #[.int .i64 e] ∧ Keeps (fun i => i=yb ∨ i=nb ∨ i=eb) W6 W9:=by
  have mk:=putIno_keeps W6 yb y
  have h3':=putIno_is h3 y
  have h4':=h4.keeps mk (fun e => n1 e.symm)
  have h5':=h5.keeps mk (fun e => n2 e.symm)
  obtain ⟨W8,hW8⟩:∃ W8,putIno W6 yb y=W8:=⟨_,rfl⟩
  rw [hW8] at mk h3' h4' h5'
  unfold putIno at hW8
  rw [hW8]
  refine ⟨_,rfl,((h3'.other ⟨nb,0,none⟩ n1 _).other ⟨eb,0,none⟩ n2 _).drew,((h4'.put 0 (.int .i64 z)).other ⟨eb,0,none⟩ n3 _).drew,((h5'.other ⟨nb,0,none⟩ (fun e => n3 e.symm) _).put 0 (.int .i64 e)).drew,?_⟩
  exact (mk.mono (fun i h => .inl h)).trans (((keeps_set _ nb 0 _).mono (fun i h => .inr (.inl h))).trans (((keeps_set _ eb 0 _).mono (fun i h => .inr (.inr h))).trans ⟨rfl,rfl,rfl,Nat.le_refl _,fun _ _ _ => rfl⟩))
end Go.Proofs.YthkijogloebdoaaGreatDoor
end
section
namespace Go.Proofs.YthkijogloebdoaaGreatDoor
open Go.RowKit Go.Maps Rec Gp Fs
theorem results_ct {fn:Func}{p q:Tmp}(h:fn.results=#[.cell p 44,.tmp q])(tmps:Array Value)(w:World)(g1:Nat)(cs:Array Value)(v:Value)(hp:tmps.getD p undef=.pointer (some ⟨g1,0,none⟩))(hq:tmps.getD q undef=v)
    (h1:Is w g1 44 cs)(hs:cs.size=15):(results fn tmps).run Tryz.prog w=.ok (.tuple #[.agg cs,v]) w:=by
  have hp':tmps[p]?.getD undef=.pointer (some ⟨g1,0,none⟩):=by simpa using hp
  have hq':tmps[q]?.getD undef=v:=by simpa using hq
  simp [results,h,hp',hq',asAddr,run_loadVar_row w g1 44 44 cs (0,0) _ h1 Tryz.underlying44 rfl (by rw [hs]; exact size15)]
set_option maxRecDepth 100000 in
set_option maxHeartbeats 800000 in
theorem fget_any (c:Cx)(w:World)(O:Nat → Prop)(T:Tn)(n:Nat)(he:Env c w O T n)(i:Nat)(x:Ino)(hi0:1 ≤ i)(hi:i < cnt n)(hx:InoAt (T.view c.D) n i x)(hk:x.kind ≠ 0) :
    Calls Tryz.prog 33 #[.pointer (some ⟨c.t,0,none⟩),geoV n,.int .i64 (i:Int)] w fun e w' => e=.returned (.tuple #[.agg x.C,.int .i64 0]) ∧ Below w.heap.size w w':=by
  obtain ⟨hb0,i0,i1⟩:=two_new w #[.int .i64 (n:Int),.int .i64 98,.int .i64 (ino n:Int),.int .i64 (dat n:Int),.int .i64 (cnt n:Int)] zeroC 31 44
  obtain ⟨W,hW⟩:∃ W,(w.alloc (.cells #[.int .i64 (n:Int),.int .i64 98,.int .i64 (ino n:Int),.int .i64 (dat n:Int),.int .i64 (cnt n:Int)] 31)).alloc (.cells zeroC 44)=W:=⟨_,rfl⟩
  have hz1:W.heap.size=w.heap.size + 2:=by rw [← hW]; simp [World.size_alloc]
  rw [hW] at hb0 i0 i1
  have hWW:=hW
  unfold zeroC at hWW
  have hE:=he.later hb0
  have HG:=Lib.hid (iget_any c W O T hE.tx n i x he.hn he.hN hi0 hi hx hE.wd)
  have d10:W.cell? ⟨w.heap.size,0,none⟩=some (.int .i64 (n:Int)):=i0.cell 0
  have d11:W.cell? ⟨w.heap.size,1,none⟩=some (.int .i64 98):=i0.cell 1
  have d12:W.cell? ⟨w.heap.size,2,none⟩=some (.int .i64 (ino n:Int)):=i0.cell 2
  have d13:W.cell? ⟨w.heap.size,3,none⟩=some (.int .i64 (dat n:Int)):=i0.cell 3
  have d14:W.cell? ⟨w.heap.size,4,none⟩=some (.int .i64 (cnt n:Int)):=i0.cell 4
  have hkb:((x.kind:Int) == 0)=false:=by rw [beq_eq_false_iff_ne]; omega
  have HB0:=Lib.hid hb0
  have HI1:=Lib.hid i1
  have hil:=i1.lt
  obtain ⟨t,ht⟩:∃ t,c.t=t:=⟨_,rfl⟩
  rw [ht] at HG ⊢
  clear he hE hx hb0 i0 i1 hW ht hk
  unfold Ino.C at HG
  go_enter Tryz.func33,Tryz.ntmps33
  go_wp2_with (first
    | (go_at_call 27
       refine HG.out.mono ?_
       rintro e w1 ⟨rfl,hb1⟩
       have HB1:=Lib.hid hb1
       have hs1:=hb1.size
       have HY1:=Lib.hid ((HI1.out.below hb1 hil).below (below_new w1 (.cells x.C 44)) (by omega))
       clear hb1)
    | (refine wpList_store_row rfl 44 (.tmp 6) (.tmp 24) rfl (w.heap.size + 1) x.C rfl rfl 44 zeroC HY1.out size15 rfl (inoC_one _) ?_
       have HY9:=Lib.hid (HY1.out.row x.C)
       have HK9:=Lib.hid (keeps_row (w1.alloc (.cells x.C 44)) (w.heap.size + 1) x.C)))
  refine bodyPost_ret (v:=.tuple #[.agg x.C,.int .i64 0]) (results_ct rfl _ _ (w.heap.size + 1) x.C (.int .i64 0) rfl rfl HY9.out rfl) rfl ?_
  refine ⟨rfl,(HB0.out.trans (HB1.out.mono (by omega))).trans (((below_new w1 _).mono (by omega)).trans (HK9.out.below (by rw [World.size_alloc]; omega) (fun j e => by rw [show j=w.heap.size + 1 from e]; omega)))⟩
set_option maxRecDepth 100000 in
set_option maxHeartbeats 800000 in
theorem fblock_any (c:Cx)(w:World)(O:Nat → Prop)(T:Tn)(n:Nat)(he:Env c w O T n)(X:Nat → Ino)(L:Nat → Nat → Nat)(h:Tree0 n (T.view c.D) X L)(f k:Nat)(hf:f < 3)(hk:k < 16522) :
    Calls Tryz.prog 41 #[.pointer (some ⟨c.t,0,none⟩),geoV n,.agg (X f).C,.int .i64 (k:Int)] w fun e w' =>
      (∃ g cp,e=.returned (.tuple #[.slice (some ⟨g,0,none⟩) 512 cp,.int .i64 0]) ∧ Rw w' g (if L f k=0 then Fs.blank else T.view c.D (L f k)) ∧ w.heap.size ≤ g ∧ 512 ≤ cp) ∧ Below w.heap.size w w':=by
  obtain ⟨hb0,i0,i1⟩:=two_new w #[.int .i64 (n:Int),.int .i64 98,.int .i64 (ino n:Int),.int .i64 (dat n:Int),.int .i64 (cnt n:Int)] (X f).C 31 44
  obtain ⟨W,hW⟩:∃ W,(w.alloc (.cells #[.int .i64 (n:Int),.int .i64 98,.int .i64 (ino n:Int),.int .i64 (dat n:Int),.int .i64 (cnt n:Int)] 31)).alloc (.cells (X f).C 44)=W:=⟨_,rfl⟩
  rw [hW] at hb0 i0 i1
  have hE:=he.later hb0
  have HFd:=Lib.hid (find_any c W O T n hE X L h f k hf hk)
  have HRd:=Lib.hid (fun w1 (hb:Below W.heap.size W w1) (h0:L f k ≠ 0) => tread_any c w1 O T (hE.later hb).tx (L f k) (by rw [he.hN]; exact (h.inn f k h0).2.2.2))
  have d10:W.cell? ⟨w.heap.size,0,none⟩=some (.int .i64 (n:Int)):=i0.cell 0
  have d11:W.cell? ⟨w.heap.size,1,none⟩=some (.int .i64 98):=i0.cell 1
  have d12:W.cell? ⟨w.heap.size,2,none⟩=some (.int .i64 (ino n:Int)):=i0.cell 2
  have d13:W.cell? ⟨w.heap.size,3,none⟩=some (.int .i64 (dat n:Int)):=i0.cell 3
  have d14:W.cell? ⟨w.heap.size,4,none⟩=some (.int .i64 (cnt n:Int)):=i0.cell 4
  obtain ⟨x,hx⟩:∃ x,X f=x:=⟨_,rfl⟩
  rw [hx] at i1 hW HFd ⊢
  have d20:W.cell? ⟨w.heap.size + 1,0,none⟩=some (.int .i64 (x.kind:Int)):=i1.cell 0
  have d21:W.cell? ⟨w.heap.size + 1,1,none⟩=some (.int .i64 (x.links:Int)):=i1.cell 1
  have d22:W.cell? ⟨w.heap.size + 1,2,none⟩=some (.int .i64 (x.size:Int)):=i1.cell 2
  have d23:W.cell? ⟨w.heap.size + 1,3,none⟩=some (.int .i64 (x.num 0:Int)):=i1.cell 3
  have d24:W.cell? ⟨w.heap.size + 1,4,none⟩=some (.int .i64 (x.num 1:Int)):=i1.cell 4
  have d25:W.cell? ⟨w.heap.size + 1,5,none⟩=some (.int .i64 (x.num 2:Int)):=i1.cell 5
  have d26:W.cell? ⟨w.heap.size + 1,6,none⟩=some (.int .i64 (x.num 3:Int)):=i1.cell 6
  have d27:W.cell? ⟨w.heap.size + 1,7,none⟩=some (.int .i64 (x.num 4:Int)):=i1.cell 7
  have d28:W.cell? ⟨w.heap.size + 1,8,none⟩=some (.int .i64 (x.num 5:Int)):=i1.cell 8
  have d29:W.cell? ⟨w.heap.size + 1,9,none⟩=some (.int .i64 (x.num 6:Int)):=i1.cell 9
  have d210:W.cell? ⟨w.heap.size + 1,10,none⟩=some (.int .i64 (x.num 7:Int)):=i1.cell 10
  have d211:W.cell? ⟨w.heap.size + 1,11,none⟩=some (.int .i64 (x.num 8:Int)):=i1.cell 11
  have d212:W.cell? ⟨w.heap.size + 1,12,none⟩=some (.int .i64 (x.num 9:Int)):=i1.cell 12
  have d213:W.cell? ⟨w.heap.size + 1,13,none⟩=some (.int .i64 (x.num 10:Int)):=i1.cell 13
  have d214:W.cell? ⟨w.heap.size + 1,14,none⟩=some (.int .i64 (x.num 11:Int)):=i1.cell 14
  have HB0:=Lib.hid hb0
  have hmk:=run_make512
  obtain ⟨num,hnum⟩:∃ num,L f k=num:=⟨_,rfl⟩
  rw [hnum] at HFd HRd ⊢
  obtain ⟨t,ht⟩:∃ t,c.t=t:=⟨_,rfl⟩
  rw [ht] at HFd HRd ⊢
  have hWW:=hW
  unfold Ino.C at hWW HFd ⊢
  clear he hE h hb0 i0 i1 hW ht hf hk hx
  by_cases hz:num=0
  · have hzb:((num:Int) == 0)=true:=by rw [beq_iff_eq]; omega
    have HZ:=Lib.hid hz
    clear hz
    go_enter Tryz.func41,Tryz.ntmps41
    go_wp2_with (
      go_at_call 79
      refine HFd.out.mono ?_
      rintro e w1 ⟨rfl,hb1⟩
      have HB1:=Lib.hid hb1
      clear hb1)
    obtain ⟨hb2,i2⟩:=one_new w1 (u8s nil512) 5
    refine bodyPost_ret (v:=.tuple #[.slice (some ⟨w1.heap.size,0,none⟩) 512 512,.int .i64 0]) (by simp [results,Tryz.results41,go_sem]) rfl ?_
    have hs0:=HB0.out.size
    have hs1:=HB1.out.size
    refine ⟨⟨w1.heap.size,512,rfl,?_,by omega,Nat.le_refl _⟩,HB0.out.trans ((HB1.out.mono hs0).trans (hb2.mono (by omega)))⟩
    first
      | (rw [show Fs.blank=nil512 from rfl]; exact Rw.of_is i2)
      | (rw [if_pos HZ.out,show Fs.blank=nil512 from rfl]; exact Rw.of_is i2)
  · have hzb:((num:Int) == 0)=false:=by rw [beq_eq_false_iff_ne]; omega
    have HZ:=Lib.hid hz
    clear hz
    go_enter Tryz.func41,Tryz.ntmps41
    go_wp2_with (first
      | (go_at_call 79
         refine HFd.out.mono ?_
         rintro e w1 ⟨rfl,hb1⟩
         have HR1:=Lib.hid (HRd.out w1 hb1 HZ.out)
         have HB1:=Lib.hid hb1
         clear hb1)
      | (go_at_call 37
         refine HR1.out.mono ?_
         rintro e w2 ⟨⟨g,cp,rfl,hg,hgs,hcp⟩,hb2⟩
         have HG:=Lib.hid hg
         have HB2:=Lib.hid hb2
         clear hg hb2))
    refine bodyPost_ret (v:=.tuple #[.slice (some ⟨g,0,none⟩) 512 cp,.int .i64 0]) (by simp [results,Tryz.results41,go_sem]) rfl ?_
    have hs0:=HB0.out.size
    have hs1:=HB1.out.size
    refine ⟨⟨g,cp,rfl,?_,by omega,hcp⟩,HB0.out.trans ((HB1.out.mono hs0).trans (HB2.out.mono (by omega)))⟩
    first
      | exact HG.out
      | (rw [if_neg HZ.out]; exact HG.out)
end Go.Proofs.YthkijogloebdoaaGreatDoor
end
section
namespace Go.Proofs.YthkijogloebdoaaGreatDoor
open Go.RowKit Go.Maps Rec Gp Fs
def Wiped (c:Cx)(w:World)(O:Nat → Prop)(T:Tn)(num a:Nat)(e:Ending)(w':World):Prop :=
  e=.returned (.int .i64 0) ∧ ∃ (O':Nat → Prop) (T':Tn),TxnAt c w' O' T' ∧ Fr w O w' O' ∧ (((a=0 ∨ num=0) ∧ T'=T) ∨ (a ≠ 0 ∧ num ≠ 0 ∧ T'=T.put num (zeroFrom a (T.view c.D num))))
theorem getD_at (l:List UInt8){j:Nat}(h:j < l.length):l.getD j 0=l[j]:=by rw [List.getD_eq_getElem?_getD,List.getElem?_eq_getElem h]; rfl
theorem zeroFrom_eq {a:Nat}{l b:List UInt8}(hl:l.length=512)(hb:b.length=512)(h:∀ j,j < 512 → b.getD j 0=if j < a then l.getD j 0 else 0):b=zeroFrom a l:=by
  refine List.ext_getElem (by rw [zeroFrom_len,hl,hb]) (fun j h1 h2 => ?_)
  have e1:=h j (by omega)
  have e2:=zeroFrom_at a l j
  rw [getD_at _ h1] at e1
  rw [getD_at _ h2] at e2
  rw [e1,e2]
set_option maxRecDepth 100000 in
set_option maxHeartbeats 1600000 in
theorem wipe_any (c:Cx)(w:World)(O:Nat → Prop)(T:Tn)(n:Nat)(he:Env c w O T n)(X:Nat → Ino)(L:Nat → Nat → Nat)(h:Tree0 n (T.view c.D) X L)(f sz k a:Nat)(hf:f < 3)(hsz:sz < 8459264)(hk:sz / 512=k)(ha:sz % 512=a)
    (S:List Nat)(hS:T.Cov S)(hSk:L f k ≠ 0 → L f k ∈ S)(h96:S.length ≤ 96)(hT:T.H.length ≤ 1000000) :
    Calls Tryz.prog 40 #[.pointer (some ⟨c.t,0,none⟩),geoV n,.agg (X f).C,.int .i64 (sz:Int)] w (Wiped c w O T (L f k) a):=by
  obtain ⟨hb0,i0,i1⟩:=two_new w #[.int .i64 (n:Int),.int .i64 98,.int .i64 (ino n:Int),.int .i64 (dat n:Int),.int .i64 (cnt n:Int)] (X f).C 31 44
  obtain ⟨W,hW⟩:∃ W,(w.alloc (.cells #[.int .i64 (n:Int),.int .i64 98,.int .i64 (ino n:Int),.int .i64 (dat n:Int),.int .i64 (cnt n:Int)] 31)).alloc (.cells (X f).C 44)=W:=⟨_,rfl⟩
  rw [hW] at hb0 i0 i1
  have hE:=he.later hb0
  have HFd:=Lib.hid (find_any c W O T n hE X L h f k hf (by omega))
  have HRd:=Lib.hid (fun w1 (hb:Below W.heap.size W w1) (h0:L f k ≠ 0) => tread_any c w1 O T (hE.later hb).tx (L f k) (by rw [he.hN]; exact (h.inn f k h0).2.2.2))
  have HEE:=Lib.hid hE
  have HHT:=Lib.hid h
  have HSS:=Lib.hid hS
  have HSK:=Lib.hid hSk
  have d10:W.cell? ⟨w.heap.size,0,none⟩=some (.int .i64 (n:Int)):=i0.cell 0
  have d11:W.cell? ⟨w.heap.size,1,none⟩=some (.int .i64 98):=i0.cell 1
  have d12:W.cell? ⟨w.heap.size,2,none⟩=some (.int .i64 (ino n:Int)):=i0.cell 2
  have d13:W.cell? ⟨w.heap.size,3,none⟩=some (.int .i64 (dat n:Int)):=i0.cell 3
  have d14:W.cell? ⟨w.heap.size,4,none⟩=some (.int .i64 (cnt n:Int)):=i0.cell 4
  obtain ⟨x,hx⟩:∃ x,X f=x:=⟨_,rfl⟩
  rw [hx] at i1 hW HFd ⊢
  have d20:W.cell? ⟨w.heap.size + 1,0,none⟩=some (.int .i64 (x.kind:Int)):=i1.cell 0
  have d21:W.cell? ⟨w.heap.size + 1,1,none⟩=some (.int .i64 (x.links:Int)):=i1.cell 1
  have d22:W.cell? ⟨w.heap.size + 1,2,none⟩=some (.int .i64 (x.size:Int)):=i1.cell 2
  have d23:W.cell? ⟨w.heap.size + 1,3,none⟩=some (.int .i64 (x.num 0:Int)):=i1.cell 3
  have d24:W.cell? ⟨w.heap.size + 1,4,none⟩=some (.int .i64 (x.num 1:Int)):=i1.cell 4
  have d25:W.cell? ⟨w.heap.size + 1,5,none⟩=some (.int .i64 (x.num 2:Int)):=i1.cell 5
  have d26:W.cell? ⟨w.heap.size + 1,6,none⟩=some (.int .i64 (x.num 3:Int)):=i1.cell 6
  have d27:W.cell? ⟨w.heap.size + 1,7,none⟩=some (.int .i64 (x.num 4:Int)):=i1.cell 7
  have d28:W.cell? ⟨w.heap.size + 1,8,none⟩=some (.int .i64 (x.num 5:Int)):=i1.cell 8
  have d29:W.cell? ⟨w.heap.size + 1,9,none⟩=some (.int .i64 (x.num 6:Int)):=i1.cell 9
  have d210:W.cell? ⟨w.heap.size + 1,10,none⟩=some (.int .i64 (x.num 7:Int)):=i1.cell 10
  have d211:W.cell? ⟨w.heap.size + 1,11,none⟩=some (.int .i64 (x.num 8:Int)):=i1.cell 11
  have d212:W.cell? ⟨w.heap.size + 1,12,none⟩=some (.int .i64 (x.num 9:Int)):=i1.cell 12
  have d213:W.cell? ⟨w.heap.size + 1,13,none⟩=some (.int .i64 (x.num 10:Int)):=i1.cell 13
  have d214:W.cell? ⟨w.heap.size + 1,14,none⟩=some (.int .i64 (x.num 11:Int)):=i1.cell 14
  have HB0:=Lib.hid hb0
  obtain ⟨num,hnum⟩:∃ num,L f k=num:=⟨_,rfl⟩
  rw [hnum] at HFd HRd HSK ⊢
  have HNU:=Lib.hid hnum
  have hWW:=hW
  unfold Ino.C at hWW HFd ⊢
  have u1:(sz:Int) % 512=(a:Int):=by omega
  have u2:(sz:Int) / 512=(k:Int):=by omega
  have hal:a < 512:=by omega
  have u3:=IntWalk.i64_in (n:=(k:Int)) (by omega)
  have u4:=IntWalk.i64_in (n:=(a:Int)) (by omega)
  have HTT:=Lib.hid hT
  obtain ⟨t,ht⟩:∃ t,c.t=t:=⟨_,rfl⟩
  have HT:=Lib.hid ht
  rw [ht] at HFd HRd ⊢
  unfold Wiped
  clear he hE h hb0 i0 i1 hW hx hS hSk hnum ht hk ha hsz hT
  by_cases ha0:a=0
  · have hab:((a:Int) == 0)=true:=by rw [beq_iff_eq]; omega
    have HA0:=Lib.hid ha0
    clear ha0
    go_enter Tryz.func40,Tryz.ntmps40
    go_wp2_with fail
    go_ret
    exact ⟨rfl,O,T,HEE.out.tx,Fr.of_below HB0.out,.inl ⟨.inl HA0.out,rfl⟩⟩
  have hab:((a:Int) == 0)=false:=by rw [beq_eq_false_iff_ne]; omega
  have HA0:=Lib.hid ha0
  clear ha0
  by_cases hz:num=0
  · have hzb:((num:Int) == 0)=true:=by rw [beq_iff_eq]; omega
    have HZ:=Lib.hid hz
    clear hz
    go_enter Tryz.func40,Tryz.ntmps40
    go_wp2_with (
      go_at_call 79
      refine HFd.out.mono ?_
      rintro e w1 ⟨rfl,hb1⟩
      have HB1:=Lib.hid hb1
      clear hb1)
    go_ret
    exact ⟨rfl,O,T,HEE.out.tx.later HB1.out,Fr.of_below (HB0.out.trans (HB1.out.mono HB0.out.size)),.inl ⟨.inr HZ.out,rfl⟩⟩
  have hzb:((num:Int) == 0)=false:=by rw [beq_eq_false_iff_ne]; omega
  have HZ:=Lib.hid hz
  clear hz
  have hd:dat n ≤ num ∧ num < n:=by
    have:=HHT.out.inn f k (by rw [HNU.out]; exact HZ.out)
    rw [HNU.out] at this; exact this.2.2
  obtain ⟨l,hl⟩:∃ l,T.view c.D num=l:=⟨_,rfl⟩
  have hlen:l.length=512:=by rw [← hl]; exact HEE.out.len hd.2
  have HD:=Lib.hid hd
  have HLN:=Lib.hid hlen
  rw [hl] at HRd ⊢
  have HLL:=Lib.hid hl
  clear hd hlen hl
  go_enter Tryz.func40,Tryz.ntmps40
  go_wp2_with (first
    | (go_at_call 79
       refine HFd.out.mono ?_
       rintro e w1 ⟨rfl,hb1⟩
       have HR1:=Lib.hid (HRd.out w1 hb1 HZ.out)
       have HB1:=Lib.hid hb1
       clear hb1)
    | (go_at_call 37
       refine HR1.out.mono ?_
       rintro e w2 ⟨⟨g,cp,rfl,hg,hgs,hcp⟩,hb2⟩
       have HG:=Lib.hid hg
       have HB2:=Lib.hid hb2
       have HGS:=Lib.hid hgs
       clear hg hb2 hgs))
  have hs0:=HB0.out.size
  have hs1:=HB1.out.size
  have HBB:=Lib.hid (HB1.out.trans (HB2.out.mono hs1))
  go_loopw [12] (fun v wr => ∃ j:Nat,a ≤ j ∧ j ≤ 512 ∧ v=.int .i64 (j:Int) ∧ ∃ b,Rw wr g b ∧ b.length=512 ∧ (∀ i,i < 512 → b.getD i 0=if a ≤ i ∧ i < j then 0 else l.getD i 0) ∧ Keeps (·=g) w2 wr) (fun v _ => 512 - (intOf v).toNat)
  case atStart => exact ⟨a,Nat.le_refl _,by omega,by first | rfl | rw [u1],l,HG.out,HLN.out,fun i hi => by rw [if_neg (by omega)],Keeps.refl _ _⟩
  case round =>
    obtain ⟨j,haj,hj,rfl,b,hb,hbl,hbv,hbk⟩:=hrel
    have HBW:=Lib.hid hb
    have HBL:=Lib.hid hbl
    have HBV:=Lib.hid hbv
    have HBK:=Lib.hid hbk
    by_cases hlt:j < 512
    · have hlt2:(j:Int) < 512:=by omega
      obtain ⟨v0,hc⟩:∃ v0,wr.cell? ⟨g,j,none⟩=some v0:=⟨_,hb.cell (k:=j) (by omega)⟩
      have hfr:=hb.free j
      clear hb hbl hbv hbk
      go_wp2_with fail
      go_roundw
      case rel =>
        refine ⟨j + 1,by omega,by omega,by go_num,b.set j 0,HBW.out.put j 0,by rw [List.length_set]; exact HBL.out,fun i hi => ?_,HBK.out.trans (keeps_set _ _ _ _)⟩
        have hbi:i < b.length:=by rw [HBL.out]; exact hi
        rw [getD_at _ (by rw [List.length_set]; exact hbi),List.getElem_set]
        by_cases e:j=i
        · rw [if_pos e,if_pos (by omega)]
        · rw [if_neg e]
          have:=HBV.out i hi
          rw [getD_at _ hbi] at this
          rw [this]
          by_cases e2:a ≤ i ∧ i < j
          · rw [if_pos e2,if_pos (by omega)]
          · rw [if_neg e2,if_neg (by omega)]
      case measure => simp [intOf]; omega
    · have hge:¬ (j:Int) < 512:=by omega
      have hbz:b=zeroFrom a l:=zeroFrom_eq HLN.out HBL.out (fun i hi => by
        rw [HBV.out i hi]
        by_cases e:i < a
        · rw [if_neg (by omega),if_pos e]
        · rw [if_pos (by omega),if_neg e])
      have hgO:¬ O g:=fun o => by have:=HEE.out.tx.lt _ o; have:=HGS.out; omega
      have htw:TxnAt c wr O T:=(HEE.out.tx.later HBB.out).keep1 hbk hgO
      have hd98:=dat_pos n
      have HWR:=Lib.hid (twrite_any c wr O T htw num (some ⟨g,0,none⟩) cp b (by have:=HD.out; omega) (by rw [HEE.out.hN]; exact HD.out.2) hbl hb.bytes (fun g' off e => by injection e with e; injection e with e1 e2; subst e1; exact hgO) S HSS.out (HSK.out HZ.out) h96 HTT.out)
      unfold Wrote at HWR
      have HBZ:=Lib.hid hbz
      have HFR:=Lib.hid (((Fr.of_below (O:=O) HB0.out).trans (Fr.of_below HBB.out)).keep hbk (fun i e => by rw [show i=g from e]; have:=HGS.out; omega))
      rw [HT.out] at HWR
      clear hb hbl hbv hbk hbz hgO htw hj
      go_wp2_with (
        go_at_call 38
        refine HWR.out.mono ?_
        rintro e w3 ⟨rfl,O3,hT3,hF3⟩
        have HT3:=Lib.hid hT3
        have HF3:=Lib.hid hF3
        clear hT3 hF3)
      go_ret
      exact ⟨rfl,O3,_,HT3.out,HFR.out.trans HF3.out,.inr ⟨HA0.out,HZ.out,by rw [HBZ.out]⟩⟩
end Go.Proofs.YthkijogloebdoaaGreatDoor
end
section
namespace Go.Proofs.YthkijogloebdoaaGreatDoor
open Go.RowKit Go.Maps Rec Gp Fs
structure UndoB (w:World)(pb tb mb t ep m:Nat):Prop where
  p:Is w pb 92 #[.pointer (some ⟨ep,0,none⟩)]
  t:Is w tb 36 #[.pointer (some ⟨t,0,none⟩)]
  m:Is w mb 3 #[.int .i64 (m:Int)]
abbrev undoV (pb tb mb:Nat):Value:=.func (.func 61) #[] #[.pointer (some ⟨pb,0,none⟩),.pointer (some ⟨tb,0,none⟩),.pointer (some ⟨mb,0,none⟩)]
theorem UndoB.same {w w2:World}{pb tb mb t ep m:Nat}(h:UndoB w pb tb mb t ep m)(e:∀ k,k=pb ∨ k=tb ∨ k=mb → w2.heap[k]? = w.heap[k]?):UndoB w2 pb tb mb t ep m :=
  ⟨(e _ (.inl rfl)).trans h.p,(e _ (.inr (.inl rfl))).trans h.t,(e _ (.inr (.inr rfl))).trans h.m⟩
set_option maxRecDepth 100000 in
theorem undo_any (c:Cx)(w:World)(O:Nat → Prop)(T:Tn)(h:TxnAt c w O T)(ep:Nat) :
    Calls Tryz.prog 34 #[.pointer (some ⟨c.t,0,none⟩),.pointer (some ⟨ep,0,none⟩)] w fun e w' => (∃ pb tb mb,e=.returned (undoV pb tb mb) ∧ UndoB w' pb tb mb c.t ep T.H.length ∧ w.heap.size ≤ pb ∧ w.heap.size ≤ tb ∧ w.heap.size ≤ mb) ∧ Below w.heap.size w w':=by
  obtain ⟨hb0,i0,j0⟩:=two_new w #[.pointer (some ⟨c.t,0,none⟩)] #[.pointer (some ⟨ep,0,none⟩)] 36 92
  obtain ⟨W,hW⟩:∃ W,(w.alloc (.cells #[.pointer (some ⟨c.t,0,none⟩)] 36)).alloc (.cells #[.pointer (some ⟨ep,0,none⟩)] 92)=W:=⟨_,rfl⟩
  rw [hW] at hb0 i0 j0
  have HB0:=Lib.hid hb0
  have HI0:=Lib.hid i0
  have HJ0:=Lib.hid j0
  have c0:W.cell? ⟨w.heap.size,0,none⟩=some (.pointer (some ⟨c.t,0,none⟩)):=i0.cell 0
  have HM:=Lib.hid (tmark_any c W O T (h.later hb0))
  obtain ⟨t,ht⟩:∃ t,c.t=t:=⟨_,rfl⟩
  obtain ⟨m,hm⟩:∃ m,T.H.length=m:=⟨_,rfl⟩
  rw [ht,hm] at HM
  rw [hm]
  rw [ht] at hW c0 HI0 ⊢
  have hw0:w.heap.size < W.heap.size:=i0.lt
  have hw1:w.heap.size + 1 < W.heap.size:=j0.lt
  clear h hb0 i0 j0 ht hm
  go_enter Tryz.func34,Tryz.ntmps34
  go_wp2_with (
    go_at_call 60
    refine HM.out.mono ?_
    rintro e w1 ⟨rfl,rfl⟩)
  obtain ⟨hb1,i1⟩:=one_new W #[.int .i64 (m:Int)] 3
  go_ret
  exact ⟨⟨w.heap.size + 1,w.heap.size,W.heap.size,rfl,⟨HJ0.out.below hb1 hw1,HI0.out.below hb1 hw0,i1⟩,by omega,Nat.le_refl _,by omega⟩,HB0.out.trans (hb1.mono (by omega))⟩
set_option maxRecDepth 100000 in
theorem undo1_ok (w:World)(pb tb mb t ep m:Nat)(u:FrameMode)(h:UndoB w pb tb mb t ep m)(he:w.cell? ⟨ep,0,none⟩=some (.int .i64 0)) :
    CallsD Tryz.prog 61 #[.pointer (some ⟨pb,0,none⟩),.pointer (some ⟨tb,0,none⟩),.pointer (some ⟨mb,0,none⟩)] u w fun e u' w' => u'=u ∧ e=.returned (.tuple #[]) ∧ w=w':=by
  have c0:w.cell? ⟨pb,0,none⟩=some (.pointer (some ⟨ep,0,none⟩)):=h.p.cell 0
  clear h
  go_enter_d Tryz.func61,Tryz.ntmps61
  go_wp2_with fail
  go_end0
  exact ⟨rfl,rfl⟩
end Go.Proofs.YthkijogloebdoaaGreatDoor
end
section
namespace Go.Proofs.YthkijogloebdoaaGreatDoor
open Go.RowKit Go.Maps Go.Shelf Rec Gp Fs
theorem is_type {W:World}{g:Nat}{t t2:TypeId}{cs cs2:Array Value}(h:Is W g t cs)(h2:Is W g t2 cs2):t=t2:=by
  have e:=Option.some.inj ((show W.heap[g]? = some (.cells cs t (0,0)) from h).symm.trans (show W.heap[g]? = some (.cells cs2 t2 (0,0)) from h2))
  injection e
theorem Keeps.grown {w w2:World}{row:Option Nat}(hg:w.grownBy w2 row):Keeps (fun i => some i=row) w w2:=⟨hg.os,hg.tape,hg.output,hg.size,fun k hk hn => hg.block k hk hn⟩
theorem FrX.grown {G:Nat → Prop}{w w2 w3:World}{O O2:Nat → Prop}(h:FrX G w O w2 O2){row:Option Nat}(hg:w2.grownBy w3 row)(hr:∀ r,row=some r → w.heap.size ≤ r):FrX G w O w3 O2 :=
  ⟨⟨hg.os.trans h.1.os,hg.tape.trans h.1.tape,hg.output.trans h.1.output,Nat.le_trans h.1.size hg.size,fun i hi hn => (hg.block i (Nat.lt_of_lt_of_le hi h.1.size) (fun e => by have:=hr i e.symm; omega)).trans (h.1.block i hi hn)⟩,h.2⟩
theorem TxnAt.grown {c:Cx}{w w2:World}{O:Nat → Prop}{T:Tn}(h:TxnAt c w O T)(ho:OwnsC w c.b O){row:Option Nat}(hg:w.grownBy w2 row)(hr:∀ r,row=some r → c.b < r ∧ ∃ o:Obj,w.heap[r]? = some o ∧ o.isCells=false):TxnAt c w2 O T :=
  h.keeps (Keeps.grown hg) (fun i e hi => by
    obtain ⟨hlt,o,hob,hc⟩:=hr i e.symm
    rcases (ho i hi).2 with e2 | ⟨cs,t,f,e2⟩
    · omega
    · rw [e2] at hob; injection hob with hob; subst hob; cases hc)
def KpP (ob nb:Nat)(W W':World):Prop:=(∀ k,k=ob ∨ k=nb → W'.heap[k]? = W.heap[k]?) ∧ ∀ g cs,Is W g 97 cs → Is W' g 97 cs
theorem kpP_t {ob nb:Nat}{A B C:World}(h:KpP ob nb A B)(k:KpP ob nb B C):KpP ob nb A C:=⟨fun i hi => (k.1 i hi).trans (h.1 i hi),fun g cs hg => k.2 g cs (h.2 g cs hg)⟩
theorem kpP_b {ob nb:Nat}{w:World}(h1:ob < w.heap.size)(h2:nb < w.heap.size)(W:World)(l:Nat)(o o':Obj)(hl:w.heap.size ≤ l)(h:W.heap[l]? = some o)(hc:o.isCells=false)(_:o.isWalk=false):KpP ob nb W (W.putObj l o') :=
  ⟨fun k hk => World.putObj_heap_other (by omega),fun g cs hg => (World.putObj_heap_other (fun e => by
    subst e
    have h3:=Option.some.inj ((show W.heap[g]? = some (.cells cs 97 (0,0)) from hg).symm.trans h)
    subst h3; cases hc)).trans hg⟩
theorem KpP.of_fr {ob nb b:Nat}{W W':World}{O O':Nat → Prop}(ho:OwnsC W b O)(hf:Fr W O W' O')(h1:ob < W.heap.size)(h2:nb < W.heap.size)(n1:¬ O ob)(n2:¬ O nb):KpP ob nb W W' :=
  ⟨fun k hk => hf.1.block k (by rcases hk with rfl | rfl <;> assumption) (by rcases hk with rfl | rfl <;> assumption),fun g cs hg => ho.part hf hg⟩
theorem KpP.of_keeps {ob nb g:Nat}{W W':World}(hk:Keeps (·=g) W W')(h1:ob < W.heap.size)(h2:nb < W.heap.size)(n1:ob ≠ g)(n2:nb ≠ g)(hg:∀ cs,¬ Is W g 97 cs):KpP ob nb W W' :=
  ⟨fun k h => hk.block k (by rcases h with rfl | rfl <;> assumption) (by rcases h with rfl | rfl <;> assumption),fun i cs hi => (hk.block i hi.lt (fun e => by
    have e:i=g:=e
    subst e; exact hg cs hi)).trans hi⟩
theorem parts_stopsK (n:Nat)(hn:1 ≤ n)(ob nb off m:Nat)(ho:off ≤ 9000000)(hm:m ≤ 9000000)(w0:World)(h1:Is w0 ob 3 #[.int .i64 (off:Int)])(h2:Is w0 nb 3 #[.int .i64 (m:Int)]) :
    SeqStopsK Fence.wide n Tryz.prog 63 #[.pointer (some ⟨nb,0,none⟩),.pointer (some ⟨ob,0,none⟩)] (partArgs (off:=off) (m:=m)) (KpP ob nb) (fun ys => firsts ys=List.range (pMany off m)) (fun _ => True) (pMany off m) w0:=by
  intro l J Jx W hb hJ hJx hY h0
  refine (parts1_any n hn l ob nb off m W.heap.size ho hm (KpP ob nb) (fun W1 W2 hk c1 c2 => ⟨(World.cell?_of_block (a:=⟨ob,0,none⟩) (hk.1 ob (.inl rfl))).trans c1,(World.cell?_of_block (a:=⟨nb,0,none⟩) (hk.1 nb (.inr rfl))).trans c2,hk.2⟩) J Jx hJ hY W ((h1.below hb h1.lt).cell 0) ((h2.below hb h2.lt).cell 0) h0).mono ?_
  rintro e W' ⟨hv,⟨ys,h3,h4⟩ | ⟨pre,h5⟩⟩
  · exact ⟨hv,.inl ⟨ys,h3,h4⟩⟩
  · exact ⟨hv,.inr ⟨pre,trivial,h5⟩⟩
structure WrI (c:Cx)(W2:World)(O:Nat → Prop)(T:Tn)(n:Nat)(X:Nat → Ino)(L:Nat → Nat → Nat)(Q:Nat → Pl)(f off:Nat)(s:List UInt8)(xb S0:Nat)(pre:List (PartOf off s.length))(W:World)(O':Nat → Prop)(T':Tn)(X':Nat → Ino)(L':Nat → Nat → Nat)(S':List Nat):Prop where
  tx:TxnAt c W O' T'
  own:OwnsC W c.b O'
  fx:FrX (·=xb) W2 O W O'
  wr:Wring n (T.view c.D) X L f (T'.view c.D) X' L' ((Q f).wrS off s (idx pre))
  ext:Tn.Ext T T'
  len:T'.H.length ≤ T.H.length + 10 * pre.length
  cov:T'.Cov S'
  bm:∀ k,98 ≤ k → k < ino n → k ∈ S'
  im:ino n + (f + 2) / 8 ∈ S'
  sl:S'.length ≤ S0 + 3 * pre.length
  x:Is W xb 44 (X' f).C
structure WrX (c:Cx)(W2:World)(O:Nat → Prop)(T:Tn)(n:Nat)(Q:Nat → Pl)(f off:Nat)(s:List UInt8)(xb eb:Nat)(W:World)(O':Nat → Prop)(T':Tn):Prop where
  tx:TxnAt c W O' T'
  own:OwnsC W c.b O'
  fx:FrX (fun k => k=xb ∨ k=eb) W2 O W O'
  ext:Tn.Ext T T'
  len:T'.H.length ≤ T.H.length + 10000
  e:Is W eb 25 #[.int .i64 90]
  full:n < takes3 (fun g => if g=f then (Q f).wr off s else Q g) + dat n
section
variable {c:Cx}{W2:World}{O:Nat → Prop}{T:Tn}{n:Nat}{X:Nat → Ino}{L:Nat → Nat → Nat}{Q:Nat → Pl}{f off:Nat}{s:List UInt8}{xb eb S0:Nat}{pre:List (PartOf off s.length)}{W:World}{O':Nat → Prop}{T':Tn}{X':Nat → Ino}{L':Nat → Nat → Nat}{S':List Nat}
theorem WrI.grown {B:Nat}(h:WrI c W2 O T n X L Q f off s xb S0 pre W O' T' X' L' S')(hb:c.b < W2.heap.size)(hB:W2.heap.size ≤ B){W3:World}{row:Option Nat}(hg:W.grownBy W3 row)(hr:∀ r,row=some r → B ≤ r ∧ ∃ o:Obj,W.heap[r]? = some o ∧ o.isCells=false):WrI c W2 O T n X L Q f off s xb S0 pre W3 O' T' X' L' S' :=
  have hr2:∀ r,row=some r → c.b < r ∧ ∃ o:Obj,W.heap[r]? = some o ∧ o.isCells=false:=fun r e => ⟨by have:=(hr r e).1; omega,(hr r e).2⟩
  ⟨h.tx.grown h.own hg hr2,h.own.grown h.tx.lt hg hr2,h.fx.grown hg (fun r e => by have:=(hr r e).1; omega),h.wr,h.ext,h.len,h.cov,h.bm,h.im,h.sl,(grownBy_keeps_cells hg (fun r e => (hr r e).2) h.x rfl).trans h.x⟩
theorem WrX.grown {B:Nat}(h:WrX c W2 O T n Q f off s xb eb W O' T')(hb:c.b < W2.heap.size)(hB:W2.heap.size ≤ B){W3:World}{row:Option Nat}(hg:W.grownBy W3 row)(hr:∀ r,row=some r → B ≤ r ∧ ∃ o:Obj,W.heap[r]? = some o ∧ o.isCells=false):WrX c W2 O T n Q f off s xb eb W3 O' T' :=
  have hr2:∀ r,row=some r → c.b < r ∧ ∃ o:Obj,W.heap[r]? = some o ∧ o.isCells=false:=fun r e => ⟨by have:=(hr r e).1; omega,(hr r e).2⟩
  ⟨h.tx.grown h.own hg hr2,h.own.grown h.tx.lt hg hr2,h.fx.grown hg (fun r e => by have:=(hr r e).1; omega),h.ext,h.len,(grownBy_keeps_cells hg (fun r e => (hr r e).2) h.e rfl).trans h.e,h.full⟩
end
section
variable {P:Program}{ops:Array Oper}{rest:List Oper}{o:Oper}{a:Act}{w:World}{Q:Exit → Act → World → Prop}{r n:Nat}
theorem round_load_row (hgd:o.guard=none)(ty:TypeId)(x:Operand)(ho:o.op=.load ty x)(g:Nat)(hx:a.eval x=.pointer (some ⟨g,0,none⟩))(t:TypeId)(cs:Array Value)(fr:Nat × Nat)(d:TypeDesc)(hg:w.heap[g]? = some (.cells cs t fr))
    (hu:P.underlying ty=some d)(hd:(match d with | .struct _ | .array _ _ => true | _ => false)=true)(hi:(P.info? ty).map (·.size)=some cs.size)
    (h:wpListIn (Fence.wide.inRound r) n P ops Q rest (a.put o.dst (.agg cs)) w):wpListIn (Fence.wide.inRound r) n P ops Q (o :: rest) a w :=
  wpListIn_plain hgd fun K hK => op_in (fun c e => by rw [ho] at e; cases e) (fun _ _ h => h) (wp_load_row ty x ho g hx t cs fr d hg hu hd hi (hK _ _ h))
theorem round_store_row (hgd:o.guard=none)(ty:TypeId)(x y:Operand)(ho:o.op=.store ty x y)(g:Nat)(cells:Array Value)(hx:a.eval x=.pointer (some ⟨g,0,none⟩))(hy:a.eval y=.agg cells)
    (t:TypeId)(old:Array Value)(hg:Is w g t old)(hi:(P.info? ty).map (·.size)=some cells.size)(hold:old.size=cells.size)(h1:cells.all (·.oneCell')=true)
    (h:wpListIn (Fence.wide.inRound r) n P ops Q rest (a.put o.dst undef) (w.setRow g cells)):wpListIn (Fence.wide.inRound r) n P ops Q (o :: rest) a w :=
  wpListIn_plain hgd fun K hK => op_in (fun c e => by rw [ho] at e; cases e) (fun _ _ h => h) (wp_store_row ty x y ho g cells hx hy t old hg hi hold h1 (hK _ _ h))
end
theorem kpP_below {ob nb:Nat}{W W':World}(hb:Below W.heap.size W W')(h1:ob < W.heap.size)(h2:nb < W.heap.size):KpP ob nb W W' :=
  ⟨fun k hk => hb.block k (by rcases hk with rfl | rfl <;> assumption),fun g cs hg => hg.below hb hg.lt⟩
theorem keepsFrom_below {B:Nat}{W W':World}(hb:Below W.heap.size W W'):KeepsFrom B W W':=⟨hb.size,fun k o _ ho _ => (hb.block k (Array.getElem?_eq_some_iff.1 ho).1).trans ho⟩
section
variable {n:Nat}{P:Program}
def boxA (a:Act)(p q:Nat)(cs:Array Value)(pb:Nat):Act := { tmps:=(a.tmps.setIfInBounds p (.agg cs)).setIfInBounds q (.pointer (some ⟨pb,0,none⟩)),defers := [] }
theorem assign_box {o1 o2:Oper}{id l p q:Nat}{ty:TypeId}{a:Act}{cs zs:Array Value}{W:World}{K:Act → World → Prop}(g1:o1.guard=none)(g2:o2.guard=none)(p1:o1.op=.alloc ty)(d1:o1.dst=some q)(p2:o2.op=.store ty (.tmp q) (.tmp p))(d2:o2.dst=none)
    (hz:∀ ρ,(execOp ρ o1).run P W=.ok (.value (.pointer (some ⟨W.heap.size,0,none⟩))) (W.alloc (.cells zs ty)))(hi:(P.info? ty).map (·.size)=some cs.size)(hzs:zs.size=cs.size)(h1:cs.all (·.oneCell')=true)
    (hp:p < a.tmps.size)(hq:q < a.tmps.size)(hpq:p ≠ q)(hK:∀ W',Below W.heap.size W W' → Is W' W.heap.size ty cs → K (boxA a p q cs W.heap.size) W') :
    (Code.region id #[o1,o2] false).wpIn (Fence.wide.inRound l) n P (Exit.then K (fun _ _ _ => False)) { tmps:=a.tmps.setIfInBounds p (.agg cs),defers := [] } W:=by
  refine wpIn_region_list ?_
  refine wpListIn_plain g1 fun K1 hK1 => op_in (fun c e => by rw [p1] at e; cases e) hK1 ?_
  unfold Oper.wp
  rw [hz]
  simp only [Oper.upon]
  rw [d1]
  refine round_store_row g2 ty (.tmp q) (.tmp p) p2 W.heap.size cs (by simp [Act.eval,Act.put,hq]) (by simp [Act.eval,Act.put,hp,hq,hpq,Array.getElem?_setIfInBounds,Ne.symm hpq]) ty zs (Is.new W ty zs) hi hzs h1 ?_
  rw [d2]
  have hI:=(Is.new W ty zs).row cs
  have hb:Below W.heap.size W ((W.alloc (.cells zs ty)).setRow W.heap.size cs):=(below_new W _).trans ((keeps_row _ _ _).below (by rw [World.size_alloc]; omega) (fun i e => by rw [show i=W.heap.size from e]; exact Nat.le_refl _))
  exact hK _ hb hI
theorem wpIn_rangeFunc_box {α:Type}{g:Operand}{p q:Tmp}{o1 o2:Oper}{id:Nat}{body:Code}{Q:Exit → Act → World → Prop}{a:Act}{w:World}
    (h1:1 ≤ n){gf:Nat}{lb:Array Value}(hg:a.eval g=.func (.func gf) #[] lb)(eg:∀ args w,(callFunc gf args).run P w=.ok (.enter gf args) w)
    {cs : α → Array Value}{Kp:World → World → Prop}{S Sp:List α → Prop}{N:Nat}{w0:World}(hseq:SeqStopsK Fence.wide (n - 1) P gf lb (fun x => #[.agg (cs x)]) Kp S Sp N w0)
    (hKt:∀ {A B C:World},Kp A B → Kp B C → Kp A C)(hKb:∀ (W:World)(l:Nat)(o o':Obj),w.heap.size ≤ l → W.heap[l]? = some o → o.isCells=false → o.isWalk=false → Kp W (W.putObj l o'))(hb0:Below w0.heap.size w0 w)
    (I:List α → World → Prop)(Ix:Code → List α → World → Prop)(hI:OwnFrom w.heap.size I)(hIx:∀ c,OwnFrom w.heap.size (Ix c))(h0:I [] w)
    (ty:TypeId)(zs:Array Value)(hsz:∀ pre W,I pre W → w.heap.size ≤ W.heap.size)(hKa:∀ pre W W',I pre W → Below W.heap.size W W' → Kp W W')
    (g1:o1.guard=none)(g2:o2.guard=none)(p1:o1.op=.alloc ty)(d1:o1.dst=some q)(p2:o2.op=.store ty (.tmp q) (.tmp p))(d2:o2.dst=none)
    (hz:∀ ρ W,(execOp ρ o1).run P W=.ok (.value (.pointer (some ⟨W.heap.size,0,none⟩))) (W.alloc (.cells zs ty)))(hi:∀ x,(P.info? ty).map (·.size)=some (cs x).size)(hzs:∀ x,zs.size=(cs x).size)(hc1:∀ x,(cs x).all (·.oneCell')=true)
    (hp:p < a.tmps.size)(hq:q < a.tmps.size)(hpq:p ≠ q)
    (hbody:∀ (l:Nat)(pre:List α)(x : α)(pb:Nat)(W:World),I pre W → Is W pb ty (cs x) → w.heap.size ≤ pb → pre.length < N → body.wpIn (Fence.wide.inRound l) (n - 1 - 1) P (ownPostG w.heap.size Kp I Ix (pre ++ [x]) W) (boxA a p q (cs x) pb) W)
    (hdone:∀ (D:Nat)(xs:List α)(W:World),w.heap.size ≤ D → S xs → I xs W → W.heap[D]? = some (.deferred (some [])) → Q .normal { a with defers := { target:=.collected D,args := #[] } :: a.defers } W)
    (hstop:∀ (D:Nat)(c:Code)(pre:List α)(W:World),w.heap.size ≤ D → Sp pre → Ix c pre W → W.heap[D]? = some (.deferred (some [])) → c.wpIn Fence.wide n P Q { a with defers := { target:=.collected D,args := #[] } :: a.defers } W) :
    (Code.rangeFunc g #[p] (Code.region id #[o1,o2] false) body).wpIn Fence.wide n P Q a w :=
  wpIn_rangeFunc_ownH rfl h1 hg trivial eg hseq (fun h k => hKt h k) hKb hb0 (fun _ => rfl) I Ix hI hIx h0 (fun x a' W => ∃ pb,Is W pb ty (cs x) ∧ w.heap.size ≤ pb ∧ a'=boxA a p q (cs x) pb)
    (fun x a' _ W W' row hs hg' hr => by
      obtain ⟨pb,e1,e2,e3⟩:=hs
      exact ⟨pb,(grownBy_keeps_cells hg' (fun r e => (hr r e).2) e1 rfl).trans e1,e2,e3⟩)
    (fun l pre x W K hi0 hK => by
      have e:((#[p]:Array Tmp).zip (#[.agg (cs x)]:Array Value)).foldl (fun t (p,v) => t.setIfInBounds p v) a.tmps=a.tmps.setIfInBounds p (.agg (cs x)):=by simp
      rw [e]
      exact assign_box g1 g2 p1 d1 p2 d2 (fun ρ => hz ρ W) (hi x) (hzs x) (hc1 x) hp hq hpq (fun W' hb hI' => hK _ _ (keepsFrom_below hb) (hKa pre W W' hi0 hb) (hI pre W W' none hi0 ⟨hb.os,hb.tape,hb.output,hb.size,fun k hk _ => hb.block k hk⟩ (fun r e => by cases e)) ⟨W.heap.size,hI',hsz pre W hi0,rfl⟩))
    (fun l pre x a' W _ _ hi0 hA hlt => by
      obtain ⟨pb,e1,e2,rfl⟩:=hA
      exact hbody l pre x pb W hi0 e1 e2 hlt) hdone hstop
end
section
variable {P:Program}{ops:Array Oper}{rest:List Oper}{o:Oper}{a:Act}{w:World}{Q:Exit → Act → World → Prop}{r n:Nat}
theorem round_store_row_k (hgd:o.guard=none)(ty:TypeId)(x y:Operand)(ho:o.op=.store ty x y)(g:Nat)(cells:Array Value)(hx:a.eval x=.pointer (some ⟨g,0,none⟩))(hy:a.eval y=.agg cells)
    (t:TypeId)(old:Array Value)(hg:Is w g t old)(hi:(P.info? ty).map (·.size)=some cells.size)(hold:old.size=cells.size)(h1:cells.all (·.oneCell')=true)
    (h:∀ w2,Is w2 g t cells → Keeps (·=g) w w2 → wpListIn (Fence.wide.inRound r) n P ops Q rest (a.put o.dst undef) w2):wpListIn (Fence.wide.inRound r) n P ops Q (o :: rest) a w :=
  round_store_row hgd ty x y ho g cells hx hy t old hg hi hold h1 (h _ (hg.row cells) (keeps_row w g cells))
end
def presS (l:Nat → Nat)(ps:List Nat):List Nat:=(ps.filter (fun p => !(l p == 0))).map l
theorem presS_len (l:Nat → Nat)(ps:List Nat):(presS l ps).length + absent l ps=ps.length:=by
  unfold presS absent
  rw [List.length_map]
  induction ps with
  | nil => rfl
  | cons a r ih =>
    by_cases e:l a=0
    · rw [List.filter_cons_of_neg (by simp [e]),List.filter_cons_of_pos (by simp [e]),List.length_cons,List.length_cons]; omega
    · rw [List.filter_cons_of_pos (by simp [e]),List.filter_cons_of_neg (by simp [e]),List.length_cons,List.length_cons]; omega
theorem presS_mem {l:Nat → Nat}{ps:List Nat}{p:Nat}(h:p ∈ ps)(h0:l p ≠ 0):l p ∈ presS l ps:=List.mem_map.2 ⟨p,List.mem_filter.2 ⟨h,by simp [h0]⟩,rfl⟩
section
variable {c:Cx}{W2:World}{O:Nat → Prop}{T:Tn}{n:Nat}{X:Nat → Ino}{L:Nat → Nat → Nat}{Q:Nat → Pl}{f off:Nat}{s:List UInt8}{xb eb S0:Nat}{pre:List (PartOf off s.length)}{W:World}{O':Nat → Prop}{T':Tn}{X':Nat → Ino}{L':Nat → Nat → Nat}{S':List Nat}
theorem part_k (hoff:off + s.length ≤ 8459264)(x:PartOf off s.length):off / 512 + x.1 < 16522:=by
  obtain ⟨f1,f2,f3,f4,f5,f6⟩:=part_facts x.2
  omega
theorem WrI.full (h:WrI c W2 O T n X L Q f off s xb S0 pre W O' T' X' L' S')(hf:f < 3)(h0:FsIn n (T.view c.D) X L Q)(hoff:off + s.length ≤ 8459264)(x:PartOf off s.length){V3:Nat → List UInt8}{X3:Nat → Ino}{L3:Nat → Nat → Nat}
    (hg:Grew n (T'.view c.D) X' L' V3 X3 L3 f (off / 512 + x.1))(htot:Fs.total L3 + dat n=n){p:Nat}(hp:p ∈ path (off / 512 + x.1))(hp0:L3 f p=0):n < takes3 (fun g => if g=f then (Q f).wr off s else Q g) + dat n :=
  h.wr.full h0 hf (part_k hoff x) hg htot hp hp0 (P:=(Q f).wr off s) (fun j hj => Pl.wrS_sub hj) (by
    show (Q f).wrB off s _ ≠ none
    unfold Pl.wrB
    rw [if_pos (part_hit.1 ⟨x.1,x.2,rfl⟩)]
    exact fun e => by cases e)
theorem WrI.next (h:WrI c W2 O T n X L Q f off s xb S0 pre W O' T' X' L' S')(hn:Disk n)(hf:f < 3)(hQ:(Q f).Ok)(hoff:off + s.length ≤ 8459264)(x:PartOf off s.length){V3:Nat → List UInt8}{X3:Nat → Ino}{L3:Nat → Nat → Nat}
    (hg:Grew n (T'.view c.D) X' L' V3 X3 L3 f (off / 512 + x.1))(ht:Tree0 n V3 X3 L3)(hall:∀ p,p ∈ path (off / 512 + x.1) → L3 f p ≠ 0) :
    Wring n (T.view c.D) X L f (upd V3 (L3 f (off / 512 + x.1)) (spliced (V3 (L3 f (off / 512 + x.1))) (pFrom off x.1) ((s.drop (pAt off x.1)).take (pTo off s.length x.1 - pFrom off x.1)))) X3 L3 ((Q f).wrS off s (idx (pre ++ [x]))):=by
  obtain ⟨f1,f2,f3,f4,f5,f6⟩:=part_facts x.2
  have hto:pTo off s.length x.1=min 512 (pFrom off x.1 + (s.length - pAt off x.1)):=rfl
  have hml:((s.drop (pAt off x.1)).take (pTo off s.length x.1 - pFrom off x.1)).length=pTo off s.length x.1 - pFrom off x.1:=by rw [List.length_take,List.length_drop]; omega
  have hlen:=ht.len _ (ht.inn f _ (hall _ (path_self _))).2.2.2
  obtain ⟨h1,h2⟩:=h.wr.step hn hf (part_k hoff x) hg ht hall (l:=spliced (V3 (L3 f (off / 512 + x.1))) (pFrom off x.1) ((s.drop (pAt off x.1)).take (pTo off s.length x.1 - pFrom off x.1))) (by rw [spliced_length _ _ _ (by rw [hml,hlen]; omega)]; exact hlen)
  rw [← Pl.wrS_step pre x hQ,← h2]
  exact h1
end
theorem extract_drop (s:List UInt8)(a:Nat):ByteArray.extract ⟨s.toArray⟩ a s.length=⟨(s.drop a).toArray⟩:=by
  apply ByteArray.ext
  rw [ByteArray.data_extract]
  simp
  exact List.take_of_length_le (by rw [List.length_drop]; omega)
end Go.Proofs.YthkijogloebdoaaGreatDoor
end
section
namespace Go.Proofs.YthkijogloebdoaaGreatDoor
open Go.RowKit Go.Maps Rec Gp Fs
set_option maxRecDepth 100000 in
theorem fgive_any (c:Cx)(w:World)(O:Nat → Prop)(T:Tn)(n:Nat)(he:Env c w O T n)(x:Ino)(F num:Nat)(hF:FileAt w F c.t n x)(hd:dat n ≤ num)(hi:num < n)(hon:Bt.bit (T.view c.D (98 + num / 4096)) (num % 4096)=true)
    (S:List Nat)(hS:T.Cov S)(hiS:98 + num / 4096 ∈ S)(h96:S.length ≤ 96)(hT:T.H.length ≤ 1000000) :
    Calls Tryz.prog 75 #[.pointer (some ⟨F,0,none⟩),.int .i64 (num:Int)] w (Wrote c w O T (98 + num / 4096) (Bt.putL (T.view c.D (98 + num / 4096)) ((num % 4096:Nat):Int) false)):=by
  have HL:=Lib.hid (look_any w F c.t n x num hF hd hi)
  have HG:=Lib.hid (fun w h => sgive_any c w O T h n num (98 + num / 4096) (num % 4096) he.hn he.hN hd hi rfl rfl hon S hS hiS h96 hT)
  have HE:=Lib.hid he
  have c0:w.cell? ⟨F,0,none⟩=some (.pointer (some ⟨c.t,0,none⟩)):=hF.cell 0
  have c1:w.cell? ⟨F,1,none⟩=some (.int .i64 (n:Int)):=hF.cell 1
  have c2:w.cell? ⟨F,2,none⟩=some (.int .i64 98):=hF.cell 2
  have c3:w.cell? ⟨F,3,none⟩=some (.int .i64 (ino n:Int)):=hF.cell 3
  have c4:w.cell? ⟨F,4,none⟩=some (.int .i64 (dat n:Int)):=hF.cell 4
  have c5:w.cell? ⟨F,5,none⟩=some (.int .i64 (cnt n:Int)):=hF.cell 5
  obtain ⟨t,ht⟩:∃ t,c.t=t:=⟨_,rfl⟩
  rw [ht] at HG c0
  clear hF he hd hi hon hS hiS h96 hT ht
  unfold Wrote
  go_enter Tryz.func75,Tryz.ntmps75
  go_wp2_with (
    go_at_call 101
    refine HL.out.mono ?_
    rintro e w1 ⟨rfl,rfl⟩)
  go_still_tail 9,(by kernel_rfl)
  go_wp2_with (
    go_at_call 109
    refine (HG.out _ (HE.out.tx.later (Below.refl _ _).drew)).mono ?_
    rintro e w1 ⟨rfl,O1,hT1,hF1⟩
    have HT1:=Lib.hid hT1
    have HF1:=Lib.hid hF1
    clear hT1 hF1)
  go_ret
  exact ⟨rfl,O1,HT1.out,(Fr.of_below (Below.refl _ _).drew).trans HF1.out⟩
set_option maxRecDepth 100000 in
theorem leaf_any (c:Cx)(w:World)(O:Nat → Prop)(T:Tn)(n:Nat)(he:Env c w O T n)(x:Ino)(F num:Nat)(i:Value)(hF:FileAt w F c.t n x)(hd:dat n ≤ num)(hi:num < n)(hon:Bt.bit (T.view c.D (98 + num / 4096)) (num % 4096)=true)
    (S:List Nat)(hS:T.Cov S)(hiS:98 + num / 4096 ∈ S)(h96:S.length ≤ 96)(hT:T.H.length ≤ 1000000) :
    Calls Tryz.prog 77 #[.pointer (some ⟨F,0,none⟩),i,.int .i64 (num:Int)] w fun e w' => e=.returned (.tuple #[.bool true,.int .i64 0]) ∧
      ∃ O',TxnAt c w' O' (T.put (98 + num / 4096) (Bt.putL (T.view c.D (98 + num / 4096)) ((num % 4096:Nat):Int) false)) ∧ Fr w O w' O':=by
  have HG:=Lib.hid (fgive_any c w O T n he x F num hF hd hi hon S hS hiS h96 hT)
  clear he hF hd hi hon hS hiS h96 hT
  go_enter Tryz.func77,Tryz.ntmps77
  go_wp2_with (
    go_at_call 75
    refine HG.out.mono ?_
    rintro e w1 ⟨rfl,O1,hT1,hF1⟩
    have HT1:=Lib.hid hT1
    have HF1:=Lib.hid hF1
    clear hT1 hF1)
  refine bodyPost_ret (v:=.tuple #[.bool true,.int .i64 0]) (by simp [results,Tryz.results77,go_sem]) rfl ?_
  exact ⟨rfl,O1,HT1.out,HF1.out⟩
theorem infoInt:(Tryz.prog.info? 3).map (fun i => (i.zero,i.size,i.bytes))=some (some (.int .i64 0),1,8):=by kernel_rfl
def zs128:Array Value:=madeCells #[(.int .i64 0:Value)] 128
theorem zs128_size:zs128.size=128:=by unfold zs128; rw [size_madeCells]
theorem zs128_at (j:Nat)(hj:j < 128):zs128[j]? = some (.int .i64 0):=by
  have e:zs128=Array.replicate 128 (.int .i64 0):=by kernel_rfl
  rw [e,Array.getElem?_replicate,if_pos hj]
theorem run_make128 (w:World):(Instr.makeSlice 39 (.int .i64 128) (.int .i64 128)).run Tryz.prog w=.ok (.slice (some ⟨w.heap.size,0,none⟩) 128 128) (w.alloc (.cells zs128 3)) :=
  run_make_row' (P:=Tryz.prog) 39 3 (.int .i64 0) 8 Tryz.underlying39 infoInt rfl .i64 .i64 128 (by decide) (by decide) w
def NumsAt (w:World)(lg:Nat)(l:List UInt8):Prop := ∃ cs,Is w lg 3 cs ∧ cs.size=128 ∧ ∀ j,j < 128 → cs[j]? = some (.int .i64 (nm l (4 * j) 4:Int))
set_option maxRecDepth 100000 in
set_option maxHeartbeats 800000 in
theorem fnumbers_any (c:Cx)(w:World)(O:Nat → Prop)(T:Tn)(n:Nat)(he:Env c w O T n)(x:Ino)(F a:Nat)(hF:FileAt w F c.t n x)(hd:dat n ≤ a)(hi:a < n) :
    Calls Tryz.prog 110 #[.pointer (some ⟨F,0,none⟩),.int .i64 (a:Int)] w fun e w' =>
      (∃ g cp lg,e=.returned (.tuple #[.slice (some ⟨g,0,none⟩) 512 cp,.slice (some ⟨lg,0,none⟩) 128 128,.int .i64 0]) ∧ Rw w' g (T.view c.D a) ∧ NumsAt w' lg (T.view c.D a) ∧ w.heap.size ≤ g ∧ w.heap.size ≤ lg ∧ g ≠ lg) ∧ Below w.heap.size w w':=by
  have HL:=Lib.hid (look_any w F c.t n x a hF hd hi)
  have hlen:=he.len hi
  have HR:=Lib.hid (tread_any c w O T he.tx a (by rw [he.hN]; exact hi))
  have c0:w.cell? ⟨F,0,none⟩=some (.pointer (some ⟨c.t,0,none⟩)):=hF.cell 0
  have HW:=Lib.hid he.wd
  have hwl:=he.wd.lt
  obtain ⟨l,hl⟩:∃ l,T.view c.D a=l:=⟨_,rfl⟩
  rw [hl] at HR hlen
  rw [hl]
  have HLen:=Lib.hid hlen
  obtain ⟨t,ht⟩:∃ t,c.t=t:=⟨_,rfl⟩
  rw [ht] at HR c0
  have hmk:=run_make128
  clear hF he hd hi hlen hl ht
  go_enter Tryz.func110,Tryz.ntmps110
  go_wp2_with (first
    | (go_at_call 101
       refine HL.out.mono ?_
       rintro e w1 ⟨rfl,rfl⟩)
    | (go_at_call 37
       refine HR.out.mono ?_
       rintro e w1 ⟨⟨g,cp,rfl,hg,hgs,hcp⟩,hb1⟩
       have HG1:=Lib.hid hg
       have HB1:=Lib.hid hb1
       have hgl:=hg.lt
       clear hg hb1))
  obtain ⟨hb2,i2⟩:=one_new w1 zs128 3
  have HB2:=Lib.hid (HB1.out.trans (hb2.mono HB1.out.size))
  have HG2:=Lib.hid (HG1.out.later hb2)
  have hs1:=HB1.out.size
  go_loopw [35] (fun v wr => ∃ i:Nat,i ≤ 128 ∧ v=.int .i64 (i:Int) ∧ ∃ cs,Is wr w1.heap.size 3 cs ∧ cs.size=128 ∧ (∀ j,j < 128 → cs[j]? = some (.int .i64 (if j < i then (nm l (4 * j) 4:Int) else 0))) ∧ Keeps (·=w1.heap.size) (w1.alloc (.cells zs128 3)) wr) (fun v _ => 128 - (intOf v).toNat)
  case atStart => exact ⟨0,by omega,rfl,zs128,i2,zs128_size,fun j hj => by rw [zs128_at j hj,if_neg (by omega)],Keeps.refl _ _⟩
  case round =>
    obtain ⟨i,hi,rfl,cs,hI,hsz,hcs,hK⟩:=hrel
    have HI:=Lib.hid hI
    have HCS:=Lib.hid hcs
    have HSZ:=Lib.hid hsz
    have HK:=Lib.hid hK
    have HGr:=Lib.hid (HG2.out.keeps hK (by omega))
    have HWr:=Lib.hid ((HW.out.below HB2.out hwl).same (hK.block _ (by rw [World.size_alloc]; omega) (by omega)))
    clear hI hcs hsz hK
    by_cases hlt:i < 128
    · obtain ⟨v,hv⟩:∃ v,nm l (4 * i) 4=v:=⟨_,rfl⟩
      obtain ⟨g1,g2⟩:=getV_nm l (4 * i) 4 rfl (by rw [HLen.out]; omega)
      have hvb:v < 4294967296:=by rw [← hv]; exact nm_lt _ _ _
      have HG:=Lib.hid (get_to (some ⟨g,0,none⟩) cp l 512 HLen.out ((4 * i:Nat):Int) ((4:Nat):Int) v 0 (g1.trans hv) g2 wr HWr.out HGr.out.bytes (by decide) (by omega) (by omega))
      have uk:=i64_in v (by omega)
      have h4:(4:Int) * (i:Int)=((4 * i:Nat):Int):=by omega
      obtain ⟨s4,hs4⟩:∃ s4,4 * i=s4:=⟨_,rfl⟩
      rw [hs4] at HG h4
      have hs4b:s4 ≤ 1000:=by omega
      have hc:wr.cell? ⟨w1.heap.size,i,none⟩=some (.int .i64 0):=by rw [HI.out.cell i,HCS.out i hlt,if_neg (by omega)]
      have hf:=HI.out.free i
      have HV:=Lib.hid hv
      clear g1 g2 hvb hv
      go_wp2_with (go_at_call 92; refine HG.out.mono ?_; rintro e w2 ⟨rfl,rfl⟩)
      go_roundw
      case rel =>
        refine ⟨i + 1,by omega,by go_num,_,HI.out.put i (.int .i64 (v:Int)),by rw [Array.size_setIfInBounds]; exact HSZ.out,fun j hj => ?_,HK.out.trans (keeps_set _ _ _ _)⟩
        by_cases e:i=j
        · subst e
          rw [Array.getElem?_setIfInBounds_self,if_pos (by rw [HSZ.out]; exact hlt),if_pos (by omega),HV.out]
        · rw [Array.getElem?_setIfInBounds_ne e,HCS.out j hj]
          by_cases e2:j < i
          · rw [if_pos e2,if_pos (by omega)]
          · rw [if_neg e2,if_neg (by omega)]
      case measure => simp [intOf]; omega
    · obtain rfl:i=128:=by omega
      go_wp2_with fail
      refine bodyPost_ret (v:=.tuple #[.slice (some ⟨g,0,none⟩) 512 cp,.slice (some ⟨w1.heap.size,0,none⟩) 128 128,.int .i64 0]) (by simp [results,Tryz.results110,go_sem]) rfl ?_
      refine ⟨⟨g,cp,w1.heap.size,rfl,HGr.out,⟨cs,HI.out,HSZ.out,fun j hj => by rw [HCS.out j hj,if_pos hj]⟩,hgs,hs1,by omega⟩,HB2.out.trans (HK.out.below (by rw [World.size_alloc]; omega) (fun i e => by rw [show i=w1.heap.size from e]; exact hs1))⟩
end Go.Proofs.YthkijogloebdoaaGreatDoor
end
