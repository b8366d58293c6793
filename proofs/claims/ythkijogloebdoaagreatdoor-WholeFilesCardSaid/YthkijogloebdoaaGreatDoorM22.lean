/-
  WholeFiles, the texts Fgj Fgh: lemmas for the proof that three files on one disk are plain rows of bytes. No conditions.
-/
import Derived.Test.YthkijogloebdoaaGreatDoorM21
import Derived.Test.YthkijogloebdoaaGreatDoorM20
set_option linter.unusedVariables false
set_option linter.unusedSimpArgs false
section
namespace Go.Proofs.YthkijogloebdoaaGreatDoor
open Go.RowKit Go.Maps Go.Shelf Rec Gp Fs
attribute [local go_sem] Oper.semAt_some
set_option maxRecDepth 100000 in
set_option maxHeartbeats 6400000 in
theorem fwrite_any (c:Cx)(w:World)(O:Nat → Prop)(T:Tn)(n:Nat)(he:Env c w O T n)(X:Nat → Ino)(L:Nat → Nat → Nat)(Q:Nat → Pl)(h:FsIn n (T.view c.D) X L Q)(f:Nat)(hf:f < 3)(S:List Nat)(hS:T.Cov S)(h40:S.length ≤ 50)(hT:T.H.length + 30000 ≤ 1000000)
    (hcb:c.b < w.heap.size)(off m:Nat)(s:List UInt8)(hm:s.length=m)(h5:m ≤ 5000)(hoff:off ≤ 9223372036854775807)(bs:ByteArray)(hbs:bs=⟨s.toArray⟩) :
    Calls Tryz.prog 16 #[.pointer (some ⟨c.t,0,none⟩),geoV n,.int .i64 ((f + 2:Nat):Int),.int .i64 (off:Int),.string bs] w fun e w' =>
      if 8459264 < off + m then FDone c w O T n Q S 40 f (Q f) 120 e w' else FWrote c w O T n Q S f ((Q f).wr off s) e w':=by
  obtain ⟨hb0,i0,i1⟩:=two_new w #[.pointer (some ⟨c.t,0,none⟩)] #[.int .i64 (n:Int),.int .i64 98,.int .i64 (ino n:Int),.int .i64 (dat n:Int),.int .i64 (cnt n:Int)] 36 31
  obtain ⟨W1,hW1⟩:∃ W1,(w.alloc (.cells #[.pointer (some ⟨c.t,0,none⟩)] 36)).alloc (.cells #[.int .i64 (n:Int),.int .i64 98,.int .i64 (ino n:Int),.int .i64 (dat n:Int),.int .i64 (cnt n:Int)] 31)=W1:=⟨_,rfl⟩
  have hz1:W1.heap.size=w.heap.size + 2:=by rw [← hW1]; simp [World.size_alloc]
  rw [hW1] at hb0 i0 i1
  obtain ⟨hb1,i2,i3⟩:=two_new W1 #[.string bs] #[.int .i64 0] 9 25
  obtain ⟨W,hW⟩:∃ W,(W1.alloc (.cells #[.string bs] 9)).alloc (.cells #[.int .i64 0] 25)=W:=⟨_,rfl⟩
  have hz2:W.heap.size=w.heap.size + 4:=by rw [← hW]; simp [World.size_alloc,hz1]
  rw [hW] at hb1 i2 i3
  rw [hz1] at i2 i3
  have hWW:((((w.alloc (.cells #[.pointer (some ⟨c.t,0,none⟩)] 36)).alloc (.cells #[.int .i64 (n:Int),.int .i64 98,.int .i64 (ino n:Int),.int .i64 (dat n:Int),.int .i64 (cnt n:Int)] 31)).alloc (.cells #[.string bs] 9)).alloc (.cells #[.int .i64 0] 25))=W:=by rw [hW1]; exact hW
  have hbb:=hb0.trans (hb1.mono hb0.size)
  have i0:=i0.below hb1 i0.lt
  have i1:=i1.below hb1 i1.lt
  obtain ⟨p1,p2,p3,p4⟩:=rec_place he.hn (i:=f + 2) (by have:=(geo_facts he.hn).1; unfold cnt; omega)
  have hcnt:f + 2 < cnt n:=by have:=(geo_facts he.hn).1; unfold cnt; omega
  have HE0:=Lib.hid (he.later hbb)
  have hkk:=h.kind f hf
  have HG:=Lib.hid (fget_any c W O T n HE0.out (f + 2) (X f) (by omega) hcnt (h.ino f hf) (by omega))
  obtain ⟨x,hx⟩:∃ x,X f=x:=⟨_,rfl⟩
  rw [hx] at HG hkk
  unfold Ino.C at HG
  have i3:Is W (w.heap.size + 1 + 1 + 1) 25 #[.int .i64 0]:=i3
  have i2:Is W (w.heap.size + 1 + 1) 9 #[.string bs]:=i2
  have ct:W.cell? ⟨w.heap.size,0,none⟩=some (.pointer (some ⟨c.t,0,none⟩)):=i0.cell 0
  obtain ⟨d10,d11,d12,d13,d14⟩:=geo5 i1
  have cs:W.cell? ⟨w.heap.size + 1 + 1,0,none⟩=some (.string bs):=i2.cell 0
  have ce:W.cell? ⟨w.heap.size + 1 + 1 + 1,0,none⟩=some (.int .i64 0):=i3.cell 0
  have fe:W.frozen? ⟨w.heap.size + 1 + 1 + 1,0,none⟩=false:=i3.free 0
  have hnneg:¬ (off:Int) < 0:=by omega
  have HI0:=Lib.hid i0
  have HI1:=Lib.hid i1
  have HI2:=Lib.hid i2
  have HI3:=Lib.hid i3
  have HB0:=Lib.hid hbb
  have HEN:=Lib.hid he
  have HFS:=Lib.hid h
  have HSS:=Lib.hid hS
  have HCN:=Lib.hid hcnt
  have HPL:=Lib.hid (And.intro p1 (And.intro p2 (And.intro p3 p4)))
  have HKK:=Lib.hid hkk
  have HLOW:=Lib.hid he.wd.lt
  have HCB:=Lib.hid hcb
  have hszb:bs.size=m:=by rw [hbs,← hm]; show s.toArray.size=s.length; simp
  have HBS:=Lib.hid (And.intro hbs hm)
  obtain ⟨t,ht⟩:∃ t,c.t=t:=⟨_,rfl⟩
  rw [ht] at HG HI0 ct hWW ⊢
  have HT:=Lib.hid ht
  obtain ⟨i,hi⟩:∃ i,f + 2=i:=⟨_,rfl⟩
  rw [hi] at HG HCN HPL ⊢
  have HII:=Lib.hid hi
  clear he h hS p1 p2 p3 p4 hcnt hkk hbb i0 i1 i2 i3 ht hi hcb hbs hm hb0 hb1 hW1 hW hz1
  refine (callsIn_wide (n:=8)).1 ?_
  refine callsIn_of_wp_marks Tryz.func16 rfl trivial ?_ rfl
  simp only [Tryz.ntmps16,List.size_toArray,List.length_cons,List.length_nil,Nat.reduceAdd,Nat.reduceSub,Array.replicate_succ,Array.replicate_zero,List.push_toArray,List.append_toArray,List.nil_append,List.cons_append]
  refine wpIn_wide.2 ?_
  go_upto_region 6 with (first
    | (go_at_call 33
       refine HG.out.mono ?_
       rintro e w1 ⟨rfl,hb1⟩
       have HB1:=Lib.hid hb1
       have hs1:=hb1.size
       have hea:=HI3.out.lt
       have HY1:=Lib.hid (Is.new w1 44 zeroC)
       have HE1:=Lib.hid ((HI3.out.below hb1 HI3.out.lt).below (below_new w1 (.cells zeroC 44)) (by omega))
       clear hb1)
    | (refine wpList_store_row_k rfl 44 (.tmp 11) (.tmp 25) rfl w1.heap.size x.C rfl rfl 44 zeroC HY1.out size15 rfl (inoC_one _) ?_
       intro w2 hy2 hk2
       have HY2:=Lib.hid hy2
       have HE2:=Lib.hid (HE1.out.keeps hk2 (by omega))
       have HB2:=Lib.hid (show Below W.heap.size W w2 from HB1.out.trans (((below_new w1 _).mono (by omega)).trans (hk2.below (by rw [World.size_alloc]; omega) (fun j e => by rw [show j=w1.heap.size from e]; omega))))
       have ce2:w2.cell? ⟨w.heap.size + 1 + 1 + 1,0,none⟩=some (.int .i64 0):=HE2.out.cell 0
       have fe2:w2.frozen? ⟨w.heap.size + 1 + 1 + 1,0,none⟩=false:=HE2.out.free 0
       clear hy2 hk2))
  generalize he3:w.heap.size + 1 + 1 + 1=eb
  generalize he2:w.heap.size + 1 + 1=sb
  generalize he1:w.heap.size + 1=gb
  have HI3:=Lib.hid (show Is W eb 25 #[.int .i64 0] from he3 ▸ HI3.out)
  have HI2:=Lib.hid (show Is W sb 9 #[.string bs] from he2 ▸ HI2.out)
  have HI1:=Lib.hid (show Is W gb 31 (geoL n) from he1 ▸ HI1.out)
  have HE2:=Lib.hid (show Is w2 eb 25 #[.int .i64 0] from he3 ▸ HE2.out)
  have hord:w.heap.size < gb ∧ gb < sb ∧ sb < eb ∧ eb < w1.heap.size:=by omega
  have hE3:Is (w2.setCell ⟨eb,0,none⟩ (.int .i64 0)) eb 25 #[.int .i64 0]:=HE2.out.put 0 (.int .i64 0)
  have hY3:=HY2.out.other ⟨eb,0,none⟩ (by show w1.heap.size ≠ eb; omega) (.int .i64 0)
  have hI3:∀ {k:Nat} {ty:TypeId} {cs:Array Value},Is W k ty cs → k ≠ eb → Is (w2.setCell ⟨eb,0,none⟩ (.int .i64 0)) k ty cs:=fun h1 h2 => (h1.below HB2.out h1.lt).other ⟨eb,0,none⟩ h2 _
  have hT3:=hI3 HI0.out (by omega)
  have hG3:=hI3 HI1.out (by omega)
  have hS3:=hI3 HI2.out (by omega)
  have hB3:Below w.heap.size w (w2.setCell ⟨eb,0,none⟩ (.int .i64 0)):=(HB0.out.trans (HB2.out.mono HB0.out.size)).setCell (p:=⟨eb,0,none⟩) (by show w.heap.size ≤ eb; omega) (.int .i64 0)
  obtain ⟨W3,hW3⟩:∃ W3,w2.setCell ⟨eb,0,none⟩ (.int .i64 0)=W3:=⟨_,rfl⟩
  rw [hW3] at hE3 hY3 hT3 hG3 hS3 hB3 ⊢
  have ct3:W3.cell? ⟨w.heap.size,0,none⟩=some (.pointer (some ⟨t,0,none⟩)):=hT3.cell 0
  have cs3:W3.cell? ⟨sb,0,none⟩=some (.string bs):=hS3.cell 0
  have ce3:W3.cell? ⟨eb,0,none⟩=some (.int .i64 0):=hE3.cell 0
  have fe3:=hE3.free 0
  have x23:=x15 hY3
  have HE3:=Lib.hid hE3
  have HY3:=Lib.hid hY3
  have HT3:=Lib.hid hT3
  have HG3:=Lib.hid hG3
  have HS3:=Lib.hid hS3
  have HB3:=Lib.hid hB3
  have HORD:=Lib.hid (And.intro he1 (And.intro he2 he3))
  clear hE3 hY3 hT3 hG3 hS3 hB3 hI3 hW3 HY2 HE2 HB2 HY1 HE1 he1 he2 he3 hWW ct d10 d11 d12 d13 d14 cs ce fe ce2 fe2
  have u1:=IntWalk.i64_in (n:=8459264 - (off:Int)) (by omega)
  have fin:∀ (z:Int),(W3.setCell ⟨eb,0,none⟩ (.int .i64 z)).cell? ⟨eb,0,none⟩=some (.int .i64 z) ∧ Below w.heap.size w (W3.setCell ⟨eb,0,none⟩ (.int .i64 z)):=fun z => ⟨(HE3.out.put 0 (.int .i64 z)).cell 0,HB3.out.setCell (p:=⟨eb,0,none⟩) (by show w.heap.size ≤ eb; omega) _⟩
  have FIN:=Lib.hid fin
  clear fin
  by_cases hbig:8459264 < off + m
  · have hbg:(8459264:Int) - (off:Int) < (m:Int):=by omega
    have HBG:=Lib.hid hbig
    clear hbig
    go_wp2_with fail
    obtain ⟨hc,hb⟩:=FIN.out 120
    generalize W3.setCell ⟨eb,0,none⟩ (.int .i64 120)=W9 at hc hb ⊢
    exact Exists.intro (.int .i64 120) ⟨by simp [results,Tryz.f16,go_sem,hc],FDone.none HEN.out HFS.out HSS.out hb rfl⟩
  have hbg:¬ (8459264:Int) - (off:Int) < (m:Int):=by omega
  have HBG:=Lib.hid hbig
  clear hbig
  by_cases hm0:m=0
  · have hse:s=[]:=List.eq_nil_of_length_eq_zero (HBS.out.2.trans hm0)
    have hbe:bs.toList.isEmpty=true:=by rw [HBS.out.1,ByteArray.toList_mk,hse]; rfl
    have HSE:=Lib.hid hse
    clear hm0 hse
    go_wp2_with fail
    obtain ⟨hc,hb⟩:=FIN.out 0
    generalize W3.setCell ⟨eb,0,none⟩ (.int .i64 0)=W9 at hc hb ⊢
    refine Exists.intro (.int .i64 0) ⟨by simp [results,Tryz.f16,go_sem,hc],.inl (FDone.none HEN.out HFS.out HSS.out hb ?_)⟩
    rw [HSE.out]
    unfold Pl.wr
    rw [Pl.wrB_nil]; rfl
  have hbe:bs.toList.isEmpty=false:=by
    rw [HBS.out.1,ByteArray.toList_mk]
    have h2:=HBS.out.2
    cases hs:s with
    | nil => rw [hs] at h2; exact absurd h2.symm hm0
    | cons a l => rfl
  have HM1:=Lib.hid (show 1 ≤ m by omega)
  clear hm0
  have HUN:=Lib.hid (undo_any c W3 O T (HEN.out.later HB3.out).tx eb)
  rw [HT.out] at HUN
  have HPA:=Lib.hid (parts_any off m)
  go_wp2_with (first
    | (go_at_call 34
       refine HUN.out.mono ?_
       rintro e w4 ⟨⟨pb,tb,mb,rfl,hub,g1,g2,g3⟩,hb4⟩
       have HU4:=Lib.hid hub
       have HY4:=Lib.hid (HY3.out.below hb4 HY3.out.lt)
       have HE4:=Lib.hid (HE3.out.below hb4 HE3.out.lt)
       have HG4:=Lib.hid (HG3.out.below hb4 HG3.out.lt)
       have HS4:=Lib.hid (HS3.out.below hb4 HS3.out.lt)
       have HT4:=Lib.hid (HT3.out.below hb4 HT3.out.lt)
       have HB4:=Lib.hid (HB3.out.trans (hb4.mono HB3.out.size))
       have hs4:=hb4.size
       have cs4:w4.cell? ⟨sb,0,none⟩=some (.string bs):=HS4.out.cell 0
       clear hub hb4)
    | (go_at_call 35
       refine (HPA.out _).mono ?_
       rintro e w5 ⟨rfl,ho5,hn5,hb5⟩
       have HO5:=Lib.hid ho5
       have HN5:=Lib.hid hn5
       have HB5:=Lib.hid hb5
       clear ho5 hn5 hb5))
  have hm:=HBS.out.2
  subst hm
  obtain ⟨xb,hxb⟩:∃ xb,w1.heap.size=xb:=⟨_,rfl⟩
  rw [hxb] at HY4 hord ⊢
  have hs5:=HB5.out.size
  have hxl:=HY4.out.lt
  have hel:=HE4.out.lt
  have hol:=HO5.out.lt
  have hnl:=HN5.out.lt
  have hno:∀ g,w.heap.size ≤ g → ¬ O g:=fun g hg => HEN.out.tx.out hg
  have HNO:=Lib.hid hno
  clear hno
  have hE5:=HEN.out.later (HB4.out.trans (HB5.out.mono HB4.out.size))
  have HE5E:=Lib.hid hE5
  have HY5:=Lib.hid (HY4.out.below HB5.out HY4.out.lt)
  have HEB5:=Lib.hid (HE4.out.below HB5.out HE4.out.lt)
  have HG5:=Lib.hid (HG4.out.below HB5.out HG4.out.lt)
  have HS5:=Lib.hid (HS4.out.below HB5.out HS4.out.lt)
  have HT5:=Lib.hid (HT4.out.below HB5.out HT4.out.lt)
  have h50:WrI c w5 O T n X L Q f off s xb (S.length + 5) [] w5 (offC w5 c.b O) T X L ((ino n + i / 8) :: (bmL n ++ S)) :=
    ⟨hE5.tx.strip2,ownsC_off _ _ _,⟨Keeps.refl _ _,fun k hk => .inl hk.1.1⟩,by rw [show idx ([]:List (PartOf off s.length))=[] from rfl,Pl.wrS_nil]; exact HFS.out.wring hf,Tn.Ext.refl T,Nat.le_add_right _ _,HSS.out.mono (fun k hk => by simp [hk]),fun k h1 h2 => by simp [bmL_mem h1 h2],by rw [HII.out]; simp,by have:=bmL_len HEN.out.hn; simp; omega,by rw [hx]; exact HY5.out⟩
  have HI50:=Lib.hid h50
  have hbw:c.b < w5.heap.size:=by have:=HCB.out; have:=HB4.out.size; omega
  clear h50 hE5 cs4
  refine (wpIn_wide (n:=8)).1 ?_
  refine wpIn_rangeFunc_box (n:=8) (w0:=w5) (by decide) (gf:=63) (lb := #[.pointer (some ⟨w4.heap.size + 1,0,none⟩),.pointer (some ⟨w4.heap.size,0,none⟩)]) rfl (enters_of Tryz.func63 (by kernel_rfl) rfl)
    (parts_stopsK 7 (by decide) w4.heap.size (w4.heap.size + 1) off s.length (by have:=HBG.out; omega) (by omega) w5 HO5.out HN5.out) kpP_t (kpP_b hol hnl) (Below.refl _ _)
    (fun pre W => ∃ (O':Nat → Prop)(T':Tn)(X':Nat → Ino)(L':Nat → Nat → Nat)(S':List Nat),WrI c w5 O T n X L Q f off s xb (S.length + 5) pre W O' T' X' L' S')
    (fun cde pre W => cde=.ret ∧ ∃ (O':Nat → Prop)(T':Tn),WrX c w5 O T n Q f off s xb eb W O' T')
    (fun pre W W' row hs hg hr => by obtain ⟨O',T',X',L',S',h1⟩:=hs; exact ⟨O',T',X',L',S',h1.grown hbw (Nat.le_refl _) hg hr⟩)
    (fun cde pre W W' row hs hg hr => by obtain ⟨h0,O',T',h1⟩:=hs; exact ⟨h0,O',T',h1.grown hbw (Nat.le_refl _) hg hr⟩)
    ⟨_,_,_,_,_,HI50.out⟩ 97 #[.int .i64 0,.int .i64 0,.int .i64 0,.int .i64 0] (fun pre W hi => by obtain ⟨O',T',X',L',S',h1⟩:=hi; exact h1.fx.size)
    (fun pre W W' hi hb => by obtain ⟨O',T',X',L',S',h1⟩:=hi; exact kpP_below hb (by have:=h1.fx.size; omega) (by have:=h1.fx.size; omega))
    rfl rfl rfl rfl rfl rfl (fun ρ W => by simp [execOp,go_sem]) (fun x => by kernel_rfl) (fun x => rfl) (fun x => by simp [partV,Value.oneCell']) (by simp) (by simp) (by decide)
    ?body ?done ?stop
  case body =>
    intro l pre pt pb W hI hpb hpl hlt
    obtain ⟨O1,T1,X1,L1,S1,hW⟩:=hI
    have hof:off + s.length ≤ 8459264:=by have:=HBG.out; omega
    have hkb:=part_k hof pt
    obtain ⟨f1,f2,f3,f4,f5,f6⟩:=part_facts pt.2
    have HWI:=Lib.hid hW
    have hsW:=hW.fx.size
    have hplt:=hpb.lt
    have isW:∀ {k:Nat} {ty:TypeId} {cs:Array Value},Is w5 k ty cs → w.heap.size ≤ k → k ≠ xb → Is W k ty cs:=fun h1 h2 h3 => h1.frX hW.fx (HNO.out _ h2) h3
    have htb:=isW HT5.out (Nat.le_refl _) (by omega)
    have hgb:=isW HG5.out (by omega) (by omega)
    have hsb:=isW HS5.out (by omega) (by omega)
    have heb:=isW HEB5.out (by omega) (by omega)
    have ctW:W.cell? ⟨w.heap.size,0,none⟩=some (.pointer (some ⟨t,0,none⟩)):=htb.cell 0
    obtain ⟨d10,d11,d12,d13,d14⟩:=geo5 hgb
    have hEW:=HE5E.out.frX hW.tx hW.fx (fun e => by have:=HLOW.out; omega)
    have habs:=presS_len (L1 f) (path (off / 512 + pt.1))
    have hpl3:=(path_len (off / 512 + pt.1)).2
    have hlt11:pre.length < 11:=by have:=pMany_le (off:=off) h5; omega
    have hsl:=hW.sl
    have HAD:=Lib.hid (add_any c W O1 T1 n hEW X1 L1 hW.wr.tree f (off / 512 + pt.1) hf hkb (presS (L1 f) (path (off / 512 + pt.1)) ++ S1) (hW.cov.mono (fun k hk => by simp [hk])) (fun k h1 h2 => by simp [hW.bm k h1 h2]) (fun p hp h0 => by simp [presS_mem hp h0]) (by rw [List.length_append]; omega) (by have:=hW.len; omega))
    rw [HT.out] at HAD
    have HKB:=Lib.hid hkb
    obtain ⟨k,hk⟩:∃ k,off / 512 + pt.1=k:=⟨_,rfl⟩
    obtain ⟨fr,hfr⟩:∃ fr,pFrom off pt.1=fr:=⟨_,rfl⟩
    obtain ⟨tt,hto⟩:∃ tt,pTo off s.length pt.1=tt:=⟨_,rfl⟩
    obtain ⟨at_,hat⟩:∃ at_,pAt off pt.1=at_:=⟨_,rfl⟩
    have c0:W.cell? ⟨pb,0,none⟩=some (.int .i64 (k:Int)):=by rw [← hk]; exact hpb.cell 0
    have HPB:=Lib.hid hpb
    have HTB:=Lib.hid htb
    have HGB:=Lib.hid hgb
    have HSB:=Lib.hid hsb
    have HEB:=Lib.hid heb
    have HEW:=Lib.hid hEW
    have HFF:=Lib.hid (And.intro f1 (And.intro f2 (And.intro f3 (And.intro f4 (And.intro f5 f6)))))
    have HKF:=Lib.hid (And.intro hk (And.intro hfr (And.intro hto hat)))
    rw [hk] at HAD habs hpl3
    unfold partV
    rw [hk,hfr,hto,hat]
    unfold boxA
    simp only [List.setIfInBounds_toArray,List.set_cons_succ,List.set_cons_zero]
    clear hW isW htb hgb hsb heb hEW hkb f1 f2 f3 f4 f5 f6 hpb hk hfr hto hat hof
    gi_wp2_with (first
      | (refine round_load_row rfl 44 (.tmp 11) rfl xb rfl 44 (X1 f).C (0,0) _ HWI.out.x Tryz.underlying44 rfl size15 ?_))
    refine ⟨trivial,?_⟩
    refine (CallsIn.inRound l (callsIn_wide.2 HAD.out)).mono ?_
    unfold Added
    have HOUT:=Lib.hid (show ∀ g,w.heap.size ≤ g → g < w5.heap.size → ¬ O1 g from fun g h1 h2 => HWI.out.fx.out h2 (HNO.out g h1))
    rintro e w6 (⟨rfl,⟨O2,hT2,hF2⟩,V3,X3,L3,hg,htot,p,hp,hp0⟩ | ⟨O2,T2,X2,L2,S2,rfl,hT2,hF2,hex,hlen,htr,hgr,hall,hcov,hsub,hmem,hsl2⟩)
    · have heb6:=HEB.out.fr hF2 (HOUT.out eb (by omega) (by omega))
      have HEB6:=Lib.hid (heb6.below (below_new w6 (.cells zeroC 44)) heb6.lt)
      have HY6:=Lib.hid (Is.new w6 44 zeroC)
      have HT2:=Lib.hid hT2
      have HF2:=Lib.hid hF2
      have hk:=HKF.out.1
      subst hk
      have HFU:=Lib.hid (HWI.out.full hf HFS.out (by have:=HBG.out; omega) pt hg htot hp hp0)
      have hel6:=heb6.lt
      clear heb6 hT2 hF2 hg htot hp hp0
      gi_wp2_with (first
        | (refine round_store_row_k rfl 44 (.tmp 13) (.tmp 51) rfl w6.heap.size zeroC rfl rfl 44 zeroC HY6.out size15 rfl zeroC_one ?_
           intro w7 hy7 hk7
           have HK7:=Lib.hid hk7
           have HEB7:=Lib.hid (HEB6.out.keeps hk7 (by omega))
           have ce7:w7.cell? ⟨eb,0,none⟩=some (.int .i64 0):=HEB7.out.cell 0
           have fe7:=HEB7.out.free 0
           clear hy7 hk7))
      have hb67:Below w6.heap.size w6 w7:=(below_new w6 _).trans (HK7.out.below (by rw [World.size_alloc]; omega) (fun j e => by rw [show j=w6.heap.size from e]; exact Nat.le_refl _))
      have ne2:¬ O2 eb:=HF2.out.out HEB.out.lt (HOUT.out eb (by omega) (by omega))
      have hT9:=(HT2.out.later hb67).set ne2 0 (.int .i64 90)
      have hf9:=(((HWI.out.fx.mono (G2:=fun k => k=xb ∨ k=eb) (fun k e => .inl e)).trans (FrX.of_fr HF2.out)).trans (FrX.of_below hb67)).trans (FrX.of_keeps ((keeps_set w7 eb 0 (.int .i64 90)).mono (fun k e => .inr e)))
      refine ⟨((HWI.out.own.from HF2.out hbw).trans (keepsFrom_below hb67)).trans ((KeepsOthers.setCell _ _ _).from _),rfl,_,T1,⟨hT9.strip2,ownsC_off _ _ _,⟨hf9.1,fun k hk => hf9.2 k hk.1.1⟩,HWI.out.ext,by have:=HWI.out.len; omega,HEB7.out.put 0 _,HFU.out⟩⟩
    · obtain ⟨q,hq⟩:∃ q,L2 f k=q:=⟨_,rfl⟩
      obtain ⟨_,_,hq1,hq2⟩:=htr.inn f k (hall k (path_self k))
      rw [hq] at hq1 hq2 hmem ⊢
      have hd98:=dat_pos n
      have hqN:q < c.N:=by rw [HEN.out.hN]; exact hq2
      have nb2:∀ g,w.heap.size ≤ g → g < w5.heap.size → ¬ O2 g:=fun g h1 h2 => hF2.out (by omega) (HOUT.out g h1 h2)
      have HT2:=Lib.hid hT2
      have HF2:=Lib.hid hF2
      have HNB2:=Lib.hid nb2
      have HTR:=Lib.hid htr
      have HGR:=Lib.hid hgr
      have HALL:=Lib.hid hall
      have HCOV:=Lib.hid (And.intro hcov (And.intro hsub (And.intro hmem hsl2)))
      have HLEN:=Lib.hid (And.intro hex hlen)
      have HQ:=Lib.hid hq
      have HQ1:=Lib.hid (And.intro hq1 (And.intro hq2 hqN))
      have HRD:=Lib.hid (fun w' (hb:Below w6.heap.size w6 w') => tread_any c w' O2 T2 (HT2.out.later hb) q hqN)
      rw [HT.out] at HRD
      have HY6:=Lib.hid (Is.new w6 44 zeroC)
      have HTB6:=Lib.hid (HTB.out.fr HF2.out (HOUT.out _ (Nat.le_refl _) (by omega)))
      have HSB6:=Lib.hid (HSB.out.fr HF2.out (HOUT.out _ (by omega) (by omega)))
      have HX6:=Lib.hid (HWI.out.x.fr HF2.out (HOUT.out _ (by omega) (by omega)))
      have HPB6:=Lib.hid (HWI.out.own.part HF2.out HPB.out)
      unfold partV at HPB6
      rw [HKF.out.1,HKF.out.2.1,HKF.out.2.2.1,HKF.out.2.2.2] at HPB6
      have hs6:=HF2.out.size
      clear hT2 hF2 hex hlen htr hgr hall hcov hsub hmem hsl2 hq hq1 hq2 hqN nb2
      gi_wp2_with (first
        | (refine round_store_row_k rfl 44 (.tmp 13) (.tmp 51) rfl w6.heap.size (X2 f).C rfl rfl 44 zeroC HY6.out size15 rfl (inoC_one _) ?_
           intro w7 hy7 hk7
           have HY7:=Lib.hid hy7
           have HB67:=Lib.hid (show Below w6.heap.size w6 w7 from (below_new w6 _).trans (hk7.below (by rw [World.size_alloc]; omega) (fun j e => by rw [show j=w6.heap.size from e]; exact Nat.le_refl _)))
           have ct7:w7.cell? ⟨w.heap.size,0,none⟩=some (.pointer (some ⟨t,0,none⟩)):=(HTB6.out.below HB67.out HTB6.out.lt).cell 0
           clear hy7 hk7)
        | (refine ⟨trivial,?_⟩
           gi_at_call 37
           refine (CallsIn.inRound l (callsIn_wide.2 (HRD.out w7 HB67.out))).mono ?_
           rintro e w8 ⟨⟨g,cp,rfl,hg,hgs,hcp⟩,hb8⟩
           have HG8:=Lib.hid hg
           have HGS:=Lib.hid hgs
           have HB8:=Lib.hid hb8
           have hb68:=HB67.out.trans (hb8.mono HB67.out.size)
           have HB68:=Lib.hid hb68
           have hp8:=HPB6.out.below hb68 HPB6.out.lt
           have q1:w8.cell? ⟨pb,1,none⟩=some (.int .i64 (fr:Int)):=hp8.cell 1
           have q2:w8.cell? ⟨pb,2,none⟩=some (.int .i64 (tt:Int)):=hp8.cell 2
           have q3:w8.cell? ⟨pb,3,none⟩=some (.int .i64 (at_:Int)):=hp8.cell 3
           have cs8:w8.cell? ⟨sb,0,none⟩=some (.string bs):=(HSB6.out.below hb68 HSB6.out.lt).cell 0
           clear hg hgs hb8 hb68 hp8))
      obtain ⟨f1,f2,f3,f4,f5,f6⟩:=HFF.out
      rw [HKF.out.2.1] at f3 f4
      rw [HKF.out.2.2.1] at f4 f5
      rw [HKF.out.2.2.2] at f1
      have hi1:(fr:Int) ≤ (tt:Int):=by omega
      have hi2:(tt:Int) ≤ (cp:Int):=by omega
      have hi3:(tt:Int) ≤ 512:=by omega
      have hi4:(at_:Int) ≤ (s.length:Int):=by omega
      have hcf:cp ≠ fr:=by omega
      have F14:=Lib.hid (And.intro f1 (And.intro f3 (And.intro f4 f5)))
      clear f1 f2 f3 f4 f5 f6
      refine still_tail_round 10 (by kernel_rfl) (by kernel_rfl) (by kernel_rfl) (fun ⟨_,_,h⟩ => h) ?_
      simp only [List.take_succ_cons,List.take_zero,List.drop_succ_cons,List.drop_zero]
      repeat still_step
      try refine wpStill_nil ?_
      have hto2:tt ≤ fr + (s.length - at_):=by rw [← HKF.out.2.2.1,← HKF.out.2.1,← HKF.out.2.2.2]; unfold pTo; omega
      refine wpList_copy_rw_text rfl (.tmp 71) (.tmp 75) rfl g (T2.view c.D q) HG8.out.drew fr (tt - fr) (cp - fr) ?hd (s.drop at_) ?hs (by have:=F14.out; rw [List.length_drop]; omega) (by have:=F14.out; rw [HT2.out.view_len (i:=q) HQ1.out.2.2]; omega) ?_
      case hd => simp [Act.eval]
      case hs => simp [Act.eval]; rw [HBS.out.1]; exact extract_drop s at_
      intro w9 hg9 hk9
      have hgl:=HG8.out.lt
      have hg78:w6.heap.size ≤ g:=Nat.le_trans HB67.out.size HGS.out
      have hb69:Below w6.heap.size w6 w9:=HB68.out.trans (((show Keeps (·=g) w8 w9 from ⟨hk9.os,hk9.tape,hk9.output,hk9.size,hk9.block⟩)).below HB68.out.size (fun j e => by rw [show j=g from e]; exact hg78))
      have hT9:TxnAt c w9 (offC w9 c.b O2) T2:=(HT2.out.later hb69).strip2
      have hml:(List.take (tt - fr) (List.drop at_ s)).length=tt - fr:=by have:=F14.out; rw [List.length_take,List.length_drop]; omega
      have hl9:(spliced (T2.view c.D q) fr (List.take (tt - fr) (List.drop at_ s))).length=512:=by
        have h1:=HT2.out.view_len (i:=q) HQ1.out.2.2
        rw [spliced_length _ _ _ (by have:=F14.out; rw [hml,h1]; omega)]; exact h1
      have HWR:=Lib.hid (twrite_any c w9 _ T2 hT9 q (some ⟨g,0,none⟩) cp _ (by have:=HQ1.out; omega) HQ1.out.2.2 hl9 hg9.bytes (fun g' of e ho => by
        injection e with e
        injection e with e1 e2
        subst e1
        have:=HT2.out.lt _ ho.1.1
        omega) S2 HCOV.out.1 HCOV.out.2.2.1 (by have:=HCOV.out.2.2.2; rw [List.length_append] at this; omega) (by have:=HLEN.out.2; have:=HWI.out.len; omega))
      unfold Wrote at HWR
      rw [HT.out] at HWR
      have ct9:w9.cell? ⟨w.heap.size,0,none⟩=some (.pointer (some ⟨t,0,none⟩)):=(HTB6.out.below hb69 HTB6.out.lt).cell 0
      have HB69:=Lib.hid hb69
      have HY9:=Lib.hid ((HY7.out.below ((HB8.out.mono (Nat.le_refl _))) HY7.out.lt).keeps (show Keeps (·=g) w8 w9 from ⟨hk9.os,hk9.tape,hk9.output,hk9.size,hk9.block⟩) (by have:=HY7.out.lt; have:=HGS.out; omega))
      clear hg9 hk9 hT9 hb69 hml hl9 hgl
      refine wpList_nil ?_
      gi_wp2_with (first
        | (refine ⟨trivial,?_⟩
           gi_at_call 38
           refine (CallsIn.inRound l (callsIn_wide.2 HWR.out)).mono ?_
           rintro e w10 ⟨rfl,O3,hT3,hF3⟩
           have HT3:=Lib.hid hT3
           have HF3:=Lib.hid hF3
           have ny:¬ offC w9 c.b O2 w6.heap.size:=fun ho => by have:=HT2.out.lt _ ho.1.1; omega
           have nx:¬ offC w9 c.b O2 xb:=fun ho => HNB2.out xb (by omega) (by omega) ho.1.1
           have HY10:=Lib.hid (HY9.out.fr hF3 ny)
           have HX10:=Lib.hid ((HX6.out.below HB69.out HX6.out.lt).fr hF3 nx)
           have HNX:=Lib.hid nx
           clear hT3 hF3 ny nx)
        | (refine round_load_row rfl 44 (.tmp 13) rfl w6.heap.size rfl 44 (X2 f).C (0,0) _ HY10.out Tryz.underlying44 rfl size15 ?_)
        | (refine round_store_row_k rfl 44 (.tmp 11) (.tmp 84) rfl xb (X2 f).C rfl rfl 44 (X1 f).C HX10.out size15 rfl (inoC_one _) ?_
           intro w11 hy11 hk11
           have HX11:=Lib.hid hy11
           have HK11:=Lib.hid hk11
           clear hy11 hk11))
      have hown9:OwnsC w9 c.b (offC w9 c.b O2):=ownsC_off _ _ _
      have hf9:Fr W O1 w9 (offC w9 c.b O2):=(HF2.out.trans (Fr.of_below HB69.out)).strip2
      have hT11:=HT3.out.keep1 HK11.out (HF3.out.out (HX6.out.below HB69.out HX6.out.lt).lt HNX.out)
      have hfx11:=((HWI.out.fx.trans (FrX.of_fr hf9)).trans (FrX.of_fr HF3.out)).trans (FrX.of_keeps (G:=fun k => k=xb) HK11.out)
      have hk11:=HK11.out
      have hk:=HKF.out.1
      subst hk
      refine ⟨(((HWI.out.own.from HF2.out hbw).trans (keepsFrom_below HB69.out)).trans (hown9.from HF3.out hbw)).trans ⟨hk11.size,fun k o hB ho _ => (hk11.block k (Array.getElem?_eq_some_iff.1 ho).1 (by show ¬ k=xb; omega)).trans ho⟩,?_,_,_,X2,L2,S2,⟨hT11.strip2,ownsC_off _ _ _,⟨hfx11.1,fun k hk => hfx11.2 k hk.1.1⟩,?_,(HWI.out.ext.trans HLEN.out.1).put _ _,?_,HCOV.out.1.put HCOV.out.2.2.1 _,fun k h1 h2 => HCOV.out.2.1 k (by simp [HWI.out.bm k h1 h2]),HCOV.out.2.1 _ (by simp [HWI.out.im]),?_,HX11.out⟩⟩
      · have hsx:w9.heap.size ≤ _:=HF3.out.size
        have h69:=HB69.out.size
        refine kpP_t (kpP_t (kpP_t (KpP.of_fr HWI.out.own HF2.out (by omega) (by omega) (HOUT.out _ (by omega) (by omega)) (HOUT.out _ (by omega) (by omega))) (kpP_below HB69.out (by omega) (by omega))) (KpP.of_fr hown9 HF3.out (by omega) (by omega) (fun ho => HNB2.out _ (by omega) (by omega) ho.1.1) (fun ho => HNB2.out _ (by omega) (by omega) ho.1.1))) (KpP.of_keeps HK11.out (by omega) (by omega) (by omega) (by omega) (fun cs hi => by
          have:=is_type HX10.out hi
          exact absurd this (by decide)))
      · rw [view_upd,← HQ.out]
        have hn9:=HWI.out.next HEN.out.hn hf (HFS.out.ok f hf) (by have:=HBG.out; omega) pt HGR.out HTR.out HALL.out
        rw [HKF.out.2.1,HKF.out.2.2.1,HKF.out.2.2.2] at hn9
        exact hn9
      · rw [Tn.put_len,List.length_append]
        have:=HLEN.out.2
        have:=HWI.out.len
        simp; omega
      · have h1:=HCOV.out.2.2.2
        rw [List.length_append] at h1 ⊢
        have:=HWI.out.sl
        simp; omega
  case stop =>
    rintro D cde pre W hD _ ⟨rfl,O1,T1,hX⟩ hd
    have hX2:=hX.grown hbw (Nat.le_refl _) (grownBy_putObj' W D (.deferred none)) (fun r e => by cases e; exact ⟨hD,_,hd,rfl⟩)
    have hX3:=Lib.hid hX2
    have HD:=Lib.hid hd
    clear hX hX2
    gi_wp2
    refine ⟨by simp,.inl ⟨_,_,rfl,run_takeDeferred HD.out,?_⟩⟩
    refine ⟨by simp,.inr ⟨(fun h => by cases h),_,_,61,#[.pointer (some ⟨pb,0,none⟩),.pointer (some ⟨tb,0,none⟩),.pointer (some ⟨mb,0,none⟩)],rfl,(by simp [go_sem]),fun _ _ => trivial,?_⟩⟩
    have hx:=hX3.out
    have hu:UndoB (W.putObj D (.deferred none)) pb tb mb c.t eb T.H.length:=by
      rw [HT.out]
      exact HU4.out.same (fun k hk => by
        have hl:k < w4.heap.size:=by rcases hk with rfl | rfl | rfl; exact HU4.out.p.lt; exact HU4.out.t.lt; exact HU4.out.m.lt
        have hg:W3.heap.size ≤ k:=by rcases hk with rfl | rfl | rfl <;> assumption
        have h3:=HY3.out.lt
        have h4:=HE3.out.lt
        have h6:=HB3.out.size
        exact (hx.fx.block (by omega) (HNO.out k (by omega)) (by omega)).trans (HB5.out.block k hl))
    refine (undo1_errIn 7 c _ O1 T1 hx.tx (by rw [HEN.out.hN]; have:=(geo_facts HEN.out.hn).2.1; omega) pb tb mb eb T.H.length .returning hu hx.ext.le (by have:=hx.len; omega) 90 (by decide) (hx.e.cell 0)).mono ?_
    rintro e u' w'' ⟨rfl,rfl,hTb,hFb⟩
    have hce:w''.cell? ⟨eb,0,none⟩=some (.int .i64 90):=(hx.e.fr hFb (hx.fx.out (by omega) (HNO.out eb (by omega)))).cell 0
    rw [hx.ext.back] at hTb
    exact Exists.intro (.int .i64 90) ⟨by simp [results,Tryz.f16,go_sem,hce],.inr ⟨rfl,⟨O1,hTb,(FrX.fr (Fr.of_below (HB4.out.trans (HB5.out.mono HB4.out.size))) hx.fx (fun k hk => by rcases hk with rfl | rfl <;> omega)).trans hFb⟩,hx.full⟩⟩
  case done =>
    rintro D ys W hD hys ⟨O1,T1,X1,L1,S1,hW⟩ hd
    have HWI:=Lib.hid hW
    have hsW:=hW.fx.size
    have hfx:=hW.fx
    have isW:∀ {k:Nat} {ty:TypeId} {cs:Array Value},Is w5 k ty cs → w.heap.size ≤ k → k ≠ xb → Is W k ty cs:=fun h1 h2 h3 => h1.frX hfx (HNO.out _ h2) h3
    have htb:=isW HT5.out (Nat.le_refl _) (by omega)
    have hgb:=isW HG5.out (by omega) (by omega)
    have hsb:=isW HS5.out (by omega) (by omega)
    have heb:=isW HEB5.out (by omega) (by omega)
    have ctW:W.cell? ⟨w.heap.size,0,none⟩=some (.pointer (some ⟨t,0,none⟩)):=htb.cell 0
    have csW:W.cell? ⟨sb,0,none⟩=some (.string bs):=hsb.cell 0
    obtain ⟨d10,d11,d12,d13,d14⟩:=geo5 hgb
    have x2W:=x15 hW.x
    have f2W:=hW.x.free 2
    have hsz:(X1 f).size=(Q f).size:=hW.wr.same.2.2.trans (by rw [hx]; exact HKK.out.2.2)
    have hqs:=(HFS.out.ok f hf).size
    have u2:=IntWalk.i64_in (n:=(off:Int) + (s.length:Int)) (by have:=HBG.out; omega)
    obtain ⟨M,hM⟩:∃ M,max (X1 f).size (off + s.length)=M:=⟨_,rfl⟩
    have hmx:=run_max_ii ((X1 f).size:Int) ((off:Int) + (s.length:Int)) (M:Int) (by rw [← hM]; split <;> omega)
    have HHD:=Lib.hid hd
    have HSZ:=Lib.hid (And.intro hsz (And.intro hqs hM))
    have HTBW:=Lib.hid htb
    have HGBW:=Lib.hid hgb
    have HEBW:=Lib.hid heb
    have HYS:=Lib.hid hys
    have hM9:M ≤ 8459264:=by have:=HBG.out; omega
    have HM9:=Lib.hid hM9
    clear hW isW htb hgb hsb heb hfx hsz hqs hM hd hys hM9
    gi_wp2
    go_upto_region 25 with fail
    have hYb:=HWI.out.x.put 2 (.int .i64 (M:Int))
    have hEb:=HEBW.out.other ⟨xb,2,none⟩ (by show eb ≠ xb; omega) (.int .i64 (M:Int))
    have hTb:=HTBW.out.other ⟨xb,2,none⟩ (by show w.heap.size ≠ xb; omega) (.int .i64 (M:Int))
    have hGb:=HGBW.out.other ⟨xb,2,none⟩ (by show gb ≠ xb; omega) (.int .i64 (M:Int))
    have hnx:¬ O1 xb:=HWI.out.fx.out (by omega) (HNO.out _ (by omega))
    have hne:¬ O1 eb:=HWI.out.fx.out (by omega) (HNO.out _ (by omega))
    have hXb:=(HWI.out.tx.set hnx 2 (.int .i64 (M:Int))).strip2
    have hFb0:=HWI.out.fx.trans (FrX.of_keeps (keeps_set W xb 2 (.int .i64 (M:Int))))
    have hDb:(W.setCell ⟨xb,2,none⟩ (.int .i64 (M:Int))).heap[D]? = some (.deferred (some [])):=((KeepsOthers.setCell W ⟨xb,2,none⟩ _).from w5.heap.size).same D _ hD HHD.out rfl
    obtain ⟨W6,hW6⟩:∃ W6,W.setCell ⟨xb,2,none⟩ (.int .i64 (M:Int))=W6:=⟨_,rfl⟩
    rw [hW6] at hYb hEb hTb hGb hXb hFb0 hDb ⊢
    have hFb:FrX (fun k => k=xb) w5 O W6 (offC W6 c.b O1):=⟨hFb0.1,fun k hk => hFb0.2 k hk.1.1⟩
    obtain ⟨y,hy⟩:∃ y:Ino,(Ino.mk (X1 f).kind (X1 f).links M (X1 f).num)=y:=⟨_,rfl⟩
    have hYb:Is W6 xb 44 y.C:=by rw [← hy]; exact hYb
    have hk1:(X1 f).kind=1:=HWI.out.wr.same.1.trans (by rw [hx]; exact HKK.out.1)
    have hl1:(X1 f).links=1:=HWI.out.wr.same.2.1.trans (by rw [hx]; exact HKK.out.2.1)
    have hok:=ino_ok HWI.out.wr.tree HEN.out.hn hf HM9.out hk1 hl1
    have HOK:=Lib.hid hok
    rw [hy] at hok
    have hEW:Env c W6 (offC W6 c.b O1) T1 n:=HE5E.out.frX hXb hFb (fun e => by have:=HLOW.out; omega)
    have hlen:ys.length ≤ 11:=by
      have h1:=congrArg List.length HYS.out
      unfold firsts at h1
      rw [List.length_map,List.length_range] at h1
      have:=pMany_le (off:=off) h5; omega
    have him:=HWI.out.im
    rw [HII.out] at him
    have HPT:=Lib.hid (iput_any c W6 _ T1 hXb n i (ino n + i / 8) (i % 8 * 64) y HEN.out.hn HEN.out.hN (by have:=HII.out; omega) HCN.out rfl rfl hok hEW.wd S1 HWI.out.cov him (by have:=HWI.out.sl; omega) (by have:=HWI.out.len; omega) (fun w2 O2 h2 => hEW.wd.same (h2.1.block _ hEW.wd.lt hEW.wo)))
    rw [HT.out] at HPT
    unfold Wrote at HPT
    have ct6:W6.cell? ⟨w.heap.size,0,none⟩=some (.pointer (some ⟨t,0,none⟩)):=hTb.cell 0
    obtain ⟨e10,e11,e12,e13,e14⟩:=geo5 hGb
    have HYB:=Lib.hid hYb
    have HEB6:=Lib.hid hEb
    have HFB:=Lib.hid hFb
    have HDB:=Lib.hid hDb
    have HYI:=Lib.hid hy
    have HLN:=Lib.hid hlen
    have HNE:=Lib.hid hne
    clear hYb hEb hTb hGb hnx hne hXb hFb0 hFb hDb hy hk1 hl1 hok hEW hlen him hW6
    go_wp2_with (first
      | (refine wpList_load_row rfl 44 (.tmp 11) rfl xb rfl 44 y.C (0,0) _ HYB.out Tryz.underlying44 rfl size15 ?_)
      | (go_at_call 28
         refine HPT.out.mono ?_
         rintro e w8 ⟨rfl,O8,hT8,hF8⟩
         have HT8:=Lib.hid hT8
         have HF8:=Lib.hid hF8
         have HE8:=Lib.hid (HEB6.out.fr hF8 (fun ho => HNE.out ho.1.1))
         have ce8:w8.cell? ⟨eb,0,none⟩=some (.int .i64 0):=HE8.out.cell 0
         have fe8:=HE8.out.free 0
         clear hT8 hF8))
    have ne8:¬ O8 eb:=HF8.out.out HEB6.out.lt (fun ho => HNE.out ho.1.1)
    have hT9:=HT8.out.set ne8 0 (.int .i64 0)
    have hE9:=HE8.out.put 0 (.int .i64 0)
    have hF9:FrX (fun k => k=xb ∨ k=eb) w5 O (w8.setCell ⟨eb,0,none⟩ (.int .i64 0)) O8:=((HFB.out.mono (fun k e => .inl e)).trans (FrX.of_fr HF8.out)).trans (FrX.of_keeps ((keeps_set w8 eb 0 (.int .i64 0)).mono (fun k e => .inr e)))
    have hD9:(w8.setCell ⟨eb,0,none⟩ (.int .i64 0)).heap[D]? = some (.deferred (some [])):=(((ownsC_off W6 c.b O1).from HF8.out hbw).trans ((KeepsOthers.setCell w8 ⟨eb,0,none⟩ _).from w5.heap.size)).same D _ hD HDB.out rfl
    have hT9:=hT9.strip2
    obtain ⟨W9,hW9⟩:∃ W9,w8.setCell ⟨eb,0,none⟩ (.int .i64 0)=W9:=⟨_,rfl⟩
    rw [hW9] at hT9 hE9 hF9 hD9 ⊢
    have hE9:Is W9 eb 25 #[.int .i64 0]:=hE9
    have hDO:¬ offC W9 c.b O8 D:=fun ho => by
      rcases ho.2 with e | ⟨cs,ty,fr,e⟩
      · omega
      · rw [e] at hD9; injection hD9 with h; cases h
    refine ⟨by simp,.inl ⟨_,_,rfl,run_takeDeferred hD9,?_⟩⟩
    have hkD:Keeps (·=D) W9 (W9.putObj D (.deferred none)):=(Keeps.grown (grownBy_putObj' W9 D (.deferred none))).mono (fun k e => by injection e)
    have hT10:=hT9.keep1 hkD hDO
    have hE10:=hE9.keeps hkD (by omega)
    have hF10:=hF9.trans (FrX.of_keeps (G:=fun k => k=xb ∨ k=eb) (O:=O8) (w:=W9) (w2:=W9) (Keeps.refl _ _))
    refine ⟨by simp,.inr ⟨(fun h => by cases h),_,_,61,#[.pointer (some ⟨pb,0,none⟩),.pointer (some ⟨tb,0,none⟩),.pointer (some ⟨mb,0,none⟩)],rfl,(by simp [go_sem]),fun _ _ => trivial,?_⟩⟩
    have hF11:FrX (fun k => k=xb ∨ k=eb) w5 O (W9.putObj D (.deferred none)) (offC W9 c.b O8):=⟨(hF9.grown (grownBy_putObj' W9 D (.deferred none)) (fun r e => by cases e; exact hD)).1,fun k hk => hF9.2 k hk.1.1⟩
    have hu:UndoB (W9.putObj D (.deferred none)) pb tb mb t eb T.H.length:=HU4.out.same (fun k hk => by
      have hl:k < w4.heap.size:=by rcases hk with rfl | rfl | rfl; exact HU4.out.p.lt; exact HU4.out.t.lt; exact HU4.out.m.lt
      have hg:W3.heap.size ≤ k:=by rcases hk with rfl | rfl | rfl <;> assumption
      have h3:=HY3.out.lt
      have h4:=HE3.out.lt
      have h6:=HB3.out.size
      exact (hF11.block (by omega) (HNO.out k (by omega)) (by omega)).trans (HB5.out.block k hl))
    refine (undo1_okIn 7 _ pb tb mb t eb T.H.length .returning hu (hE10.cell 0)).mono ?_
    rintro e u' w'' ⟨rfl,rfl,rfl⟩
    have hce:(W9.putObj D (.deferred none)).cell? ⟨eb,0,none⟩=some (.int .i64 0):=hE10.cell 0
    refine Exists.intro (.int .i64 0) ⟨?_,.inl ⟨rfl,_,_,updX X1 f y,L1,S1,hT10,FrX.fr (Fr.of_below (HB4.out.trans (HB5.out.mono HB4.out.size))) hF11 (fun k hk => by rcases hk with rfl | rfl <;> omega),?_,HWI.out.cov.put (by have:=HWI.out.im; rw [HII.out] at this; exact this) _,by have:=HWI.out.sl; have:=HLN.out; omega,by rw [Tn.put_len]; have:=HWI.out.len; have:=HLN.out; omega⟩⟩
    · generalize W9.putObj D (.deferred none)=W10 at hce ⊢
      simp [results,Tryz.f16,go_sem,hce]
    · rw [view_upd,← HYI.out,← HII.out]
      have hwr:=HWI.out.wr
      rw [Pl.wrS_all HYS.out] at hwr
      have hMe:M=if s.length=0 then (Q f).size else max (Q f).size (off + s.length):=by
        rw [if_neg (by have:=HM1.out; omega),← HSZ.out.1]; exact HSZ.out.2.2.symm
      have hfin:=hwr.done HFS.out HEN.out.hn hf (sz:=M) (by rw [hMe]; exact Pl.wr_ok (HFS.out.ok f hf) off s (by have:=HBG.out; omega)) (by have:=HPL.out.1; rw [← HII.out] at this; exact this) (by have:=HPL.out.2.2.2; rw [← HII.out] at this; exact this) HOK.out
      rw [show (⟨(Q f).wrB off s,M⟩:Pl)=(Q f).wr off s from by rw [hMe]; rfl] at hfin
      exact hfin
end Go.Proofs.YthkijogloebdoaaGreatDoor
end
section
namespace Go.Proofs.YthkijogloebdoaaGreatDoor
open Go.RowKit Go.Maps Rec Gp Fs
set_option maxRecDepth 100000 in
set_option maxHeartbeats 3200000 in
theorem fcut_any (c:Cx)(w:World)(O:Nat → Prop)(T:Tn)(n:Nat)(he:Env c w O T n)(X:Nat → Ino)(L:Nat → Nat → Nat)(Q:Nat → Pl)(h:FsIn n (T.view c.D) X L Q)(f:Nat)(hf:f < 3)(S:List Nat)(hS:T.Cov S)(h80:S.length ≤ 80)(hT:T.H.length + 30000 ≤ 1000000)(sz:Nat) :
    Calls Tryz.prog 18 #[.pointer (some ⟨c.t,0,none⟩),geoV n,.int .i64 ((f + 2:Nat):Int),.int .i64 (sz:Int)] w (FDone c w O T n Q S 9 f (if 8459264 < sz then Q f else (Q f).cut sz) (if 8459264 < sz then 120 else 0)):=by
  obtain ⟨hb0,i0,i1⟩:=two_new w #[.int .i64 (n:Int),.int .i64 98,.int .i64 (ino n:Int),.int .i64 (dat n:Int),.int .i64 (cnt n:Int)] #[.int .i64 0] 31 25
  obtain ⟨W,hW⟩:∃ W,(w.alloc (.cells #[.int .i64 (n:Int),.int .i64 98,.int .i64 (ino n:Int),.int .i64 (dat n:Int),.int .i64 (cnt n:Int)] 31)).alloc (.cells #[.int .i64 0] 25)=W:=⟨_,rfl⟩
  have hz1:W.heap.size=w.heap.size + 2:=by rw [← hW]; simp [World.size_alloc]
  rw [hW] at hb0 i0 i1
  obtain ⟨p1,p2,p3,p4⟩:=rec_place he.hn (i:=f + 2) (by have:=(geo_facts he.hn).1; unfold cnt; omega)
  have hcnt:f + 2 < cnt n:=by have:=(geo_facts he.hn).1; unfold cnt; omega
  have HE0:=Lib.hid (he.later hb0)
  have hkk:=h.kind f hf
  have HG:=Lib.hid (fget_any c W O T n HE0.out (f + 2) (X f) (by omega) hcnt (h.ino f hf) (by omega))
  obtain ⟨x,hx⟩:∃ x,X f=x:=⟨_,rfl⟩
  rw [hx] at HG hkk
  unfold Ino.C at HG
  obtain ⟨d10,d11,d12,d13,d14⟩:=geo5 i0
  have ce:W.cell? ⟨w.heap.size + 1,0,none⟩=some (.int .i64 0):=i1.cell 0
  have fe:=i1.free 0
  have hz0:(0:Int) ≤ (sz:Int):=by omega
  have hnneg:¬ (sz:Int) < 0:=by omega
  have HI0:=Lib.hid i0
  have HI1:=Lib.hid i1
  have HB0:=Lib.hid hb0
  have HEN:=Lib.hid he
  have HFS:=Lib.hid h
  have HSS:=Lib.hid hS
  have HCN:=Lib.hid hcnt
  have HPL:=Lib.hid (And.intro p1 (And.intro p2 (And.intro p3 p4)))
  have HKK:=Lib.hid hkk
  have hwl:=he.wd.lt
  have HLOW:=Lib.hid hwl
  obtain ⟨t,ht⟩:∃ t,c.t=t:=⟨_,rfl⟩
  rw [ht] at HG ⊢
  have HT:=Lib.hid ht
  obtain ⟨i,hi⟩:∃ i,f + 2=i:=⟨_,rfl⟩
  rw [hi] at HG HCN HPL ⊢
  have HII:=Lib.hid hi
  clear he h hS p1 p2 p3 p4 hcnt hkk hb0 i0 i1 ht hi hwl
  go_enter_defers Tryz.func18,Tryz.ntmps18
  go_upto_region 6 with (first
    | (go_at_call 33
       refine HG.out.mono ?_
       rintro e w1 ⟨rfl,hb1⟩
       have HB1:=Lib.hid hb1
       have hs1:=hb1.size
       have HY1:=Lib.hid (Is.new w1 44 zeroC)
       have HE1:=Lib.hid ((HI1.out.below hb1 HI1.out.lt).below (below_new w1 (.cells zeroC 44)) (by omega))
       have HG1:=Lib.hid ((HI0.out.below hb1 HI0.out.lt).below (below_new w1 (.cells zeroC 44)) (by omega))
       clear hb1)
    | (refine wpList_store_row_k rfl 44 (.tmp 9) (.tmp 17) rfl w1.heap.size x.C rfl rfl 44 zeroC HY1.out size15 rfl (inoC_one _) ?_
       intro w2 hy2 hk2
       have HY2:=Lib.hid hy2
       have HE2:=Lib.hid (HE1.out.keeps hk2 (by omega))
       have HG2:=Lib.hid (HG1.out.keeps hk2 (by omega))
       have HB2:=Lib.hid (show Below w.heap.size w w2 from HB0.out.trans ((HB1.out.mono HB0.out.size).trans (((below_new w1 _).mono (by omega)).trans (hk2.below (by rw [World.size_alloc]; omega) (fun j e => by rw [show j=w1.heap.size from e]; omega)))))
       have ce2:w2.cell? ⟨w.heap.size + 1,0,none⟩=some (.int .i64 0):=HE2.out.cell 0
       have fe2:=HE2.out.free 0
       clear hy2 hk2))
  have hE3:=HE2.out.put 0 (.int .i64 0)
  have hY3:=HY2.out.other ⟨w.heap.size + 1,0,none⟩ (by show w1.heap.size ≠ w.heap.size + 1; omega) (.int .i64 0)
  have hG3:=HG2.out.other ⟨w.heap.size + 1,0,none⟩ (by show w.heap.size ≠ w.heap.size + 1; omega) (.int .i64 0)
  have hB3:=HB2.out.setCell (p:=⟨w.heap.size + 1,0,none⟩) (by show w.heap.size ≤ w.heap.size + 1; omega) (.int .i64 0)
  obtain ⟨W3,hW3⟩:∃ W3,w2.setCell ⟨w.heap.size + 1,0,none⟩ (.int .i64 0)=W3:=⟨_,rfl⟩
  rw [hW3] at hE3 hY3 hG3 hB3 ⊢
  have hE3:Is W3 (w.heap.size + 1) 25 #[.int .i64 0]:=hE3
  have ce3:W3.cell? ⟨w.heap.size + 1,0,none⟩=some (.int .i64 0):=hE3.cell 0
  have fe3:=hE3.free 0
  have x23:=x15 hY3
  have HE3:=Lib.hid hE3
  have HY3:=Lib.hid hY3
  have HG3:=Lib.hid hG3
  have HB3:=Lib.hid hB3
  clear hE3 hY3 hG3 hB3 hW3 ce2 fe2 HY2 HE2 HG2 HB2 HY1 HE1 HG1
  have fin:∀ (z:Int),(W3.setCell ⟨w.heap.size + 1,0,none⟩ (.int .i64 z)).cell? ⟨w.heap.size + 1,0,none⟩=some (.int .i64 z) ∧ Below w.heap.size w (W3.setCell ⟨w.heap.size + 1,0,none⟩ (.int .i64 z)):=fun z => ⟨(HE3.out.put 0 (.int .i64 z)).cell 0,HB3.out.setCell (p:=⟨w.heap.size + 1,0,none⟩) (by show w.heap.size ≤ w.heap.size + 1; omega) _⟩
  have FIN:=Lib.hid fin
  clear fin
  by_cases hbig:8459264 < sz
  · have hbg:(8459264:Int) < (sz:Int):=by omega
    rw [if_pos hbig,if_pos hbig]
    clear hbig
    go_wp2_with fail
    obtain ⟨hc,hb⟩:=FIN.out 120
    generalize W3.setCell ⟨w.heap.size + 1,0,none⟩ (.int .i64 120)=W9 at hc hb ⊢
    exact ⟨.int .i64 120,by simp [results,Tryz.f18,go_sem,hc],FDone.none HEN.out HFS.out HSS.out hb rfl⟩
  have hbg:¬ (8459264:Int) < (sz:Int):=by omega
  rw [if_neg hbig,if_neg hbig]
  have HBG:=Lib.hid hbig
  clear hbig
  by_cases hsame:sz=x.size
  · have hsb:((sz:Int) == (x.size:Int))=true:=by rw [beq_iff_eq]; omega
    have HSA:=Lib.hid hsame
    clear hsame
    go_wp2_with fail
    obtain ⟨hc,hb⟩:=FIN.out 0
    generalize W3.setCell ⟨w.heap.size + 1,0,none⟩ (.int .i64 0)=W9 at hc hb ⊢
    refine ⟨.int .i64 0,by simp [results,Tryz.f18,go_sem,hc],FDone.none HEN.out HFS.out HSS.out hb ?_⟩
    have hsz:=(HKK.out.2.2.symm.trans HSA.out.symm)
    rw [Pl.cut_long (HFS.out.ok f hf) sz (by omega),← hsz]
  have hsb:((sz:Int) == (x.size:Int))=false:=by rw [beq_eq_false_iff_ne]; omega
  have HNS:=Lib.hid hsame
  clear hsame
  have HUN:=Lib.hid (undo_any c W3 O T (HEN.out.later HB3.out).tx (w.heap.size + 1))
  rw [HT.out] at HUN
  go_upto_if 33 with (
    go_at_call 34
    refine HUN.out.mono ?_
    rintro e w4 ⟨⟨pb,tb,mb,rfl,hub,g1,g2,g3⟩,hb4⟩
    have HU4:=Lib.hid hub
    have HY4:=Lib.hid (HY3.out.below hb4 HY3.out.lt)
    have HE4:=Lib.hid (HE3.out.below hb4 HE3.out.lt)
    have HG4:=Lib.hid (HG3.out.below hb4 HG3.out.lt)
    have HB4:=Lib.hid (HB3.out.trans (hb4.mono HB3.out.size))
    have hs4:=hb4.size
    have x24:=x15 HY4.out
    clear hub hb4)
  have hno:∀ g,w.heap.size ≤ g → ¬ O g:=fun g hg => HEN.out.tx.out hg
  have HNO:=Lib.hid hno
  have hE4:=HEN.out.later HB4.out
  have HE4T:=Lib.hid hE4
  clear hno hE4
  have hxl:=HY4.out.lt
  have hel:=HE4.out.lt
  have hgl:=HG4.out.lt
  go_cut [] from 33 to 56 (fun wx => ∃ (Oa:Nat → Prop) (Ta:Tn) (Xa:Nat → Ino) (La:Nat → Nat → Nat),TxnAt c wx Oa Ta ∧ FrX (fun k => k=w1.heap.size ∨ k=w.heap.size + 1) w4 O wx Oa ∧ Wring n (T.view c.D) X L f (Ta.view c.D) Xa La ((Q f).cut sz).B ∧ Ta.Cov (cutS n L f sz S) ∧ Ta.H.length ≤ T.H.length + 18000 ∧ Is wx w1.heap.size 44 (Xa f).C ∧ Is wx (w.heap.size + 1) 25 #[.int .i64 0])
  case first =>
    by_cases hlt:sz < x.size
    · have hlb:(sz:Int) < (x.size:Int):=by omega
      have HLT:=Lib.hid hlt
      obtain ⟨k,hk⟩:∃ k,(sz + 511) / 512=k:=⟨_,rfl⟩
      have hxs:x.size ≤ 8459264:=by have:=(HFS.out.ok f hf).size; have:=HKK.out.2.2; omega
      have hkl:k ≤ 16522:=by omega
      have hWr:=HFS.out.wring hf
      have HCUT:=Lib.hid (bcut_any c w4 O T n HE4T.out X L HFS.out.tree f k hf (HFS.out.live f hf) hkl (cutS n L f sz S) (HSS.out.mono cutS_old) cutS_bm (by rw [← hk]; exact cutS_tab) (by have:=cutS_len (S:=S) (f:=f) (sz:=sz) (L:=L) HEN.out.hn; omega) (by omega))
      rw [HT.out,hx] at HCUT
      unfold Cutted at HCUT
      unfold Ino.C at HCUT
      obtain ⟨e10,e11,e12,e13,e14⟩:=geo5 HG4.out
      have u1:=IntWalk.i64_in (n:=(sz:Int) + 512) (by omega)
      have u2:=IntWalk.i64_in (n:=(sz:Int) + 512 - 1) (by omega)
      have u3:((sz:Int) + 512 - 1) / 512=(k:Int):=by omega
      have u4:=IntWalk.i64_in (n:=(k:Int)) (by omega)
      have HK:=Lib.hid hk
      clear hlt hkl hWr hk
      go_upto_region 13 with (first
        | (refine wpList_load_row rfl 44 (.tmp 9) rfl w1.heap.size rfl 44 x.C (0,0) _ HY4.out Tryz.underlying44 rfl size15 ?_)
        | (go_at_call 39
           refine HCUT.out.mono ?_
           rintro e w5 ⟨O5,T5,X5,rfl,hst,hxs5,hss5⟩
           have HST:=Lib.hid hst
           have HXS:=Lib.hid (And.intro hxs5 hss5)
           have HY5:=Lib.hid (HY4.out.fr hst.fr (HNO.out _ (by omega)))
           have HE5:=Lib.hid (HE4.out.fr hst.fr (HNO.out _ (by omega)))
           clear hst hxs5 hss5)
        | (refine wpList_store_row_k rfl 44 (.tmp 9) (.tmp 43) rfl w1.heap.size (X5 f).C rfl rfl 44 x.C HY5.out size15 rfl (inoC_one _) ?_
           intro w6 hy6 hk6
           have HY6:=Lib.hid hy6
           have HK6:=Lib.hid hk6
           have HE6:=Lib.hid (HE5.out.keeps hk6 (by omega))
           have ce6:w6.cell? ⟨w.heap.size + 1,0,none⟩=some (.int .i64 0):=HE6.out.cell 0
           have fe6:=HE6.out.free 0
           clear hy6 hk6))
      have hfx6:=(FrX.of_fr (G:=fun k => k=w1.heap.size ∨ k=w.heap.size + 1) HST.out.fr).trans (FrX.of_keeps (HK6.out.mono (fun k e => .inl e)))
      have hk7:=keeps_set w6 (w.heap.size + 1) 0 (.int .i64 0)
      have hfx7:=hfx6.trans (FrX.of_keeps (hk7.mono (fun k e => .inr e)))
      have nx5:¬ O5 w1.heap.size:=HST.out.fr.out hxl (HNO.out _ (by omega))
      have ne5:¬ O5 (w.heap.size + 1):=HST.out.fr.out hel (HNO.out _ (by omega))
      have hT7:=(HST.out.env.tx.keep1 HK6.out nx5).set ne5 0 (.int .i64 0)
      have hY7:=HY6.out.other ⟨w.heap.size + 1,0,none⟩ (by show w1.heap.size ≠ w.heap.size + 1; omega) (.int .i64 0)
      have hE7:Is (w6.setCell ⟨w.heap.size + 1,0,none⟩ (.int .i64 0)) (w.heap.size + 1) 25 #[.int .i64 0]:=HE6.out.put 0 (.int .i64 0)
      obtain ⟨W7,hW7⟩:∃ W7,w6.setCell ⟨w.heap.size + 1,0,none⟩ (.int .i64 0)=W7:=⟨_,rfl⟩
      rw [hW7] at hfx7 hT7 hY7 hE7 ⊢
      obtain ⟨e10,e11,e12,e13,e14⟩:=geo5 (HG4.out.frX hfx7 (HNO.out _ (by omega)) (by omega))
      have ce7:W7.cell? ⟨w.heap.size + 1,0,none⟩=some (.int .i64 0):=hE7.cell 0
      have fe7:=hE7.free 0
      have hE7e:Env c W7 O5 T5 n:=HE4T.out.frX hT7 hfx7 (fun e => by have:=HLOW.out; omega)
      have htr:=HST.out.tree.same (E2:=noE) (fun g p e => e.2.elim) (fun g p e => e.elim)
      have hwr:=HFS.out.cut HEN.out.hn hf htr HXS.out.1 HXS.out.2 HST.out.far
      have hk9:sz / 512 < 16522:=by have:=HK.out; have:=HBG.out; have:=HLT.out; omega
      have HWP:=Lib.hid (wipe_any c W7 O5 T5 n hE7e X5 (Lp L f k (fun _ => true)) htr f sz (sz / 512) (sz % 512) hf (by have:=HLT.out; omega) rfl rfl (cutS n L f sz S) HST.out.cov (fun h0 => by
        rw [Lp_in rfl] at h0 ⊢
        rw [cutL_ne h0]
        unfold cutS; simp) (by have:=cutS_len (S:=S) (f:=f) (sz:=sz) (L:=L) HEN.out.hn; omega) (by have:=HST.out.len; omega))
      unfold Wiped at HWP
      rw [HT.out] at HWP
      have HFX7:=Lib.hid hfx7
      have HY7:=Lib.hid hY7
      have HE7:=Lib.hid hE7
      have HWR:=Lib.hid hwr
      have HN5:=Lib.hid (And.intro nx5 ne5)
      clear hfx6 hk7 hfx7 nx5 ne5 hT7 hY7 hE7 hW7 hE7e htr hwr ce6 fe6
      go_wp2_with (first
        | (refine wpList_load_row rfl 44 (.tmp 9) rfl w1.heap.size rfl 44 (X5 f).C (0,0) _ HY7.out Tryz.underlying44 rfl size15 ?_)
        | (go_at_call 40
           refine HWP.out.mono ?_
           rintro e w8 ⟨rfl,O8,T8,hT8,hF8,hc8⟩
           have HT8:=Lib.hid hT8
           have HF8:=Lib.hid hF8
           have HC8:=Lib.hid hc8
           have HE8:=Lib.hid (HE7.out.fr hF8 HN5.out.2)
           have ce8:w8.cell? ⟨w.heap.size + 1,0,none⟩=some (.int .i64 0):=HE8.out.cell 0
           have fe8:=HE8.out.free 0
           clear hT8 hF8 hc8))
      go_meet
      have n8:¬ O8 (w.heap.size + 1):=HF8.out.out HE7.out.lt HN5.out.2
      have hk:=HK.out
      subst hk
      refine ⟨O8,T8,X5,Lp L f ((sz + 511) / 512) (fun _ => true),HT8.out.set n8 0 _,(HFX7.out.trans (FrX.of_fr HF8.out)).trans (FrX.of_keeps ((keeps_set w8 (w.heap.size + 1) 0 (.int .i64 0)).mono (fun k e => .inr e))),?_,?_,?_,(HY7.out.fr HF8.out HN5.out.1).other ⟨w.heap.size + 1,0,none⟩ (by show w1.heap.size ≠ w.heap.size + 1; omega) _,HE8.out.put 0 _⟩
      · rcases HC8.out with ⟨hc,rfl⟩ | ⟨ha,hn,rfl⟩
        · exact HWR.out.wiped0 (HFS.out.ok f hf) hc
        · rw [view_upd]
          exact HWR.out.wiped HEN.out.hn (HFS.out.ok f hf) ha hk9 hn
      · rcases HC8.out with ⟨hc,rfl⟩ | ⟨ha,hn,rfl⟩
        · exact HST.out.cov
        · refine HST.out.cov.put ?_ _
          rw [Lp_in rfl] at hn ⊢
          rw [cutL_ne hn]
          unfold cutS; simp
      · have:=HST.out.len
        rcases HC8.out with ⟨hc,rfl⟩ | ⟨ha,hn,rfl⟩
        · omega
        · rw [Tn.put_len]; omega
    · have hlb:¬ (sz:Int) < (x.size:Int):=by omega
      have HLT:=Lib.hid hlt
      clear hlt
      go_wp2_with fail
      go_meet
      refine ⟨O,T,X,L,HE4T.out.tx,FrX.of_below (Below.refl _ _),HFS.out.long hf (by have:=HKK.out.2.2; have:=HLT.out; omega),HSS.out.mono cutS_old,by omega,by rw [hx]; exact HY4.out,HE4.out⟩
  case rest =>
    obtain ⟨Oa,Ta,Xa,La,hTa,hFa,hWa,hCa,hHa,hYa,hEa⟩:=hcut
    obtain ⟨wa,hwa⟩:∃ wa,wa=wc:=⟨_,rfl⟩
    subst hwa
    have x2a:=x15 hYa
    have f2a:=hYa.free 2
    have hYb:=hYa.put 2 (.int .i64 (sz:Int))
    have hEb:=hEa.other ⟨w1.heap.size,2,none⟩ (by show w.heap.size + 1 ≠ w1.heap.size; omega) (.int .i64 (sz:Int))
    have hnx:¬ Oa w1.heap.size:=hFa.out hxl (HNO.out _ (by omega))
    have hne:¬ Oa (w.heap.size + 1):=hFa.out hel (HNO.out _ (by omega))
    have hTb:=hTa.set hnx 2 (.int .i64 (sz:Int))
    have hFb:=hFa.trans (FrX.of_keeps ((keeps_set wa w1.heap.size 2 (.int .i64 (sz:Int))).mono (fun k e => .inl e)))
    obtain ⟨W5,hW5⟩:∃ W5,wa.setCell ⟨w1.heap.size,2,none⟩ (.int .i64 (sz:Int))=W5:=⟨_,rfl⟩
    have hW5':=hW5
    rw [hW5] at hYb hEb hTb hFb
    obtain ⟨y,hy⟩:∃ y:Ino,(Ino.mk (Xa f).kind (Xa f).links sz (Xa f).num)=y:=⟨_,rfl⟩
    have hYb:Is W5 w1.heap.size 44 y.C:=by rw [← hy]; exact hYb
    have hok:y.Ok:=by
      rw [← hy]
      exact ino_ok hWa.tree HEN.out.hn hf (by have:=HBG.out; omega) (hWa.same.1.trans (by rw [hx]; exact HKK.out.1)) (hWa.same.2.1.trans (by rw [hx]; exact HKK.out.2.1))
    have hE5:Env c W5 Oa Ta n:=HE4T.out.frX hTb hFb (fun e => by have:=HLOW.out; omega)
    have hSm:ino n + i / 8 ∈ cutS n L f sz S:=by rw [← HII.out]; unfold cutS; simp
    have HPT:=Lib.hid (iput_any c W5 Oa Ta hTb n i (ino n + i / 8) (i % 8 * 64) y HEN.out.hn HEN.out.hN (by have:=HII.out; omega) HCN.out rfl rfl hok hE5.wd (cutS n L f sz S) hCa hSm (by have:=cutS_len (S:=S) (f:=f) (sz:=sz) (L:=L) HEN.out.hn; omega) (by omega) (fun w2 O2 h2 => hE5.wd.same (h2.1.block _ hE5.wd.lt hE5.wo)))
    rw [HT.out] at HPT
    unfold Wrote at HPT
    obtain ⟨d10',d11',d12',d13',d14'⟩:=geo5 (HG4.out.frX hFb (HNO.out _ (by omega)) (by omega))
    have HYB:=Lib.hid hYb
    have HEB:=Lib.hid hEb
    have HTB:=Lib.hid hTb
    have HFB:=Lib.hid hFb
    have HWA:=Lib.hid hWa
    have HCA:=Lib.hid hCa
    have HYI:=Lib.hid hy
    have HN2:=Lib.hid (And.intro hnx hne)
    clear hYb hEb hTb hFb hWa hCa hy hok hE5 hSm hTa hFa hYa hEa hnx hne hW5'
    go_wp2_with (first
      | (refine wpList_load_row rfl 44 (.tmp 9) rfl w1.heap.size rfl 44 y.C (0,0) _ HYB.out Tryz.underlying44 rfl size15 ?_)
      | (go_at_call 28
         refine HPT.out.mono ?_
         rintro e w8 ⟨rfl,O8,hT8,hF8⟩
         have HT8:=Lib.hid hT8
         have HF8:=Lib.hid hF8
         have HE8:=Lib.hid (HEB.out.fr hF8 HN2.out.2)
         have ce8:w8.cell? ⟨w.heap.size + 1,0,none⟩=some (.int .i64 0):=HE8.out.cell 0
         have fe8:=HE8.out.free 0
         clear hT8 hF8))
    have ne8:¬ O8 (w.heap.size + 1):=HF8.out.out HEB.out.lt HN2.out.2
    have hT9:=HT8.out.set ne8 0 (.int .i64 0)
    have hE9:=HE8.out.put 0 (.int .i64 0)
    have hk9:=keeps_set w8 (w.heap.size + 1) 0 (.int .i64 0)
    have hF9:FrX (fun k => k=w1.heap.size ∨ k=w.heap.size + 1) w4 O (w8.setCell ⟨w.heap.size + 1,0,none⟩ (.int .i64 0)) O8:=(HFB.out.trans (FrX.of_fr HF8.out)).trans (FrX.of_keeps (hk9.mono (fun k e => .inr e)))
    obtain ⟨W9,hW9⟩:∃ W9,w8.setCell ⟨w.heap.size + 1,0,none⟩ (.int .i64 0)=W9:=⟨_,rfl⟩
    rw [hW9] at hT9 hE9 hF9 ⊢
    have ce9:W9.cell? ⟨w.heap.size + 1,0,none⟩=some (.int .i64 0):=hE9.cell 0
    have hu9:UndoB W9 pb tb mb t (w.heap.size + 1) T.H.length:=HU4.out.same (fun k hk => by
      have hl:k < w4.heap.size:=by rcases hk with rfl | rfl | rfl; exact HU4.out.p.lt; exact HU4.out.t.lt; exact HU4.out.m.lt
      have hg:W3.heap.size ≤ k:=by rcases hk with rfl | rfl | rfl <;> assumption
      have h3:=HY3.out.lt
      have h4:=HE3.out.lt
      exact hF9.block hl (HNO.out k (by have:=HB3.out.size; omega)) (by omega))
    refine leaves_cons (f:=61) (args := #[.pointer (some ⟨pb,0,none⟩),.pointer (some ⟨tb,0,none⟩),.pointer (some ⟨mb,0,none⟩)]) (by simp) (by simp [go_sem]) ?_
    refine (undo1_ok W9 pb tb mb t (w.heap.size + 1) T.H.length .returning hu9 ce9).mono ?_
    rintro e u' w'' ⟨rfl,rfl,rfl⟩
    refine ⟨.int .i64 0,by simp [results,Tryz.f18,go_sem,ce9],rfl,O8,_,updX Xa f y,La,cutS n L f sz S,hT9,FrX.fr (Fr.of_below HB4.out) hF9 (fun k hk => by rcases hk with rfl | rfl <;> omega),?_,HCA.out.put (by rw [← HII.out]; unfold cutS; simp) _,cutS_len HEN.out.hn,by rw [Tn.put_len]; omega⟩
    rw [view_upd,← HYI.out,← HII.out]
    exact HWA.out.done HFS.out HEN.out.hn hf (Pl.cut_ok (HFS.out.ok f hf) sz (by have:=HBG.out; omega)) (by have:=HPL.out.1; rw [← HII.out] at this; exact this) (by have:=HPL.out.2.2.2; rw [← HII.out] at this; exact this) (ino_ok HWA.out.tree HEN.out.hn hf (by have:=HBG.out; omega) (HWA.out.same.1.trans (by rw [hx]; exact HKK.out.1)) (HWA.out.same.2.1.trans (by rw [hx]; exact HKK.out.2.1)))
end Go.Proofs.YthkijogloebdoaaGreatDoor
end
