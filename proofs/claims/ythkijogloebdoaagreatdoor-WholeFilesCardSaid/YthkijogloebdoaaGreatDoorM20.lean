/-
  WholeFiles, the texts Bn Fge: lemmas for the proof that three files on one disk are plain rows of bytes. No conditions.
-/
import Derived.Test.YthkijogloebdoaaGreatDoorM19
import Derived.Test.YthkijogloebdoaaGreatDoorM18
import Derived.Test.YthkijogloebdoaaGreatDoorM17
import Derived.BigRegion
import Derived.Deep.RegionHeld3
import Derived.Deep.DeepCutAuto
import Derived.Deep.CutRange
set_option linter.unusedVariables false
set_option linter.unusedSimpArgs false
section
namespace Go.Proofs.YthkijogloebdoaaGreatDoor
open Go.RowKit Go.Maps Rec Gp Fs
def Cutted (c:Cx)(w:World)(O:Nat → Prop)(T:Tn)(n:Nat)(X:Nat → Ino)(L:Nat → Nat → Nat)(f k:Nat)(S:List Nat)(e:Ending)(w':World):Prop :=
  ∃ (O':Nat → Prop) (T':Tn) (X':Nat → Ino),e=.returned (.tuple #[.agg (X' f).C,.int .i64 0]) ∧ CutSt c w O T n X' L f k S w' O' T' (fun _ => true) (fun _ => False) 17000 ∧ (∀ g,g ≠ f → X' g=X g) ∧ (X' f).kind=(X f).kind ∧ (X' f).links=(X f).links ∧ (X' f).size=(X f).size
structure CutI (c:Cx)(w:World)(O:Nat → Prop)(T:Tn)(n:Nat)(X:Nat → Ino)(L:Nat → Nat → Nat)(f k:Nat)(S:List Nat)(W4:World)(F:Nat)(wr:World)(Oi:Nat → Prop)(Ti:Tn)(Xi:Nat → Ino)(P:Nat → Bool)(m:Nat):Prop where
  st:CutSt c w O T n Xi L f k S wr Oi Ti P (fun _ => False) m
  fx:FrX (·=F) W4 O wr Oi
  file:FileAt wr F c.t n (Xi f)
  xs:∀ g,g ≠ f → Xi g=X g
  same:(Xi f).kind=(X f).kind ∧ (Xi f).links=(X f).links ∧ (Xi f).size=(X f).size
section
variable {c:Cx}{w:World}{O:Nat → Prop}{T:Tn}{n:Nat}{X:Nat → Ino}{L:Nat → Nat → Nat}{f k:Nat}{S:List Nat}{W4:World}{F:Nat}{wr w2:World}{Oi O2:Nat → Prop}{Ti T2:Tn}{Xi:Nat → Ino}{P P2:Nat → Bool}{m m2:Nat}{E:Nat → Prop}
theorem CutI.skip (h:CutI c w O T n X L f k S W4 F wr Oi Ti Xi P m)(h1:∀ p,P p=true → P2 p=true)(h2:∀ p,P2 p=true → P p=true ∨ cutL L f k p=L f p)(hm:m ≤ m2):CutI c w O T n X L f k S W4 F wr Oi Ti Xi P2 m2 :=
  ⟨h.st.skip h1 h2 (fun _ => Iff.rfl) hm,h.fx,h.file,h.xs,h.same⟩
theorem CutI.root0 (h:CutSt c w O T n Xi L f k S wr O2 T2 P E m)(hfx:FrX (·=F) W4 O wr O2)(hF:FileAt wr F c.t n (Xi f))(hxs:∀ g,g ≠ f → Xi g=X g)(hs:(Xi f).kind=(X f).kind ∧ (Xi f).links=(X f).links ∧ (Xi f).size=(X f).size)
    (oF:¬ O2 F)(hwF:w.heap.size ≤ F)(hww:0 < w.heap.size){p s:Nat}(hr:par p=16652)(hp:p < 16652)(hs2:slot p=s)(hPp:P p=true)(hz:cutL L f k p=0)(hE:∀ r,E r ↔ r=p)(hs12:s < 12) :
    CutI c w O T n X L f k S W4 F (wr.setCell ⟨F,9 + s,none⟩ (.int .i64 0)) O2 T2 (updX Xi f ((Xi f).set s 0)) P m:=by
  have hk:=keeps_set wr F (9 + s) (.int .i64 0)
  refine ⟨?_,hfx.trans (FrX.of_keeps hk),?_,fun g e => by rw [updX_other _ _ _ e]; exact hxs g e,by rw [updX_same]; exact hs⟩
  · have h1:=(h.keep1 hk oF hwF hww).root (p:=p) (v:=0) (E2:=fun _ => False) hr hp (by rw [Lp_in hPp]; exact hz) (fun r => ⟨fun e => e.elim,fun e => absurd ((hE r).1 e.1) e.2⟩)
    rw [hs2] at h1
    exact h1
  · rw [updX_same]
    have h1:=hF.put (9 + s) (.int .i64 ((0:Nat):Int))
    rw [fileC_set _ _ _ _ _ hs12] at h1
    exact h1
end
theorem keep_tab {n:Nat}{V:Nat → List UInt8}{X:Nat → Ino}{L:Nat → Nat → Nat}{f k q:Nat}(h:Tree0 n V X L)(hl:Live L f)(h0:16522 ≤ q)(h1:q < 16652)(hk:∀ s,s < 128 → cutL L f k (kid q s)=L f (kid q s)):cutL L f k q=L f q:=by
  by_cases hz:L f q=0
  · rw [cutL_zero hz,hz]
  · obtain ⟨s,hs,hne⟩:=hl q h0 h1 hz
    exact cutL_ne ((h.cutL_tab h0 h1).2 ⟨s,hs,by rw [hk s hs]; exact hne⟩)
theorem none_tab {n:Nat}{V:Nat → List UInt8}{X:Nat → Ino}{L:Nat → Nat → Nat}{f q s:Nat}(h:Tree0 n V X L)(h0:16522 ≤ q)(h1:q < 16652)(hs:s < 128)(hz:L f q=0):L f (kid q s)=0 :=
  Classical.byContradiction fun hne => by
    obtain ⟨k1,k2,k3⟩:=par_kid h0 h1 hs
    have:=h.up hne (by rw [k1]; omega)
    rw [k1] at this
    exact this hz
theorem cut_fin (W6:World)(yb eb:Nat)(y:Ino)(h3:Is W6 yb 44 zeroC)(h5:Is W6 eb 25 #[.int .i64 0])(n2:yb ≠ eb) :
    ∃ W9,((((((((((((((((W6.setCell ⟨yb,0,none⟩ (.int .i64 (y.kind:Int))).setCell ⟨yb,1,none⟩ (.int .i64 (y.links:Int))).setCell ⟨yb,2,none⟩ (.int .i64 (y.size:Int))).setCell ⟨yb,3,none⟩ (.int .i64 (y.num 0:Int))).setCell ⟨yb,4,none⟩ (.int .i64 (y.num 1:Int))).setCell ⟨yb,5,none⟩ (.int .i64 (y.num 2:Int))).setCell ⟨yb,6,none⟩ (.int .i64 (y.num 3:Int))).setCell ⟨yb,7,none⟩ (.int .i64 (y.num 4:Int))).setCell ⟨yb,8,none⟩ (.int .i64 (y.num 5:Int))).setCell ⟨yb,9,none⟩ (.int .i64 (y.num 6:Int))).setCell ⟨yb,10,none⟩ (.int .i64 (y.num 7:Int))).setCell ⟨yb,11,none⟩ (.int .i64 (y.num 8:Int))).setCell ⟨yb,12,none⟩ (.int .i64 (y.num 9:Int))).setCell ⟨yb,13,none⟩ (.int .i64 (y.num 10:Int))).setCell ⟨yb,14,none⟩ (.int .i64 (y.num 11:Int))).setCell ⟨eb,0,none⟩ (.int .i64 0))=W9 ∧ Is W9 yb 44 y.C ∧ Is W9 eb 25 #[.int .i64 0] ∧ Keeps (fun i => i=yb ∨ i=eb) W6 W9:=by
  have mk:=putIno_keeps W6 yb y
  have h3':=putIno_is h3 y
  have h5':=h5.keeps mk (fun e => n2 e.symm)
  obtain ⟨W8,hW8⟩:∃ W8,putIno W6 yb y=W8:=⟨_,rfl⟩
  rw [hW8] at mk h3' h5'
  unfold putIno at hW8
  rw [hW8]
  exact ⟨_,rfl,h3'.other ⟨eb,0,none⟩ n2 _,h5'.put 0 (.int .i64 0),(mk.mono (fun i h => .inl h)).trans ((keeps_set _ eb 0 _).mono (fun i h => .inr h))⟩
theorem _root_.Go.Proofs.YthkijogloebdoaaGreatDoor.CutSt.keeps2 {c:Cx}{w0 wr w2:World}{O0 O:Nat → Prop}{T0 T:Tn}{n:Nat}{X:Nat → Ino}{L:Nat → Nat → Nat}{f k:Nat}{S:List Nat}{P:Nat → Bool}{E:Nat → Prop}{m a b:Nat}(h:CutSt c w0 O0 T0 n X L f k S wr O T P E m)(hk:Keeps (fun i => i=a ∨ i=b) wr w2)(ha:¬ O a)(hb:¬ O b)(ga:w0.heap.size ≤ a)(gb:w0.heap.size ≤ b)(hw:0 < w0.heap.size):CutSt c w0 O0 T0 n X L f k S w2 O T P E m:=by
  refine ⟨⟨h.env.tx.keeps hk (fun i e o => by rcases e with rfl | rfl; exact ha o; exact hb o),h.env.hn,h.env.hN,h.env.wd.same (hk.block _ h.env.wd.lt (fun e => by omega)),h.env.wo⟩,h.fr.keep hk (fun i e => by rcases e with rfl | rfl <;> assumption),h.tree,h.far,h.cov,h.ext,h.len⟩
theorem rest1 {n:Nat}{V:Nat → List UInt8}{X:Nat → Ino}{L:Nat → Nat → Nat}{f k p:Nat}(h:Tree0 n V X L)(hl:Live L f)(hw:138 ≤ k ∨ L f 16522=0)(hp:(k ≤ p ∧ p < 10) ∨ (10 ≤ p ∧ p < 138) ∨ p=16522):decide (k ≤ p ∧ p < 10)=true ∨ cutL L f k p=L f p:=by
  rcases hp with hp | hp | rfl
  · exact .inl (decide_eq_true hp)
  · right
    rcases hw with hw | hw
    · rw [cutL_index (by omega),if_pos (by omega)]
    · have:=none_tab h (q:=16522) (s:=p - 10) (by omega) (by omega) (by omega) hw
      rw [kid_one,show 10 + (p - 10)=p by omega] at this
      rw [cutL_zero this,this]
  · right
    rcases hw with hw | hw
    · exact keep_tab h hl (by omega) (by omega) (fun s hs => by rw [kid_one,cutL_index (by omega),if_pos (by omega)])
    · rw [cutL_zero hw,hw]
theorem one_P (k p:Nat):(Pu (fun p => decide (k ≤ p ∧ p < 10)) (U1 16522) 128 p || p == 16522)=decide ((k ≤ p ∧ p < 10) ∨ (10 ≤ p ∧ p < 138) ∨ p=16522):=by
  refine bool_ext ?_
  rw [Bool.or_eq_true,Pu_iff,beq_iff_eq,decide_eq_true_iff,decide_eq_true_iff]
  constructor
  · rintro ((e | ⟨s,hs,e⟩) | e)
    · exact .inl e
    · have:=beq_iff_eq.1 e
      rw [kid_one] at this
      exact .inr (.inl (by omega))
    · exact .inr (.inr e)
  · rintro (e | e | e)
    · exact .inl (.inl e)
    · exact .inl (.inr ⟨p - 10,by omega,beq_iff_eq.2 (by rw [kid_one]; omega)⟩)
    · exact .inr e
theorem rest3 {n:Nat}{V:Nat → List UInt8}{X:Nat → Ino}{L:Nat → Nat → Nat}{f k:Nat}(h:Tree0 n V X L)(p:Nat):(Pu (fun p => decide ((k ≤ p ∧ p < 10) ∨ (10 ≤ p ∧ p < 138) ∨ p=16522)) U2 128 p || p == 16523)=true ∨ cutL L f k p=L f p:=by
  by_cases e1:(k ≤ p ∧ p < 10) ∨ (10 ≤ p ∧ p < 138) ∨ p=16522
  · left; rw [Bool.or_eq_true]; exact .inl (Pu_iff.2 (.inl (decide_eq_true e1)))
  by_cases e2:p < 138
  · right; rw [cutL_index (by omega),if_pos (by omega)]
  by_cases e3:16652 ≤ p
  · right
    have:L f p=0:=Classical.byContradiction fun hne => by have:=(h.inn f p hne).2.1; omega
    rw [cutL_zero this,this]
  left
  rw [Bool.or_eq_true]
  by_cases e4:p=16523
  · exact .inr (beq_iff_eq.2 e4)
  · by_cases e5:p < 16522
    · exact .inl (Pu_iff.2 (.inr ⟨(p - 138) / 128,by omega,U2_iff.2 (.inr (by omega))⟩))
    · exact .inl (Pu_iff.2 (.inr ⟨p - 16524,by omega,U2_iff.2 (.inl (by omega))⟩))
theorem rest2 {n:Nat}{V:Nat → List UInt8}{X:Nat → Ino}{L:Nat → Nat → Nat}{f k p two:Nat}(h:Tree0 n V X L)(hl:Live L f)(hw:16522 ≤ k ∨ L f 16523=two)(hz:two=0 ∨ 16522 ≤ k):decide ((k ≤ p ∧ p < 10) ∨ (10 ≤ p ∧ p < 138) ∨ p=16522)=true ∨ cutL L f k p=L f p:=by
  by_cases e1:(k ≤ p ∧ p < 10) ∨ (10 ≤ p ∧ p < 138) ∨ p=16522
  · left; exact decide_eq_true e1
  right
  by_cases e2:p < 138
  · rw [cutL_index (by omega),if_pos (by omega)]
  by_cases e3:16652 ≤ p
  · have:L f p=0:=Classical.byContradiction fun hne => by have:=(h.inn f p hne).2.1; omega
    rw [cutL_zero this,this]
  by_cases hk:16522 ≤ k
  · have htab:∀ q,16524 ≤ q → q < 16652 → cutL L f k q=L f q:=fun q h1 h2 => keep_tab h hl (by omega) h2 (fun s hs => by rw [kid_tab h1,cutL_index (by omega),if_pos (by omega)])
    by_cases e4:p < 16522
    · rw [cutL_index e4,if_pos (by omega)]
    · by_cases e5:p=16523
      · subst e5
        exact keep_tab h hl (by omega) (by omega) (fun s hs => by rw [kid_two]; exact htab _ (by omega) (by omega))
      · exact htab p (by omega) (by omega)
  · have h2:L f 16523=0:=by
      rcases hw with hw | hw
      · omega
      · rcases hz with hz | hz
        · rw [hw,hz]
        · omega
    have htab:∀ s,s < 128 → L f (16524 + s)=0:=fun s hs => by
      have:=none_tab h (q:=16523) (s:=s) (by omega) (by omega) hs h2
      rwa [kid_two] at this
    have hz:L f p=0:=by
      by_cases e4:p < 16522
      · have:=none_tab h (q:=16524 + (p - 138) / 128) (s:=(p - 138) % 128) (by omega) (by omega) (by omega) (htab _ (by omega))
        rw [kid_tab (by omega),show 138 + 128 * (16524 + (p - 138) / 128 - 16524) + (p - 138) % 128=p by omega] at this
        exact this
      · by_cases e5:p=16523
        · rw [e5]; exact h2
        · have:=htab (p - 16524) (by omega)
          rwa [show 16524 + (p - 16524)=p by omega] at this
    rw [cutL_zero hz,hz]
theorem dec_step {k i r:Nat}(h:k ≤ i)(h10:i < 10):decide (k ≤ r ∧ r < i + 1 ∧ r < 10)=(decide (k ≤ r ∧ r < i ∧ r < 10) || r == i):=by
  refine bool_ext ?_
  rw [Bool.or_eq_true,decide_eq_true_iff,decide_eq_true_iff,beq_iff_eq]
  omega
set_option maxRecDepth 100000 in
theorem cut_d1 (w:World)(ob tb mb t m bb eb yb:Nat)(u:FrameMode)(h:GuardB w ob tb mb t m)(hb:w.cell? ⟨bb,0,none⟩=some (guardV ob tb mb))(he:w.cell? ⟨eb,0,none⟩=some (.int .i64 0)) :
    CallsD Tryz.prog 74 #[.pointer (some ⟨bb,0,none⟩),.pointer (some ⟨eb,0,none⟩),.pointer (some ⟨yb,0,none⟩)] u w fun e u' w' => u'=u ∧ e=.returned (.tuple #[]) ∧ w=w':=by
  have HG:=Lib.hid (guard1_ok w ob tb mb t m h)
  clear h
  go_enter_d Tryz.func74,Tryz.ntmps74
  go_wp2_with (go_at_call 98; refine HG.out.mono ?_; rintro e w' ⟨rfl,rfl⟩)
  go_end0
  exact ⟨rfl,rfl⟩
theorem results_cut {fn:Func}{p r:Tmp}(h:fn.results=#[.cell p 44,.cell r 25])(tmps:Array Value)(w:World)(g1 g3:Nat)(cs:Array Value)(e:Int)(hp:tmps.getD p undef=.pointer (some ⟨g1,0,none⟩))(hr:tmps.getD r undef=.pointer (some ⟨g3,0,none⟩))
    (h1:Is w g1 44 cs)(hs:cs.size=15)(h3:Is w g3 25 #[.int .i64 e]) :
    (results fn tmps).run Tryz.prog w=.ok (.tuple #[.agg cs,.int .i64 e]) w:=by
  have hp':tmps[p]?.getD undef=.pointer (some ⟨g1,0,none⟩):=by simpa using hp
  have hr':tmps[r]?.getD undef=.pointer (some ⟨g3,0,none⟩):=by simpa using hr
  have c3:w.cell? ⟨g3,0,none⟩=some (.int .i64 e):=h3.cell 0
  simp [results,h,hp',hr',asAddr,run_loadVar_row w g1 44 44 cs (0,0) _ h1 Tryz.underlying44 rfl (by rw [hs]; exact size15),run_lv_err w g3 _ c3]
set_option maxRecDepth 100000 in
set_option maxHeartbeats 6400000 in
theorem bcut_any (c:Cx)(w:World)(O:Nat → Prop)(T:Tn)(n:Nat)(he:Env c w O T n)(X:Nat → Ino)(L:Nat → Nat → Nat)(h:Tree0 n (T.view c.D) X L)(f k:Nat)(hf:f < 3)(hlv:Live L f)(hk:k ≤ 16522)
    (S:List Nat)(hS:T.Cov S)(hbm:∀ k,98 ≤ k → k < ino n → k ∈ S)(hSq:∀ q,16522 ≤ q → q < 16652 → (∃ s,s < 128 ∧ L f (kid q s) ≠ 0 ∧ cutL L f k (kid q s)=0) → cutL L f k q ≠ 0 → L f q ∈ S)(h96:S.length ≤ 96)(hT:T.H.length + 20000 ≤ 1000000) :
    Calls Tryz.prog 39 #[.pointer (some ⟨c.t,0,none⟩),geoV n,.agg (X f).C,.int .i64 (k:Int)] w (Cutted c w O T n X L f k S):=by
  obtain ⟨x,hx⟩:∃ x,X f=x:=⟨_,rfl⟩
  rw [hx]
  unfold Ino.C
  obtain ⟨hb0,i0,i1⟩:=two_new w #[.int .i64 (n:Int),.int .i64 98,.int .i64 (ino n:Int),.int .i64 (dat n:Int),.int .i64 (cnt n:Int)] x.C 31 44
  obtain ⟨W1,hW1⟩:∃ W1,(w.alloc (.cells #[.int .i64 (n:Int),.int .i64 98,.int .i64 (ino n:Int),.int .i64 (dat n:Int),.int .i64 (cnt n:Int)] 31)).alloc (.cells x.C 44)=W1:=⟨_,rfl⟩
  have hz1:W1.heap.size=w.heap.size + 2:=by rw [← hW1]; simp [World.size_alloc]
  rw [hW1] at hb0 i0 i1
  obtain ⟨hb1,i2,i3⟩:=two_new W1 zeroC #[.int .i64 0] 44 25
  obtain ⟨W,hW⟩:∃ W,(W1.alloc (.cells zeroC 44)).alloc (.cells #[.int .i64 0] 25)=W:=⟨_,rfl⟩
  have hz3:W.heap.size=w.heap.size + 4:=by rw [← hW]; simp [World.size_alloc,hz1]
  rw [hW] at hb1 i2 i3
  rw [hz1] at i2 i3
  have hbb:=hb0.trans (hb1.mono hb0.size)
  have i0':=i0.below hb1 i0.lt
  have i1':=i1.below hb1 i1.lt
  have hWW:((((w.alloc (.cells #[.int .i64 (n:Int),.int .i64 98,.int .i64 (ino n:Int),.int .i64 (dat n:Int),.int .i64 (cnt n:Int)] 31)).alloc (.cells x.C 44)).alloc (.cells zeroC 44)).alloc (.cells #[.int .i64 0] 25))=W:=by rw [hW1]; exact hW
  unfold Ino.C zeroC at hWW
  have HBB:=Lib.hid hbb
  have HE0:=Lib.hid (he.later hbb)
  have HG:=Lib.hid (guard_any c W O T HE0.out.tx)
  have HHE:=Lib.hid he
  have HH:=Lib.hid h
  have HLV:=Lib.hid hlv
  have HS:=Lib.hid hS
  have HBM:=Lib.hid hbm
  have HSQ:=Lib.hid hSq
  have X0:=Lib.hid i0'
  have X1:=Lib.hid i1'
  have X2:=Lib.hid i2
  have X3:=Lib.hid i3
  have hk1:(0:Int) ≤ (k:Int):=by omega
  have hk2:(k:Int) ≤ 16522:=by omega
  have hwl:=he.wd.lt
  obtain ⟨t,ht⟩:∃ t,c.t=t:=⟨_,rfl⟩
  rw [ht] at HG ⊢
  have HTT:=Lib.hid ht
  clear hW1 hW hb0 hb1 i0 i1 i2 i3 i0' i1' hbb hz1 he h hS hbm hSq ht hlv
  go_enter_defers Tryz.func39,Tryz.ntmps39
  go_wp2_with fail
  go_at_call 64
  refine HG.out.mono ?_
  rintro e w1 ⟨⟨ob,tb,mb,rfl,hgb,g1,g2,g3⟩,hb1⟩
  have hs1:=hb1.size
  have hb2:=below_new w1 (.cells #[guardV ob tb mb] 138)
  have iB:=Is.new w1 138 #[guardV ob tb mb]
  have hG2:=hgb.same (fun k hk => hb2.block k (by rcases hk with rfl | rfl | rfl; exact hgb.o.lt; exact hgb.t.lt; exact hgb.m.lt))
  have hbx:=hb1.trans (hb2.mono hs1)
  have x0:=X0.out.below hbx X0.out.lt
  have x1:=X1.out.below hbx X1.out.lt
  have x2:=X2.out.below hbx X2.out.lt
  have x3:=X3.out.below hbx X3.out.lt
  obtain ⟨W2,hW2⟩:∃ W2,w1.alloc (.cells #[guardV ob tb mb] 138)=W2:=⟨_,rfl⟩
  have hz2:W2.heap.size=w1.heap.size + 1:=by rw [← hW2,World.size_alloc]
  rw [hW2] at hb2 iB hG2 x0 x1 x2 x3 hbx
  have HE2:=Lib.hid (HE0.out.later hbx)
  have HFB2:=Lib.hid (HBB.out.trans (hbx.mono HBB.out.size))
  generalize he3:w.heap.size + 1 + 1 + 1=eb
  generalize he2:w.heap.size + 1 + 1=yb
  generalize he1:w.heap.size + 1=xb
  generalize he0:w.heap.size=gb
  rw [show w.heap.size + 2 + 1=eb by omega] at x3
  rw [show w.heap.size + 2=yb by omega] at x2
  rw [he1] at x1
  rw [he0] at x0
  have d10:W2.cell? ⟨gb,0,none⟩=some (.int .i64 (n:Int)):=x0.cell 0
  have d11:W2.cell? ⟨gb,1,none⟩=some (.int .i64 98):=x0.cell 1
  have d12:W2.cell? ⟨gb,2,none⟩=some (.int .i64 (ino n:Int)):=x0.cell 2
  have d13:W2.cell? ⟨gb,3,none⟩=some (.int .i64 (dat n:Int)):=x0.cell 3
  have d14:W2.cell? ⟨gb,4,none⟩=some (.int .i64 (cnt n:Int)):=x0.cell 4
  have d20:W2.cell? ⟨xb,0,none⟩=some (.int .i64 (x.kind:Int)):=x1.cell 0
  have d21:W2.cell? ⟨xb,1,none⟩=some (.int .i64 (x.links:Int)):=x1.cell 1
  have d22:W2.cell? ⟨xb,2,none⟩=some (.int .i64 (x.size:Int)):=x1.cell 2
  have d23:W2.cell? ⟨xb,3,none⟩=some (.int .i64 (x.num 0:Int)):=x1.cell 3
  have d24:W2.cell? ⟨xb,4,none⟩=some (.int .i64 (x.num 1:Int)):=x1.cell 4
  have d25:W2.cell? ⟨xb,5,none⟩=some (.int .i64 (x.num 2:Int)):=x1.cell 5
  have d26:W2.cell? ⟨xb,6,none⟩=some (.int .i64 (x.num 3:Int)):=x1.cell 6
  have d27:W2.cell? ⟨xb,7,none⟩=some (.int .i64 (x.num 4:Int)):=x1.cell 7
  have d28:W2.cell? ⟨xb,8,none⟩=some (.int .i64 (x.num 5:Int)):=x1.cell 8
  have d29:W2.cell? ⟨xb,9,none⟩=some (.int .i64 (x.num 6:Int)):=x1.cell 9
  have d210:W2.cell? ⟨xb,10,none⟩=some (.int .i64 (x.num 7:Int)):=x1.cell 10
  have d211:W2.cell? ⟨xb,11,none⟩=some (.int .i64 (x.num 8:Int)):=x1.cell 11
  have d212:W2.cell? ⟨xb,12,none⟩=some (.int .i64 (x.num 9:Int)):=x1.cell 12
  have d213:W2.cell? ⟨xb,13,none⟩=some (.int .i64 (x.num 10:Int)):=x1.cell 13
  have d214:W2.cell? ⟨xb,14,none⟩=some (.int .i64 (x.num 11:Int)):=x1.cell 14
  have X2:=Lib.hid x2
  have X3:=Lib.hid x3
  have IB:=Lib.hid iB
  have HG2:=Lib.hid hG2
  clear x0 x1 x2 x3 iB hG2 hgb hb1 hb2 hbx X0 X1
  obtain ⟨hb4,iF,iP⟩:=two_new W2 (fileC t n x) #[.pointer (some ⟨w1.heap.size + 1,0,none⟩)] 142 140
  rw [hz2] at iF iP
  have HB4:=Lib.hid hb4
  have HIF:=Lib.hid iF
  have HIP:=Lib.hid iP
  clear hb4 iF iP
  go_wp2_with fail
  obtain ⟨W4,hW4⟩:∃ W4,(W2.alloc (.cells (fileC t n x) 142)).alloc (.cells #[.pointer (some ⟨w1.heap.size + 1,0,none⟩)] 140)=W4:=⟨_,rfl⟩
  have hW4':=hW4
  unfold fileC at hW4'
  rw [hW4']
  rw [hW4] at HB4 HIF HIP
  clear hW4 hW4'
  obtain ⟨G,hG⟩:∃ G,w1.heap.size + 1 + 1=G:=⟨_,rfl⟩
  rw [hG] at HIP ⊢
  obtain ⟨F,hF⟩:∃ F,w1.heap.size + 1=F:=⟨_,rfl⟩
  rw [hF] at HIF HIP ⊢
  have hGF:F < G:=by omega
  have hE4:=HE2.out.later HB4.out
  have hF4:FileAt W4 F c.t n (X f):=by rw [hx,HTT.out]; exact HIF.out
  have hyl:=X2.out.lt
  have hel:=X3.out.lt
  have hbl:=IB.out.lt
  have hs4:=HB4.out.size
  have hs0:=HFB2.out.size
  have hGl:=HIP.out.lt
  have hFl:=hF4.lt
  have hz4:W2.heap.size=F:=by omega
  have hno:∀ g,w.heap.size ≤ g → ¬ O g:=fun g hg => HHE.out.tx.out hg
  have HNO:=Lib.hid hno
  have oF:=hno F (by omega)
  have oG:=hno G (by omega)
  have HI0:=Lib.hid (show CutI c w O T n X L f k S W4 F W4 O T X (fun _ => false) 0 from
    ⟨⟨hE4,Fr.of_below (HFB2.out.trans (HB4.out.mono hs0)),by rw [show Lp L f k (fun _ => false)=L from by funext g p; unfold Lp; simp]; exact HH.out.same (fun _ _ e => e.elim) (fun _ _ e => e.2.elim),fun _ _ _ => rfl,HS.out,Tn.Ext.refl T,Nat.le_refl _⟩,FrX.of_below (Below.refl _ _),hF4,fun _ _ => rfl,rfl,rfl,rfl⟩)
  have hord:yb < F ∧ eb < F ∧ w1.heap.size < F ∧ yb < w1.heap.size ∧ eb < w1.heap.size ∧ yb < eb:=by omega
  clear hE4 hF4 hno hz4
  have HGG:=Lib.hid (And.intro hG hF)
  clear hG hF
  have HLOW:=Lib.hid hwl
  clear hwl
  go_loopw [12] (fun v wr => ∃ i:Nat,k ≤ i ∧ (i ≤ 10 ∨ i=k) ∧ v=.int .i64 (i:Int) ∧ ∃ Oi Ti Xi,CutI c w O T n X L f k S W4 F wr Oi Ti Xi (fun p => decide (k ≤ p ∧ p < i ∧ p < 10)) (i - k)) (fun v _ => 10 - (intOf v).toNat)
  case atStart =>
    exact ⟨k,Nat.le_refl _,.inr rfl,rfl,O,T,X,HI0.out.skip (fun p e => by cases e) (fun p e => by have:=of_decide_eq_true e; omega) (by omega)⟩
  case round =>
    obtain ⟨i,hki,hi,rfl,Oi,Ti,Xi,hI⟩:=hrel
    have HI:=Lib.hid hI
    have d0:wr.cell? ⟨G,0,none⟩=some (.pointer (some ⟨F,0,none⟩)):=(HIP.out.frX hI.fx oG (by omega)).cell 0
    by_cases hlt:i < 10
    · obtain ⟨num,hnum⟩:∃ num,L f i=num:=⟨_,rfl⟩
      have hPi:decide (k ≤ i ∧ i < i ∧ i < 10)=false:=by rw [decide_eq_false_iff_not]; omega
      have hpar:par i=16652:=by unfold par; rw [if_pos hlt]
      have hsl:slot i=i:=by unfold slot; rw [if_pos hlt]
      have hlp:Lp L f k (fun p => decide (k ≤ p ∧ p < i ∧ p < 10)) f i=num:=(Lp_out (p:=i) hPi).trans hnum
      have hx:(Xi f).num i=num:=by
        have:=hI.st.tree.ref f i hf (by omega) (fun e => e.2)
        rw [refn_root hpar,hsl,hlp] at this
        exact this.symm
      have hc:wr.cell? ⟨F,9 + i,none⟩=some (.int .i64 (num:Int)):=by rw [← hx]; exact (hI.file.cell (9 + i)).trans (fileC_num _ _ _ _ (by omega))
      have hlt2:(i:Int) < 10:=by omega
      have hge2:(0:Int) ≤ (i:Int):=by omega
      have HX:=Lib.hid (And.intro hnum (And.intro hPi (And.intro hpar (And.intro hsl (And.intro hlp hx)))))
      clear hI hPi hpar hsl hx hnum
      by_cases hz:num=0
      · have hzb:((num:Int) != 0)=false:=by rw [bne_eq_false_iff_eq]; omega
        go_wp2_with fail
        case roundEnd =>
        obtain ⟨hnum,hPi,hpar,hsl,hlp,hx⟩:=HX.out
        refine ⟨⟨i + 1,by omega,.inl (by omega),by go_num,Oi,Ti,Xi,HI.out.skip (fun p hp => ?_) (fun p hp => ?_) (by omega)⟩,by simp [intOf]; omega⟩
        · have:=of_decide_eq_true hp; exact decide_eq_true (by omega)
        · have h1:=of_decide_eq_true hp
          by_cases e:p=i
          · right; rw [e,hnum,hz]; exact cutL_zero (hnum.trans hz)
          · left; exact decide_eq_true (by omega)
      · have hzb:((num:Int) != 0)=true:=by rw [bne_iff_ne]; omega
        obtain ⟨hnum,hPi,hpar,hsl,hlp,hx⟩:=HX.out
        obtain ⟨_,_,na,nb⟩:=HI.out.st.tree.inn f i (by rw [hlp]; exact hz)
        rw [hlp] at na nb
        have hbit:=(HI.out.st.tree.bits num na nb).2 ⟨f,i,hlp⟩
        have hbmS:=HBM.out (98 + num / 4096) (by omega) (bm_lt HI.out.st.env.hn nb)
        have hdr:=HI.out.st.env.later (Below.refl _ wr).drew
        have hFr:FileAt wr.drew F c.t n (Xi f):=HI.out.file.drew
        have hlen:=HI.out.st.len
        have HGV:=Lib.hid (fgive_any c _ Oi Ti n hdr (Xi f) F num hFr na nb hbit S HI.out.st.cov hbmS h96 (by omega))
        unfold Wrote at HGV
        have HBS:=Lib.hid hbmS
        clear hbit hdr hFr hnum hPi hpar hsl hlp hx hbmS na nb
        go_wp2_with fail
        go_still_tail 8,(by kernel_rfl)
        go_wp2_with (
          go_at_call 75
          refine HGV.out.mono ?_
          rintro e w2 ⟨rfl,O2,hT2,hF2⟩
          have hF2:=(Fr.of_below (Below.refl _ _).drew).trans hF2
          have HT2:=Lib.hid hT2
          have HF2:=Lib.hid hF2
          have hfx2:=HI.out.fx.trans (FrX.of_fr hF2)
          have d02:w2.cell? ⟨G,0,none⟩=some (.pointer (some ⟨F,0,none⟩)):=(HIP.out.frX hfx2 oG (by omega)).cell 0
          have HFi:=Lib.hid (Is.fr HI.out.file hF2 (HI.out.fx.out hFl oF))
          have ff2:=HFi.out.free (9 + i)
          have cf2:w2.cell? ⟨F,9 + i,none⟩=some (.int .i64 (num:Int)):=by rw [← HX.out.2.2.2.2.2]; exact (HFi.out.cell (9 + i)).trans (fileC_num _ _ _ _ (by omega))
          clear hT2 hF2 hfx2)
        case roundEnd =>
        obtain ⟨hnum,hPi,hpar,hsl,hlp,hx⟩:=HX.out
        have hcz:cutL L f k i=0:=by rw [cutL_index (by omega),if_neg (by omega)]
        have hst2:=HI.out.st.give (P2:=fun p => decide (k ≤ p ∧ p < i + 1 ∧ p < 10)) (E2:=fun r => r=i) hPi (by rw [hnum]; exact hz) hcz (fun r hr e => absurd e (no_kids (by omega) hr)) (fun r => dec_step hki (by omega)) (by rw [hnum]; exact HBS.out) (by rw [hnum]; exact HT2.out) HF2.out (fun r => ⟨fun e => .inr e,fun e => e.elim (fun e => e.elim) id⟩)
        have hI2:=CutI.root0 hst2 (HI.out.fx.trans (FrX.of_fr HF2.out)) HFi.out HI.out.xs HI.out.same (HF2.out.out HI.out.file.lt (HI.out.fx.out hFl oF)) (by omega) HLOW.out hpar (by omega) hsl (by exact decide_eq_true (by omega)) hcz (fun r => Iff.rfl) (by omega)
        exact ⟨⟨i + 1,by omega,.inl (by omega),by go_num,_,_,_,hI2.skip (fun p hp => hp) (fun p hp => .inl hp) (by omega)⟩,by simp [intOf]; omega⟩
    · have hI1 := HI.out.skip (P2:=fun p => decide (k ≤ p ∧ p < 10)) (m2:=10) (fun p hp => by have:=of_decide_eq_true hp; exact decide_eq_true (by omega)) (fun p hp => by have:=of_decide_eq_true hp; exact .inl (decide_eq_true (by omega))) (by omega)
      have H1:=Lib.hid hI1
      have hge:¬ (i:Int) < 10:=by omega
      clear HI hI hI1 hi
      have hone:L f 16522=(Xi f).num 10:=by
        have:=H1.out.st.tree.ref f 16522 hf (by omega) (fun e => e.2)
        rw [refn_root (by decide),show slot 16522=10 by decide,Lp_out (by exact decide_eq_false (by omega))] at this
        exact this
      have htwo:L f 16523=(Xi f).num 11:=by
        have:=H1.out.st.tree.ref f 16523 hf (by omega) (fun e => e.2)
        rw [refn_root (by decide),show slot 16523=11 by decide,Lp_out (by exact decide_eq_false (by omega))] at this
        exact this
      have HON:=Lib.hid hone
      have HTW:=Lib.hid htwo
      clear hone htwo
      have c19:wr.cell? ⟨F,19,none⟩=some (.int .i64 ((Xi f).num 10:Int)):=H1.out.file.cell 19
      go_upto_region 14 with fail
      go_cut [75] from 66 to 75 (fun s75 wx => s75=.bool (decide (k < 138 ∧ (Xi f).num 10 ≠ 0)) ∧ wr=wx)
      case first =>
       by_cases h138:k < 138
       · have h138i:(k:Int) < 138:=by omega
         by_cases h1z:(Xi f).num 10=0
         · have h1b:(((Xi f).num 10:Int) != 0)=false:=by rw [bne_eq_false_iff_eq]; omega
           have HZ1:=Lib.hid h1z
           clear h1z
           go_wp2_with fail
           go_meet
           exact ⟨by rw [decide_eq_false (fun e => e.2 HZ1.out)],rfl⟩
         · have h1b:(((Xi f).num 10:Int) != 0)=true:=by rw [bne_iff_ne]; omega
           have HZ1:=Lib.hid h1z
           clear h1z
           go_wp2_with fail
           go_meet
           exact ⟨by rw [decide_eq_true ⟨h138,HZ1.out⟩],rfl⟩
       · have h138i:¬ (k:Int) < 138:=by omega
         go_wp2_with fail
         go_meet
         exact ⟨by rw [decide_eq_false (fun e => h138 e.1)],rfl⟩
      case rest =>
      obtain ⟨rfl,rfl⟩:=hcut
      obtain ⟨bo,hbo⟩:∃ bo,decide (k < 138 ∧ (Xi f).num 10 ≠ 0)=bo:=⟨_,rfl⟩
      rw [hbo]
      go_upto_if 75 with fail
      go_cut [14] from 14 to 99 (fun s14 wx => ∃ Oa Ta Xa,CutI c w O T n X L f k S W4 F wx Oa Ta Xa (fun p => decide ((k ≤ p ∧ p < 10) ∨ (10 ≤ p ∧ p < 138) ∨ p=16522)) 139)
      case first =>
       cases bo with
       | true =>
         obtain ⟨h138a,h1z⟩:=of_decide_eq_true hbo
         clear hbo
         have u10:=IntWalk.i64_in (n:=(k:Int) - 10) (by omega)
         have hdr:=H1.out.st.later (Below.refl _ wr).drew
         have hoF1:=H1.out.fx.out hFl oF
         have HC1:=Lib.hid (cut1_any c w O T n Xi X L f k S wr.drew Oi Ti (fun p => decide (k ≤ p ∧ p < 10)) (fun _ => False) 10 hdr HH.out hf (Xi f) F 16522 ((Xi f).num 10) ((k:Int) - 10) H1.out.file.drew hoF1 (by omega) (by omega) (by omega) (by exact decide_eq_false (by omega)) (fun s hs => by rw [kid_one]; exact decide_eq_false (by omega)) (fun p e => e.elim) HON.out h1z (fun s hs => by rw [kid_one]; omega) HBM.out (fun q1 q2 => by rw [← HON.out]; exact HSQ.out 16522 (by omega) (by omega) q1 q2) h96 hT (by omega) HLOW.out)
         unfold CutDone at HC1
         have c19:wr.cell? ⟨F,19,none⟩=some (.int .i64 ((Xi f).num 10:Int)):=H1.out.file.cell 19
         clear hdr hoF1
         by_cases hg1:cutL L f k 16522=0
         · rw [decide_eq_false (fun e => e hg1)] at HC1
           have HGY:=Lib.hid hg1
           clear hg1 h1z
           go_wp2_with fail
           go_region_held3 (fun w' => w'.cell? ⟨G,0,none⟩=some (.pointer (some ⟨F,0,none⟩)) ∧ w'.cell? ⟨F,19,none⟩=some (.int .i64 ((Xi f).num 10:Int))) (first | exact ⟨d0,c19⟩ | exact HSK.out) (first
             | (go_at_call 76
                refine HC1.out.mono ?_
                rintro e wy ⟨rfl,OY,TY,hSz,hFz⟩
                have HSZ:=Lib.hid hSz
                have HFZ:=Lib.hid ((Fr.of_below (Below.refl _ wr).drew).trans hFz)
                have HSK:=Lib.hid (show wy.cell? ⟨G,0,none⟩=some (.pointer (some ⟨F,0,none⟩)) ∧ wy.cell? ⟨F,19,none⟩=some (.int .i64 ((Xi f).num 10:Int)) from ⟨(HIP.out.frX (H1.out.fx.trans (FrX.of_fr HFZ.out)) oG (by omega)).cell 0,(Is.fr H1.out.file HFZ.out (H1.out.fx.out hFl oF)).cell 19⟩)
                clear hSz hFz))
           have hSz:=HSZ.out
           have hFz2:=HFZ.out
           have hfy:=H1.out.fx.trans (FrX.of_fr hFz2)
           have hFy:FileAt wy F c.t n (Xi f):=Is.fr H1.out.file hFz2 (H1.out.fx.out hFl oF)
           have hoy:¬ OY F:=hfy.out hFl oF
           have HA:=Lib.hid (CutI.skip (P2:=fun p => decide ((k ≤ p ∧ p < 10) ∨ (10 ≤ p ∧ p < 138) ∨ p=16522)) (m2:=139) (CutI.root0 (X:=X) hSz hfy hFy H1.out.xs H1.out.same hoy (by omega) HLOW.out (p:=16522) (s:=10) (by decide) (by omega) (by decide) (by show (_ || _)=true; simp) HGY.out (fun r => ⟨fun e => e.elim (fun e => e.elim) (fun e => e.1),fun e => .inr ⟨e,HGY.out⟩⟩) (by omega)) (fun p hp => by rw [← one_P]; exact hp) (fun p hp => .inl (by rw [← one_P] at hp; exact hp)) (by omega))
           have hf19:=hFy.free 19
           have cy19:wy.cell? ⟨F,19,none⟩=some (.int .i64 ((Xi f).num 10:Int)):=hFy.cell 19
           obtain ⟨wa,hwa⟩:∃ wa,wy.setCell ⟨F,19,none⟩ (.int .i64 0)=wa:=⟨_,rfl⟩
           rw [show (9 + 10:Nat)=19 from rfl,hwa] at HA
           have HTX:=Lib.hid (show L f 16523=((updX Xi f ((Xi f).set 10 0)) f).num 11 by rw [updX_same,Ino.set_other _ _ _ (by omega)]; exact HTW.out)
           obtain ⟨XA,hXA⟩:∃ XA,updX Xi f ((Xi f).set 10 0)=XA:=⟨_,rfl⟩
           rw [hXA] at HA HTX
           have d0y:wy.cell? ⟨G,0,none⟩=some (.pointer (some ⟨F,0,none⟩)):=(HIP.out.frX hfy oG (by omega)).cell 0
           have d0:wa.cell? ⟨G,0,none⟩=some (.pointer (some ⟨F,0,none⟩)):=(HIP.out.frX HA.out.fx oG (by omega)).cell 0
           have c20:wa.cell? ⟨F,20,none⟩=some (.int .i64 ((XA f).num 11:Int)):=HA.out.file.cell 20
           clear hSz hFz2 hfy hFy hoy hXA c19 HSZ HSK HFZ
           go_wp2_with fail
           go_meet
           exact ⟨OY,TY,XA,HA.out⟩
         · rw [decide_eq_true hg1] at HC1
           have HGY:=Lib.hid hg1
           clear hg1 h1z
           go_wp2_with fail
           go_region_held3 (fun w' => w'.cell? ⟨G,0,none⟩=some (.pointer (some ⟨F,0,none⟩)) ∧ w'.cell? ⟨F,19,none⟩=some (.int .i64 ((Xi f).num 10:Int))) (first | exact ⟨d0,c19⟩ | exact HSK.out) (first
             | (go_at_call 76
                refine HC1.out.mono ?_
                rintro e wa ⟨rfl,OY,TY,hSz,hFz⟩
                have HSZ:=Lib.hid hSz
                have HFZ:=Lib.hid ((Fr.of_below (Below.refl _ wr).drew).trans hFz)
                have HSK:=Lib.hid (show wa.cell? ⟨G,0,none⟩=some (.pointer (some ⟨F,0,none⟩)) ∧ wa.cell? ⟨F,19,none⟩=some (.int .i64 ((Xi f).num 10:Int)) from ⟨(HIP.out.frX (H1.out.fx.trans (FrX.of_fr HFZ.out)) oG (by omega)).cell 0,(Is.fr H1.out.file HFZ.out (H1.out.fx.out hFl oF)).cell 19⟩)
                clear hSz hFz))
           have hSz:=HSZ.out
           have hFz2:=HFZ.out
           have HA:=Lib.hid (show CutI c w O T n X L f k S W4 F wa OY TY Xi (fun p => decide ((k ≤ p ∧ p < 10) ∨ (10 ≤ p ∧ p < 138) ∨ p=16522)) 139 from ⟨hSz.skip (E2:=fun _ => False) (m2:=139) (fun p hp => by rw [← one_P]; exact hp) (fun p hp => .inl (by rw [← one_P] at hp; exact hp)) (fun p => ⟨fun e => e.elim id (fun e => HGY.out e.2),fun e => e.elim⟩) (by omega),H1.out.fx.trans (FrX.of_fr hFz2),Is.fr H1.out.file hFz2 (H1.out.fx.out hFl oF),H1.out.xs,H1.out.same⟩)
           have d0:wa.cell? ⟨G,0,none⟩=some (.pointer (some ⟨F,0,none⟩)):=(HIP.out.frX HA.out.fx oG (by omega)).cell 0
           have c20:wa.cell? ⟨F,20,none⟩=some (.int .i64 ((Xi f).num 11:Int)):=HA.out.file.cell 20
           clear hSz hFz2 c19 HSZ HSK HFZ
           go_wp2_with fail
           go_meet
           exact ⟨OY,TY,Xi,HA.out⟩
       | false =>
         have h138:=of_decide_eq_false hbo
         clear hbo
         have HA:=Lib.hid (H1.out.skip (P2:=fun p => decide ((k ≤ p ∧ p < 10) ∨ (10 ≤ p ∧ p < 138) ∨ p=16522)) (m2:=139) (fun p hp => by have:=of_decide_eq_true hp; exact decide_eq_true (by omega)) (fun p hp => rest1 HH.out HLV.out (by
           rcases Nat.lt_or_ge k 138 with e | e
           · exact .inr (HON.out.trans (Classical.byContradiction fun e2 => h138 ⟨e,e2⟩))
           · exact .inl e) (of_decide_eq_true hp)) (by omega))
         clear h138
         go_wp2_with fail
         go_meet
         exact ⟨_,_,_,HA.out⟩
      case rest =>
       obtain ⟨Oa,Ta,Xa,hA⟩:=hcut
       have HA:=Lib.hid hA
       clear hA HON HTW H1
       obtain ⟨wa,hwa⟩:∃ wa,wa=wc:=⟨_,rfl⟩
       subst hwa
       have d0:wa.cell? ⟨G,0,none⟩=some (.pointer (some ⟨F,0,none⟩)):=(HIP.out.frX HA.out.fx oG (by omega)).cell 0
       have HTW:=Lib.hid (show L f 16523=(Xa f).num 11 by
         have:=HA.out.st.tree.ref f 16523 hf (by omega) (fun e => e.2)
         rw [refn_root (by decide),show slot 16523=11 by decide,Lp_out (by exact decide_eq_false (by omega))] at this
         exact this)
       have c20:wa.cell? ⟨F,20,none⟩=some (.int .i64 ((Xa f).num 11:Int)):=HA.out.file.cell 20
       go_upto_region 20 with fail
       go_cut [109] from 100 to 109 (fun s109 wx => s109=.bool (decide (k < 16522 ∧ (Xa f).num 11 ≠ 0)) ∧ wa=wx)
       case first =>
        by_cases h2k:k < 16522
        · have h2ki:(k:Int) < 16522:=by omega
          by_cases h2z:(Xa f).num 11=0
          · have h2b:(((Xa f).num 11:Int) != 0)=false:=by rw [bne_eq_false_iff_eq]; omega
            have HZ1:=Lib.hid h2z
            clear h2z
            go_wp2_with fail
            go_meet
            exact ⟨by rw [decide_eq_false (fun e => e.2 HZ1.out)],rfl⟩
          · have h2b:(((Xa f).num 11:Int) != 0)=true:=by rw [bne_iff_ne]; omega
            have HZ1:=Lib.hid h2z
            clear h2z
            go_wp2_with fail
            go_meet
            exact ⟨by rw [decide_eq_true ⟨h2k,HZ1.out⟩],rfl⟩
        · have h2ki:¬ (k:Int) < 16522:=by omega
          go_wp2_with fail
          go_meet
          exact ⟨by rw [decide_eq_false (fun e => h2k e.1)],rfl⟩
       case rest =>
       obtain ⟨rfl,rfl⟩:=hcut
       obtain ⟨bo2,hbo2⟩:∃ bo,decide (k < 16522 ∧ (Xa f).num 11 ≠ 0)=bo:=⟨_,rfl⟩
       rw [hbo2]
       go_upto_if 109 with fail
       go_cut [17] from 14 to 135 (fun s17 wx => ∃ Oz Tz Xz,CutI c w O T n X L f k S W4 F wx Oz Tz Xz (fun _ => true) 17000)
       case first =>
        cases bo2 with
        | true =>
          obtain ⟨h2k,h2z⟩:=of_decide_eq_true hbo2
          clear hbo2
          obtain ⟨fi,hfi⟩:∃ fi:Nat,fi=k - 138:=⟨_,rfl⟩
          have hfk:(if (0:Int) < (k:Int) - 138 then (k:Int) - 138 else 0)=(fi:Int):=by split <;> omega
          have hmax:=fun W => run_max_ii 0 ((k:Int) - 138) (fi:Int) hfk W
          have u138:=IntWalk.i64_in (n:=(k:Int) - 138) (by omega)
          obtain ⟨fq,hfq⟩:∃ fq:Nat,(fi:Int) / 128=(fq:Int):=⟨fi / 128,by omega⟩
          have hfq2:(fi:Int).tdiv 128=(fq:Int):=by rw [Int.tdiv_eq_ediv_of_nonneg (by omega)]; exact hfq
          have hfq3:=IntWalk.i64_in (n:=(fq:Int)) (by omega)
          have hfq4:IntKind.i64.wrap ((fi:Int).tdiv 128)=(fq:Int):=by rw [hfq2]; exact hfq3
          have hfq5:IntKind.i64.wrap ((fi:Int) / 128)=(fq:Int):=by rw [hfq]; exact hfq3
          obtain ⟨hbm1,ibm⟩:=one_new wa #[.int .i64 (fi:Int)] 3
          obtain ⟨wm,hwm⟩:∃ wm,wa.alloc (.cells #[.int .i64 (fi:Int)] 3)=wm:=⟨_,rfl⟩
          rw [hwm] at hbm1 ibm
          have hms:=hbm1.size
          have hsbl:=ibm.lt
          have hfxm:FrX (·=F) W4 O wm Oa:=HA.out.fx.trans (FrX.of_below hbm1)
          have hflm:FileAt wm F c.t n (Xa f):=Is.below HA.out.file hbm1 HA.out.file.lt
          have d0m:wm.cell? ⟨G,0,none⟩=some (.pointer (some ⟨F,0,none⟩)):=(HIP.out.frX hfxm oG (by omega)).cell 0
          have c20w:wa.cell? ⟨F,20,none⟩=some (.int .i64 ((Xa f).num 11:Int)):=HA.out.file.cell 20
          have c19w:wa.cell? ⟨F,19,none⟩=some (.int .i64 ((Xa f).num 10:Int)):=HA.out.file.cell 19
          have c20m:wm.cell? ⟨F,20,none⟩=some (.int .i64 ((Xa f).num 11:Int)):=hflm.cell 20
          have c16m:wm.cell? ⟨wa.heap.size,0,none⟩=some (.int .i64 (fi:Int)):=ibm.cell 0
          have hstm:=HA.out.st.later (hbm1.trans (Below.refl _ wm).drew)
          have hsm:=HA.out.st.env.tx.out (Nat.le_refl _)
          have hoFm:=HA.out.fx.out hFl oF
          have hoGm:=HA.out.fx.out hGl oG
          have HC2:=Lib.hid (cut2_any c w O T n Xa X L f k S wm.drew Oa Ta (fun p => decide ((k ≤ p ∧ p < 10) ∨ (10 ≤ p ∧ p < 138) ∨ p=16522)) (fun _ => False) 139 hstm HH.out hf HLV.out (Xa f) F G wa.heap.size 16523 ((Xa f).num 11) (fi:Int) (fq:Int) hflm.drew hoFm ⟨((HIP.out.frX hfxm oG (by omega))).drew,ibm.drew⟩ hoGm hsm rfl (by exact decide_eq_false (by omega)) (fun s hs p hp => by rw [U2_iff] at hp; exact decide_eq_false (by omega)) (fun _ e => e) HTW.out h2z ⟨by omega,by omega,fun p hp => by omega⟩ (by omega) HBM.out (fun q h1 h2 => HSQ.out q (by omega) h2) h96 hT (by omega) HLOW.out)
          unfold CutDone at HC2
          have HNF:=Lib.hid (And.intro hfi (And.intro hfxm hbm1))
          have HIM:=Lib.hid hflm
          have HSB:=Lib.hid ibm
          have HSM:=Lib.hid hsm
          clear hfi hfk hfxm hbm1 hflm hstm hsm hoFm hoGm ibm
          by_cases hg2:cutL L f k 16523=0
          · rw [decide_eq_false (fun e => e hg2)] at HC2
            have HGZ:=Lib.hid hg2
            clear hg2 h2z
            go_wp2_with fail
            go_region_held3 (fun w' => w'.cell? ⟨G,0,none⟩=some (.pointer (some ⟨F,0,none⟩)) ∧ w'.cell? ⟨F,20,none⟩=some (.int .i64 ((Xa f).num 11:Int)) ∧ w'.cell? ⟨wa.heap.size,0,none⟩=some (.int .i64 (fi:Int))) (first | exact ⟨d0m,c20m,c16m⟩ | exact HSK.out) (first
              | (go_at_call 76
                 refine HC2.out.mono ?_
                 rintro e wy ⟨rfl,OZ,TZ,hSz,hFz⟩
                 have HSZ:=Lib.hid hSz
                 have HFZ:=Lib.hid ((Fr.of_below (Below.refl _ wm).drew).trans hFz)
                 have HSK:=Lib.hid (show wy.cell? ⟨G,0,none⟩=some (.pointer (some ⟨F,0,none⟩)) ∧ wy.cell? ⟨F,20,none⟩=some (.int .i64 ((Xa f).num 11:Int)) ∧ wy.cell? ⟨wa.heap.size,0,none⟩=some (.int .i64 (fi:Int)) from ⟨(HIP.out.frX (HNF.out.2.1.trans (FrX.of_fr HFZ.out)) oG (by omega)).cell 0,(Is.fr HIM.out HFZ.out (HNF.out.2.1.out hFl oF)).cell 20,(Is.fr HSB.out HFZ.out HSM.out).cell 0⟩)
                 clear hSz hFz))
            obtain ⟨hfi9,hfx9,hbm9⟩:=HNF.out
            have hSz:=HSZ.out
            have hFz2:=HFZ.out
            have hfy:=(hfx9.trans (FrX.of_fr hFz2))
            have hFy:FileAt wy F c.t n (Xa f):=Is.fr HIM.out hFz2 (hfx9.out hFl oF)
            have hoy:¬ OZ F:=hfy.out hFl oF
            have HZ:=Lib.hid (CutI.skip (P2:=fun _ => true) (m2:=17000) (CutI.root0 (X:=X) hSz hfy hFy HA.out.xs HA.out.same hoy (by omega) HLOW.out (p:=16523) (s:=11) (by decide) (by omega) (by decide) (by show (_ || _)=true; simp) HGZ.out (fun r => ⟨fun e => e.elim (fun e => e.elim) (fun e => e.1),fun e => .inr ⟨e,HGZ.out⟩⟩) (by omega)) (fun _ _ => rfl) (fun p _ => rest3 HH.out p) (by omega))
            have hf20:=hFy.free 20
            have cy20:wy.cell? ⟨F,20,none⟩=some (.int .i64 ((Xa f).num 11:Int)):=hFy.cell 20
            obtain ⟨wz,hwz⟩:∃ wz,wy.setCell ⟨F,20,none⟩ (.int .i64 0)=wz:=⟨_,rfl⟩
            rw [show (9 + 11:Nat)=20 from rfl,hwz] at HZ
            have gx0:wz.cell? ⟨F,6,none⟩=some (.int .i64 ((((updX Xa f ((Xa f).set 11 0)) f).kind):Int)):=HZ.out.file.cell 6
            have gx1:wz.cell? ⟨F,7,none⟩=some (.int .i64 ((((updX Xa f ((Xa f).set 11 0)) f).links):Int)):=HZ.out.file.cell 7
            have gx2:wz.cell? ⟨F,8,none⟩=some (.int .i64 ((((updX Xa f ((Xa f).set 11 0)) f).size):Int)):=HZ.out.file.cell 8
            have gx3:wz.cell? ⟨F,9,none⟩=some (.int .i64 ((((updX Xa f ((Xa f).set 11 0)) f).num 0):Int)):=HZ.out.file.cell 9
            have gx4:wz.cell? ⟨F,10,none⟩=some (.int .i64 ((((updX Xa f ((Xa f).set 11 0)) f).num 1):Int)):=HZ.out.file.cell 10
            have gx5:wz.cell? ⟨F,11,none⟩=some (.int .i64 ((((updX Xa f ((Xa f).set 11 0)) f).num 2):Int)):=HZ.out.file.cell 11
            have gx6:wz.cell? ⟨F,12,none⟩=some (.int .i64 ((((updX Xa f ((Xa f).set 11 0)) f).num 3):Int)):=HZ.out.file.cell 12
            have gx7:wz.cell? ⟨F,13,none⟩=some (.int .i64 ((((updX Xa f ((Xa f).set 11 0)) f).num 4):Int)):=HZ.out.file.cell 13
            have gx8:wz.cell? ⟨F,14,none⟩=some (.int .i64 ((((updX Xa f ((Xa f).set 11 0)) f).num 5):Int)):=HZ.out.file.cell 14
            have gx9:wz.cell? ⟨F,15,none⟩=some (.int .i64 ((((updX Xa f ((Xa f).set 11 0)) f).num 6):Int)):=HZ.out.file.cell 15
            have gx10:wz.cell? ⟨F,16,none⟩=some (.int .i64 ((((updX Xa f ((Xa f).set 11 0)) f).num 7):Int)):=HZ.out.file.cell 16
            have gx11:wz.cell? ⟨F,17,none⟩=some (.int .i64 ((((updX Xa f ((Xa f).set 11 0)) f).num 8):Int)):=HZ.out.file.cell 17
            have gx12:wz.cell? ⟨F,18,none⟩=some (.int .i64 ((((updX Xa f ((Xa f).set 11 0)) f).num 9):Int)):=HZ.out.file.cell 18
            have gx13:wz.cell? ⟨F,19,none⟩=some (.int .i64 ((((updX Xa f ((Xa f).set 11 0)) f).num 10):Int)):=HZ.out.file.cell 19
            have gx14:wz.cell? ⟨F,20,none⟩=some (.int .i64 ((((updX Xa f ((Xa f).set 11 0)) f).num 11):Int)):=HZ.out.file.cell 20
            have HYz:=Lib.hid ((X2.out.below HB4.out hyl).frX HZ.out.fx (HNO.out yb (by omega)) (by omega))
            have HEz:=Lib.hid ((X3.out.below HB4.out hel).frX HZ.out.fx (HNO.out eb (by omega)) (by omega))
            have HBz:=Lib.hid ((IB.out.below HB4.out hbl).frX HZ.out.fx (HNO.out w1.heap.size (by omega)) (by omega))
            have d0:wz.cell? ⟨G,0,none⟩=some (.pointer (some ⟨F,0,none⟩)):=(HIP.out.frX HZ.out.fx oG (by omega)).cell 0
            have gz0:wz.cell? ⟨yb,0,none⟩=some (.int .i64 0):=HYz.out.cell 0
            have gf0:=HYz.out.free 0
            have gz1:wz.cell? ⟨yb,1,none⟩=some (.int .i64 0):=HYz.out.cell 1
            have gf1:=HYz.out.free 1
            have gz2:wz.cell? ⟨yb,2,none⟩=some (.int .i64 0):=HYz.out.cell 2
            have gf2:=HYz.out.free 2
            have gz3:wz.cell? ⟨yb,3,none⟩=some (.int .i64 0):=HYz.out.cell 3
            have gf3:=HYz.out.free 3
            have gz4:wz.cell? ⟨yb,4,none⟩=some (.int .i64 0):=HYz.out.cell 4
            have gf4:=HYz.out.free 4
            have gz5:wz.cell? ⟨yb,5,none⟩=some (.int .i64 0):=HYz.out.cell 5
            have gf5:=HYz.out.free 5
            have gz6:wz.cell? ⟨yb,6,none⟩=some (.int .i64 0):=HYz.out.cell 6
            have gf6:=HYz.out.free 6
            have gz7:wz.cell? ⟨yb,7,none⟩=some (.int .i64 0):=HYz.out.cell 7
            have gf7:=HYz.out.free 7
            have gz8:wz.cell? ⟨yb,8,none⟩=some (.int .i64 0):=HYz.out.cell 8
            have gf8:=HYz.out.free 8
            have gz9:wz.cell? ⟨yb,9,none⟩=some (.int .i64 0):=HYz.out.cell 9
            have gf9:=HYz.out.free 9
            have gz10:wz.cell? ⟨yb,10,none⟩=some (.int .i64 0):=HYz.out.cell 10
            have gf10:=HYz.out.free 10
            have gz11:wz.cell? ⟨yb,11,none⟩=some (.int .i64 0):=HYz.out.cell 11
            have gf11:=HYz.out.free 11
            have gz12:wz.cell? ⟨yb,12,none⟩=some (.int .i64 0):=HYz.out.cell 12
            have gf12:=HYz.out.free 12
            have gz13:wz.cell? ⟨yb,13,none⟩=some (.int .i64 0):=HYz.out.cell 13
            have gf13:=HYz.out.free 13
            have gz14:wz.cell? ⟨yb,14,none⟩=some (.int .i64 0):=HYz.out.cell 14
            have gf14:=HYz.out.free 14
            have gez:wz.cell? ⟨eb,0,none⟩=some (.int .i64 0):=HEz.out.cell 0
            have gef:=HEz.out.free 0
            have nye:yb ≠ eb:=by omega
            have ney:eb ≠ yb:=by omega
            have d0y:wy.cell? ⟨G,0,none⟩=some (.pointer (some ⟨F,0,none⟩)):=(HIP.out.frX hfy oG (by omega)).cell 0
            clear hSz hFz2 hfy hFy hoy hfi9 hfx9 hbm9 HSZ HSK HFZ
            go_wp2_with fail
            go_meet
            exact ⟨OZ,TZ,(updX Xa f ((Xa f).set 11 0)),HZ.out⟩
          · rw [decide_eq_true hg2] at HC2
            have HGZ:=Lib.hid hg2
            clear hg2 h2z
            go_wp2_with fail
            go_region_held3 (fun w' => w'.cell? ⟨G,0,none⟩=some (.pointer (some ⟨F,0,none⟩)) ∧ w'.cell? ⟨F,20,none⟩=some (.int .i64 ((Xa f).num 11:Int)) ∧ w'.cell? ⟨wa.heap.size,0,none⟩=some (.int .i64 (fi:Int))) (first | exact ⟨d0m,c20m,c16m⟩ | exact HSK.out) (first
              | (go_at_call 76
                 refine HC2.out.mono ?_
                 rintro e wz ⟨rfl,OZ,TZ,hSz,hFz⟩
                 have HSZ:=Lib.hid hSz
                 have HFZ:=Lib.hid ((Fr.of_below (Below.refl _ wm).drew).trans hFz)
                 have HSK:=Lib.hid (show wz.cell? ⟨G,0,none⟩=some (.pointer (some ⟨F,0,none⟩)) ∧ wz.cell? ⟨F,20,none⟩=some (.int .i64 ((Xa f).num 11:Int)) ∧ wz.cell? ⟨wa.heap.size,0,none⟩=some (.int .i64 (fi:Int)) from ⟨(HIP.out.frX (HNF.out.2.1.trans (FrX.of_fr HFZ.out)) oG (by omega)).cell 0,(Is.fr HIM.out HFZ.out (HNF.out.2.1.out hFl oF)).cell 20,(Is.fr HSB.out HFZ.out HSM.out).cell 0⟩)
                 clear hSz hFz))
            obtain ⟨hfi9,hfx9,hbm9⟩:=HNF.out
            have hSz:=HSZ.out
            have hFz2:=HFZ.out
            have HZ:=Lib.hid (CutI.skip (P2:=fun _ => true) (m2:=17000) (Xi:=Xa) ⟨hSz.skip (P2:=fun p => Pu (fun p => decide ((k ≤ p ∧ p < 10) ∨ (10 ≤ p ∧ p < 138) ∨ p=16522)) U2 128 p || p == 16523) (E2:=fun _ => False) (m2:=17000) (fun p hp => hp) (fun p hp => .inl hp) (fun p => ⟨fun e => e.elim id (fun e => HGZ.out e.2),fun e => e.elim⟩) (by omega),hfx9.trans (FrX.of_fr hFz2),Is.fr HIM.out hFz2 (hfx9.out hFl oF),HA.out.xs,HA.out.same⟩ (fun _ _ => rfl) (fun p _ => rest3 HH.out p) (by omega))
            have gx0:wz.cell? ⟨F,6,none⟩=some (.int .i64 (((Xa f).kind):Int)):=HZ.out.file.cell 6
            have gx1:wz.cell? ⟨F,7,none⟩=some (.int .i64 (((Xa f).links):Int)):=HZ.out.file.cell 7
            have gx2:wz.cell? ⟨F,8,none⟩=some (.int .i64 (((Xa f).size):Int)):=HZ.out.file.cell 8
            have gx3:wz.cell? ⟨F,9,none⟩=some (.int .i64 (((Xa f).num 0):Int)):=HZ.out.file.cell 9
            have gx4:wz.cell? ⟨F,10,none⟩=some (.int .i64 (((Xa f).num 1):Int)):=HZ.out.file.cell 10
            have gx5:wz.cell? ⟨F,11,none⟩=some (.int .i64 (((Xa f).num 2):Int)):=HZ.out.file.cell 11
            have gx6:wz.cell? ⟨F,12,none⟩=some (.int .i64 (((Xa f).num 3):Int)):=HZ.out.file.cell 12
            have gx7:wz.cell? ⟨F,13,none⟩=some (.int .i64 (((Xa f).num 4):Int)):=HZ.out.file.cell 13
            have gx8:wz.cell? ⟨F,14,none⟩=some (.int .i64 (((Xa f).num 5):Int)):=HZ.out.file.cell 14
            have gx9:wz.cell? ⟨F,15,none⟩=some (.int .i64 (((Xa f).num 6):Int)):=HZ.out.file.cell 15
            have gx10:wz.cell? ⟨F,16,none⟩=some (.int .i64 (((Xa f).num 7):Int)):=HZ.out.file.cell 16
            have gx11:wz.cell? ⟨F,17,none⟩=some (.int .i64 (((Xa f).num 8):Int)):=HZ.out.file.cell 17
            have gx12:wz.cell? ⟨F,18,none⟩=some (.int .i64 (((Xa f).num 9):Int)):=HZ.out.file.cell 18
            have gx13:wz.cell? ⟨F,19,none⟩=some (.int .i64 (((Xa f).num 10):Int)):=HZ.out.file.cell 19
            have gx14:wz.cell? ⟨F,20,none⟩=some (.int .i64 (((Xa f).num 11):Int)):=HZ.out.file.cell 20
            have HYz:=Lib.hid ((X2.out.below HB4.out hyl).frX HZ.out.fx (HNO.out yb (by omega)) (by omega))
            have HEz:=Lib.hid ((X3.out.below HB4.out hel).frX HZ.out.fx (HNO.out eb (by omega)) (by omega))
            have HBz:=Lib.hid ((IB.out.below HB4.out hbl).frX HZ.out.fx (HNO.out w1.heap.size (by omega)) (by omega))
            have d0:wz.cell? ⟨G,0,none⟩=some (.pointer (some ⟨F,0,none⟩)):=(HIP.out.frX HZ.out.fx oG (by omega)).cell 0
            have gz0:wz.cell? ⟨yb,0,none⟩=some (.int .i64 0):=HYz.out.cell 0
            have gf0:=HYz.out.free 0
            have gz1:wz.cell? ⟨yb,1,none⟩=some (.int .i64 0):=HYz.out.cell 1
            have gf1:=HYz.out.free 1
            have gz2:wz.cell? ⟨yb,2,none⟩=some (.int .i64 0):=HYz.out.cell 2
            have gf2:=HYz.out.free 2
            have gz3:wz.cell? ⟨yb,3,none⟩=some (.int .i64 0):=HYz.out.cell 3
            have gf3:=HYz.out.free 3
            have gz4:wz.cell? ⟨yb,4,none⟩=some (.int .i64 0):=HYz.out.cell 4
            have gf4:=HYz.out.free 4
            have gz5:wz.cell? ⟨yb,5,none⟩=some (.int .i64 0):=HYz.out.cell 5
            have gf5:=HYz.out.free 5
            have gz6:wz.cell? ⟨yb,6,none⟩=some (.int .i64 0):=HYz.out.cell 6
            have gf6:=HYz.out.free 6
            have gz7:wz.cell? ⟨yb,7,none⟩=some (.int .i64 0):=HYz.out.cell 7
            have gf7:=HYz.out.free 7
            have gz8:wz.cell? ⟨yb,8,none⟩=some (.int .i64 0):=HYz.out.cell 8
            have gf8:=HYz.out.free 8
            have gz9:wz.cell? ⟨yb,9,none⟩=some (.int .i64 0):=HYz.out.cell 9
            have gf9:=HYz.out.free 9
            have gz10:wz.cell? ⟨yb,10,none⟩=some (.int .i64 0):=HYz.out.cell 10
            have gf10:=HYz.out.free 10
            have gz11:wz.cell? ⟨yb,11,none⟩=some (.int .i64 0):=HYz.out.cell 11
            have gf11:=HYz.out.free 11
            have gz12:wz.cell? ⟨yb,12,none⟩=some (.int .i64 0):=HYz.out.cell 12
            have gf12:=HYz.out.free 12
            have gz13:wz.cell? ⟨yb,13,none⟩=some (.int .i64 0):=HYz.out.cell 13
            have gf13:=HYz.out.free 13
            have gz14:wz.cell? ⟨yb,14,none⟩=some (.int .i64 0):=HYz.out.cell 14
            have gf14:=HYz.out.free 14
            have gez:wz.cell? ⟨eb,0,none⟩=some (.int .i64 0):=HEz.out.cell 0
            have gef:=HEz.out.free 0
            have nye:yb ≠ eb:=by omega
            have ney:eb ≠ yb:=by omega
            clear hSz hFz2 hfi9 hfx9 hbm9 HSZ HSK HFZ
            go_wp2_with fail
            go_meet
            exact ⟨OZ,TZ,Xa,HZ.out⟩
        | false =>
          have h2:=of_decide_eq_false hbo2
          clear hbo2
          have HZ:=Lib.hid (HA.out.skip (P2:=fun _ => true) (m2:=17000) (fun _ _ => rfl) (fun p _ => rest2 HH.out HLV.out (two:=(Xa f).num 11) (by
            rcases Nat.lt_or_ge k 16522 with e | e
            · exact .inr HTW.out
            · exact .inl e) (by
            rcases Nat.lt_or_ge k 16522 with e | e
            · exact .inl (Classical.byContradiction fun e2 => h2 ⟨e,e2⟩)
            · exact .inr e)) (by omega))
          clear h2
          go_wp2_with fail
          go_meet
          exact ⟨_,_,_,HZ.out⟩
       case rest =>
        obtain ⟨OZ,TZ,XZ,hZ⟩:=hcut
        have HZ:=Lib.hid hZ
        clear hZ HA d0
        obtain ⟨wz,hwz⟩:∃ wz,wz=wc:=⟨_,rfl⟩
        subst hwz
        have gx0:wz.cell? ⟨F,6,none⟩=some (.int .i64 (((XZ f).kind):Int)):=HZ.out.file.cell 6
        have gx1:wz.cell? ⟨F,7,none⟩=some (.int .i64 (((XZ f).links):Int)):=HZ.out.file.cell 7
        have gx2:wz.cell? ⟨F,8,none⟩=some (.int .i64 (((XZ f).size):Int)):=HZ.out.file.cell 8
        have gx3:wz.cell? ⟨F,9,none⟩=some (.int .i64 (((XZ f).num 0):Int)):=HZ.out.file.cell 9
        have gx4:wz.cell? ⟨F,10,none⟩=some (.int .i64 (((XZ f).num 1):Int)):=HZ.out.file.cell 10
        have gx5:wz.cell? ⟨F,11,none⟩=some (.int .i64 (((XZ f).num 2):Int)):=HZ.out.file.cell 11
        have gx6:wz.cell? ⟨F,12,none⟩=some (.int .i64 (((XZ f).num 3):Int)):=HZ.out.file.cell 12
        have gx7:wz.cell? ⟨F,13,none⟩=some (.int .i64 (((XZ f).num 4):Int)):=HZ.out.file.cell 13
        have gx8:wz.cell? ⟨F,14,none⟩=some (.int .i64 (((XZ f).num 5):Int)):=HZ.out.file.cell 14
        have gx9:wz.cell? ⟨F,15,none⟩=some (.int .i64 (((XZ f).num 6):Int)):=HZ.out.file.cell 15
        have gx10:wz.cell? ⟨F,16,none⟩=some (.int .i64 (((XZ f).num 7):Int)):=HZ.out.file.cell 16
        have gx11:wz.cell? ⟨F,17,none⟩=some (.int .i64 (((XZ f).num 8):Int)):=HZ.out.file.cell 17
        have gx12:wz.cell? ⟨F,18,none⟩=some (.int .i64 (((XZ f).num 9):Int)):=HZ.out.file.cell 18
        have gx13:wz.cell? ⟨F,19,none⟩=some (.int .i64 (((XZ f).num 10):Int)):=HZ.out.file.cell 19
        have gx14:wz.cell? ⟨F,20,none⟩=some (.int .i64 (((XZ f).num 11):Int)):=HZ.out.file.cell 20
        have HYz:=Lib.hid ((X2.out.below HB4.out hyl).frX HZ.out.fx (HNO.out yb (by omega)) (by omega))
        have HEz:=Lib.hid ((X3.out.below HB4.out hel).frX HZ.out.fx (HNO.out eb (by omega)) (by omega))
        have HBz:=Lib.hid ((IB.out.below HB4.out hbl).frX HZ.out.fx (HNO.out w1.heap.size (by omega)) (by omega))
        have d0:wz.cell? ⟨G,0,none⟩=some (.pointer (some ⟨F,0,none⟩)):=(HIP.out.frX HZ.out.fx oG (by omega)).cell 0
        have gz0:wz.cell? ⟨yb,0,none⟩=some (.int .i64 0):=HYz.out.cell 0
        have gf0:=HYz.out.free 0
        have gz1:wz.cell? ⟨yb,1,none⟩=some (.int .i64 0):=HYz.out.cell 1
        have gf1:=HYz.out.free 1
        have gz2:wz.cell? ⟨yb,2,none⟩=some (.int .i64 0):=HYz.out.cell 2
        have gf2:=HYz.out.free 2
        have gz3:wz.cell? ⟨yb,3,none⟩=some (.int .i64 0):=HYz.out.cell 3
        have gf3:=HYz.out.free 3
        have gz4:wz.cell? ⟨yb,4,none⟩=some (.int .i64 0):=HYz.out.cell 4
        have gf4:=HYz.out.free 4
        have gz5:wz.cell? ⟨yb,5,none⟩=some (.int .i64 0):=HYz.out.cell 5
        have gf5:=HYz.out.free 5
        have gz6:wz.cell? ⟨yb,6,none⟩=some (.int .i64 0):=HYz.out.cell 6
        have gf6:=HYz.out.free 6
        have gz7:wz.cell? ⟨yb,7,none⟩=some (.int .i64 0):=HYz.out.cell 7
        have gf7:=HYz.out.free 7
        have gz8:wz.cell? ⟨yb,8,none⟩=some (.int .i64 0):=HYz.out.cell 8
        have gf8:=HYz.out.free 8
        have gz9:wz.cell? ⟨yb,9,none⟩=some (.int .i64 0):=HYz.out.cell 9
        have gf9:=HYz.out.free 9
        have gz10:wz.cell? ⟨yb,10,none⟩=some (.int .i64 0):=HYz.out.cell 10
        have gf10:=HYz.out.free 10
        have gz11:wz.cell? ⟨yb,11,none⟩=some (.int .i64 0):=HYz.out.cell 11
        have gf11:=HYz.out.free 11
        have gz12:wz.cell? ⟨yb,12,none⟩=some (.int .i64 0):=HYz.out.cell 12
        have gf12:=HYz.out.free 12
        have gz13:wz.cell? ⟨yb,13,none⟩=some (.int .i64 0):=HYz.out.cell 13
        have gf13:=HYz.out.free 13
        have gz14:wz.cell? ⟨yb,14,none⟩=some (.int .i64 0):=HYz.out.cell 14
        have gf14:=HYz.out.free 14
        have gez:wz.cell? ⟨eb,0,none⟩=some (.int .i64 0):=HEz.out.cell 0
        have gef:=HEz.out.free 0
        have nye:yb ≠ eb:=by omega
        have ney:eb ≠ yb:=by omega
        go_wp2_with fail
        obtain ⟨w9,hw9,V3,V5,mk2⟩:=cut_fin wz yb eb (XZ f) HYz.out HEz.out (by omega)
        rw [hw9]
        clear hw9
        have ny:¬ OZ yb:=HZ.out.fx.out (by omega) (HNO.out yb (by omega))
        have ne:¬ OZ eb:=HZ.out.fx.out (by omega) (HNO.out eb (by omega))
        have hst9:=HZ.out.st.keeps2 mk2 ny ne (by omega) (by omega) HLOW.out
        have VB:w9.cell? ⟨w1.heap.size,0,none⟩=some (guardV ob tb mb):=(HBz.out.keeps mk2 (by omega)).cell 0
        have VG:GuardB w9 ob tb mb t T.H.length:=by
          refine HG2.out.same (fun k hk => ?_)
          have hkl:k < W2.heap.size:=by rcases hk with rfl | rfl | rfl; exact HG2.out.o.lt; exact HG2.out.t.lt; exact HG2.out.m.lt
          have hkw:w.heap.size + 4 ≤ k:=by rcases hk with rfl | rfl | rfl <;> omega
          have hkF:k ≠ F:=by have:=HGG.out; omega
          have hkz:=HZ.out.fx.size
          exact (mk2.block k (by omega) (by omega)).trans ((HZ.out.fx.block (Nat.lt_of_lt_of_le hkl HB4.out.size) (HNO.out k (by omega)) hkF).trans (HB4.out.block k hkl))
        refine leaves_cons (f:=74) (args := #[.pointer (some ⟨w1.heap.size,0,none⟩),.pointer (some ⟨eb,0,none⟩),.pointer (some ⟨yb,0,none⟩)]) (by simp) (by simp [go_sem]) ?_
        refine (cut_d1 _ ob tb mb t T.H.length w1.heap.size eb yb .returning VG VB (V5.cell 0)).mono ?_
        rintro e u' w' ⟨rfl,rfl,rfl⟩
        exact ⟨.tuple #[.agg (XZ f).C,.int .i64 0],results_cut rfl _ _ yb eb (XZ f).C 0 rfl rfl V3 rfl V5,OZ,TZ,XZ,rfl,hst9,HZ.out.xs,HZ.out.same⟩
end Go.Proofs.YthkijogloebdoaaGreatDoor
end
section
namespace Go.Proofs.YthkijogloebdoaaGreatDoor
open Go.RowKit Go.Maps Rec Gp Fs
def FDone (c:Cx)(w:World)(O:Nat → Prop)(T:Tn)(n:Nat)(Q:Nat → Pl)(S:List Nat)(m f:Nat)(P2:Pl)(code:Int)(e:Ending)(w':World):Prop :=
  e=.returned (.int .i64 code) ∧ ∃ (O':Nat → Prop) (T':Tn) (X':Nat → Ino) (L':Nat → Nat → Nat) (S':List Nat),TxnAt c w' O' T' ∧ Fr w O w' O' ∧ FsIn n (T'.view c.D) X' L' (fun g => if g=f then P2 else Q g) ∧ T'.Cov S' ∧ S'.length ≤ S.length + m ∧ T'.H.length ≤ T.H.length + 20000
theorem FDone.none {c:Cx}{w w':World}{O:Nat → Prop}{T:Tn}{n:Nat}{X:Nat → Ino}{L:Nat → Nat → Nat}{Q:Nat → Pl}{S:List Nat}{m f:Nat}{P2:Pl}{code:Int}(he:Env c w O T n)(h:FsIn n (T.view c.D) X L Q)(hS:T.Cov S)(hb:Below w.heap.size w w')(e:P2=Q f):FDone c w O T n Q S m f P2 code (.returned (.int .i64 code)) w' :=
  ⟨rfl,O,T,X,L,S,(he.later hb).tx,Fr.of_below hb,h.at (fun g hg => by
    by_cases e2:g=f
    · subst e2; rw [if_pos rfl,e]
    · rw [if_neg e2]),hS,Nat.le_add_right _ _,Nat.le_add_right _ _⟩
theorem geo5 {w:World}{gb n:Nat}(h:Is w gb 31 (geoL n)):w.cell? ⟨gb,0,none⟩=some (.int .i64 (n:Int)) ∧ w.cell? ⟨gb,1,none⟩=some (.int .i64 98) ∧ w.cell? ⟨gb,2,none⟩=some (.int .i64 (ino n:Int)) ∧ w.cell? ⟨gb,3,none⟩=some (.int .i64 (dat n:Int)) ∧ w.cell? ⟨gb,4,none⟩=some (.int .i64 (cnt n:Int)) :=
  ⟨h.cell 0,h.cell 1,h.cell 2,h.cell 3,h.cell 4⟩
theorem x15 {w:World}{xb:Nat}{x:Ino}(h:Is w xb 44 x.C):w.cell? ⟨xb,2,none⟩=some (.int .i64 (x.size:Int)):=h.cell 2
theorem wpList_store_row_k {P:Program}{ops:Array Oper}{rest:List Oper}{o:Oper}{a:Act}{w:World}{Q:Exit → Act → World → Prop}(hgd:o.guard=none)(ty:TypeId)(x y:Operand)(ho:o.op=.store ty x y)
    (g:Nat)(cells:Array Value)(hx:a.eval x=.pointer (some ⟨g,0,none⟩))(hy:a.eval y=.agg cells)(t:TypeId)(old:Array Value)(hg:Is w g t old)(hi:(P.info? ty).map (·.size)=some cells.size)(hold:old.size=cells.size)(h1:cells.all (·.oneCell')=true)
    (h:∀ w2,Is w2 g t cells → Keeps (·=g) w w2 → wpList P ops Q rest (a.put o.dst undef) w2):wpList P ops Q (o :: rest) a w :=
  wpList_store_row hgd ty x y ho g cells hx hy t old hg hi hold h1 (h _ (hg.row cells) (keeps_row w g cells))
set_option maxRecDepth 100000 in
theorem fcut_neg (c:Cx)(w:World)(O:Nat → Prop)(T:Tn)(n:Nat)(he:Env c w O T n)(X:Nat → Ino)(L:Nat → Nat → Nat)(Q:Nat → Pl)(h:FsIn n (T.view c.D) X L Q)(f:Nat)(S:List Nat)(hS:T.Cov S)(m:Nat)(z:Int)(hz:z < 0) :
    Calls Tryz.prog 18 #[.pointer (some ⟨c.t,0,none⟩),geoV n,.int .i64 ((f + 2:Nat):Int),.int .i64 z] w (FDone c w O T n Q S m f (Q f) 1):=by
  obtain ⟨hb0,i0,i1⟩:=two_new w #[.int .i64 (n:Int),.int .i64 98,.int .i64 (ino n:Int),.int .i64 (dat n:Int),.int .i64 (cnt n:Int)] #[.int .i64 0] 31 25
  obtain ⟨W,hW⟩:∃ W,(w.alloc (.cells #[.int .i64 (n:Int),.int .i64 98,.int .i64 (ino n:Int),.int .i64 (dat n:Int),.int .i64 (cnt n:Int)] 31)).alloc (.cells #[.int .i64 0] 25)=W:=⟨_,rfl⟩
  rw [hW] at hb0 i0 i1
  have c1:W.cell? ⟨w.heap.size + 1,0,none⟩=some (.int .i64 0):=i1.cell 0
  have f1:=i1.free 0
  have HI1:=Lib.hid i1
  have HF:=Lib.hid (fun w' hb => FDone.none (m:=m) (code:=1) (w':=w') (f:=f) (P2:=Q f) he h hS hb rfl)
  have HB:=Lib.hid hb0
  clear he h hS hb0 i0 i1
  go_enter_defers Tryz.func18,Tryz.ntmps18
  go_wp2_with fail
  have hc:=(HI1.out.put 0 (.int .i64 1)).cell 0
  have hbb:=HB.out.setCell (p:=⟨w.heap.size + 1,0,none⟩) (by show w.heap.size ≤ w.heap.size + 1; omega) (.int .i64 1)
  generalize W.setCell ⟨w.heap.size + 1,0,none⟩ (.int .i64 1)=W2 at hc hbb ⊢
  have hc2:W2.cell? ⟨w.heap.size + 1,0,none⟩=some (.int .i64 1):=hc
  exact ⟨.int .i64 1,by simp [results,Tryz.f18,go_sem,hc2],HF.out _ hbb⟩
end Go.Proofs.YthkijogloebdoaaGreatDoor
end
