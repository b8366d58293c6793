/-
  WholeFiles, the texts Wfb Rb Fgk Nu Ala: lemmas for the proof that three files on one disk are plain rows of bytes. No conditions.
-/
import Derived.Test.YthkijogloebdoaaGreatDoorM16
import Derived.Test.YthkijogloebdoaaGreatDoorM22
import Derived.Test.YthkijogloebdoaaGreatDoorM02
import Derived.Test.YthkijogloebdoaaGreatDoorM08
import Derived.Test.YthkijogloebdoaaGreatDoorM18
import Derived.Test.YthkijogloebdoaaGreatDoorM20
import Derived.Test.YthkijogloebdoaaGreatDoorM17
import Derived.RangeFuncNested
import Derived.Lib.Builder
import Derived.Lib.UnsafeStr
import Derived.Laws.Externs
import Derived.Maps.AppendAt
set_option linter.unusedVariables false
set_option linter.unusedSimpArgs false
section
set_option maxRecDepth 100000
namespace Go.Proofs.YthkijogloebdoaaGreatDoor
open Go.RowKit Go.Maps Rec Gp Fs
theorem DiskAt.foot2 {w:World}{base a d:Nat}{D:Dk}(h:DiskAt w base a d D)(hkeep:D.keep=[]):∃ F:Nat → Prop,(∀ k,F k → k < w.heap.size ∧ Tk w k diskF) ∧ (∀ k,F k → base ≤ k) ∧ ∀ w2,Agree F w w2 → DiskAt w2 base a d D:=by
  obtain ⟨hO,hd,cA,P,cp,K,ck,wr,fl,T,tn,ct,tc,hI,hA,hP,hK,hT,hn⟩:=h
  refine ⟨fun k => k=d ∨ k=a ∨ Of P k ∨ Of T k,fun k hk => ?_,fun k hk => ?_,fun w2 hag => ?_⟩
  · rcases hk with rfl | rfl | hk | hk
    · exact ⟨hI.lt,tk_of hI (by simp [diskF])⟩
    · obtain ⟨_,cur,hi⟩:=hA.typed _ rfl; exact ⟨hi.lt,tk_of hi (by simp [diskF])⟩
    · obtain ⟨_,cur,hi⟩:=hP.typed _ hk; exact ⟨hi.lt,tk_of hi (by simp [diskF])⟩
    · obtain ⟨_,cur,hi⟩:=hT.typed _ hk; exact ⟨hi.lt,tk_of hi (by simp [diskF])⟩
  · rcases hk with rfl | rfl | hk | hk
    · exact hd
    · exact hA.ge _ rfl
    · exact hP.ge _ hk
    · exact hT.ge _ hk
  · have kI:=hag d (by simp)
    exact ⟨hO,hd,cA,P,cp,K,ck,wr,fl,T,tn,ct,tc,kI.trans hI,hA.kept (fun g hg => hag g (by unfold Of at hg; injection hg with hg; injection hg with hg; exact .inr (.inl hg.symm))),hP.kept (fun g hg => hag g (.inr (.inr (.inl hg)))),
      .inl hkeep,hT.kept (fun g hg => hag g (.inr (.inr (.inr hg)))),hn⟩
theorem DiskAt.sect {w:World}{base a d:Nat}{D:Dk}(h:DiskAt w base a d D):Tk w a [72]:=by
  obtain ⟨_,_,cA,P,cp,K,ck,wr,fl,T,tn,ct,tc,hI,hA,_⟩:=h
  obtain ⟨_,cur,hi⟩:=hA.typed _ rfl
  exact tk_of hi (by simp)
def BF (w:World)(O:Nat → Prop)(g:Nat)(t:TypeId)(cs:Array Value):Prop:=Is w g t cs ∧ ¬ O g
def RF (w:World)(O:Nat → Prop)(base:Nat)(e:TypeId)(size:Nat)(v:Value)(n:Nat)(xs:List Value):Prop:=w.ownsRow base e size v n xs ∧ ∀ g,v.ownBlock=some g → ¬ O g
def Away (w w2:World)(O O2:Nat → Prop):Prop:=w.heap.size ≤ w2.heap.size ∧ ∀ k,k < w.heap.size → ¬ O k → ¬ Tk w k fileT → w2.heap[k]? = w.heap[k]? ∧ ¬ O2 k
section
variable {w w2 w3:World}{O O2 O3:Nat → Prop}
theorem Away.trans (h:Away w w2 O O2)(k:Away w2 w3 O2 O3):Away w w3 O O3:=⟨Nat.le_trans h.1 k.1,fun j h1 h2 h3 => by
  obtain ⟨e,o⟩:=h.2 j h1 h2 h3
  obtain ⟨e2,o2⟩:=k.2 j (by have:=h.1; omega) o (fun ⟨cs,t,f,q1,q2⟩ => h3 ⟨cs,t,f,e ▸ q1,q2⟩)
  exact ⟨e2.trans e,o2⟩⟩
theorem Away.fr (f:Fr w O w2 O2):Away w w2 O O2:=⟨f.1.size,fun k hk hn _ => ⟨f.1.block k hk hn,f.out hk hn⟩⟩
theorem Away.below (b:Below w.heap.size w w2):Away w w2 O O:=⟨b.size,fun k hk hn _ => ⟨b.block k hk,hn⟩⟩
theorem BF.away {g:Nat}{t:TypeId}{cs:Array Value}(h:BF w O g t cs)(ht:t ∉ fileT)(a:Away w w2 O O2):BF w2 O2 g t cs:=by
  obtain ⟨e,o⟩:=a.2 g h.1.lt h.2 (not_tk_is h.1 ht)
  exact ⟨e.trans h.1,o⟩
theorem RF.away {base n size:Nat}{e:TypeId}{v:Value}{xs:List Value}(h:RF w O base e size v n xs)(ht:e ∉ fileT)(a:Away w w2 O O2):RF w2 O2 base e size v n xs:=by
  obtain ⟨h1,h2⟩:=h
  obtain ⟨hl,hh⟩:=h1
  rcases hh with q | ⟨g,cap,cur,hv,hb,hg,r⟩
  · exact ⟨⟨hl,.inl q⟩,fun g hg => by rw [q.1] at hg; cases hg⟩
  · have hlt:g < w.heap.size:=(Array.getElem?_eq_some_iff.1 hg).1
    have ho:=h2 g (by rw [hv]; rfl)
    obtain ⟨e2,o⟩:=a.2 g hlt ho (fun ⟨cs,t,f,q1,q2⟩ => by
      rw [q1] at hg
      injection hg with hg
      injection hg with _ hg
      subst hg
      exact ht q2)
    exact ⟨⟨hl,.inr ⟨g,cap,cur,hv,hb,e2.trans hg,r⟩⟩,fun g' hg' => by rw [hv] at hg'; injection hg' with hg'; rw [← hg']; exact o⟩
theorem PQ.away {ms:Nat → Nat}{Q:Nat → Pl}(h:PQ w O ms Q)(a:Away w w2 O O2):PQ w2 O2 ms Q:=h.move a.1 a.2
end
theorem HalfAt.same {w w2:World}(h:HalfAt w)(e:w2.heap[1]? = w.heap[1]?):HalfAt w2:=fun i hi => (World.cell?_of_block (a:=⟨1,i,none⟩) e).trans (h i hi)
structure Hold (n hb m:Nat)(w:World)(c:Cx)(O:Nat → Prop)(T:Tn)(X:Nat → Ino)(L:Nat → Nat → Nat)(Q:Nat → Pl)(S:List Nat):Prop where
  env:Env c w O T n
  half:HalfAt w
  ho:¬ O 1
  glob:1 < c.base ∧ 0 < c.base
  bt:c.base ≤ c.t
  fs:FsIn n (T.view c.D) X L Q
  cov:T.Cov S
  hist:T.H.length ≤ hb
  rest:RestD n m c.D
section
variable {n hb m:Nat}{w w2:World}{c:Cx}{O O2:Nat → Prop}{T T2:Tn}{X X2:Nat → Ino}{L L2:Nat → Nat → Nat}{Q Q2:Nat → Pl}{S S2:List Nat}
theorem Hold.cb (h:Hold n hb m w c O T X L Q S):c.b < w.heap.size:=h.env.tx.lt _ h.env.tx.ownb
theorem Hold.later (h:Hold n hb m w c O T X L Q S)(b:Below w.heap.size w w2):Hold n hb m w2 c O T X L Q S :=
  ⟨h.env.later b,h.half.same (b.block _ h.half.lt),h.ho,h.glob,h.bt,h.fs,h.cov,h.hist,h.rest⟩
theorem Hold.done (h:Hold n hb m w c O T X L Q S)(ht:TxnAt c w2 O2 T2)(f:Fr w O w2 O2)(hfs:FsIn n (T2.view c.D) X2 L2 Q2)(hc:T2.Cov S2){hb2:Nat}(hh:T2.H.length ≤ hb2):Hold n hb2 m w2 c O2 T2 X2 L2 Q2 S2 :=
  ⟨h.env.fr ht f,h.half.same (f.1.block _ h.half.lt h.ho),f.out h.half.lt h.ho,h.glob,h.bt,hfs,hc,hh,h.rest⟩
theorem Hold.mono (h:Hold n hb m w c O T X L Q S){hb2 m2:Nat}(h1:hb ≤ hb2)(h2:m ≤ m2):Hold n hb2 m2 w c O T X L Q S :=
  ⟨h.env,h.half,h.ho,h.glob,h.bt,h.fs,h.cov,Nat.le_trans h.hist h1,⟨h.rest.up,h.rest.pend,h.rest.left,h.rest.keep,h.rest.len,h.rest.zero,Nat.le_trans h.rest.n h2⟩⟩
theorem Hold.cast (h:Hold n hb m w c O T X L Q S)(e:Q2=Q):Hold n hb m w c O T X L Q2 S:=e ▸ h
structure Laid (n m:Nat)(w:World)(base a d:Nat)(F:Nat → Prop)(D:Dk)(X:Nat → Ino)(L:Nat → Nat → Nat)(Q:Nat → Pl):Prop where
  hn:Disk n
  wd:WidthsAt w
  half:HalfAt w
  glob:1 < base ∧ 0 < base
  top:base ≤ w.heap.size
  typed:∀ k,F k → k < w.heap.size ∧ Tk w k diskF
  low:∀ k,F k → base ≤ k
  disk:∀ w2,Agree F w w2 → DiskAt w2 base a d D
  fs:∀ V:Nat → List UInt8,(∀ j,98 ≤ j → j < n → V j=D.read j) → (∀ j,j < n → (V j).length=512) → FsIn n V X L Q
  rest:RestD n m D
theorem Hold.commit (h:Hold n hb m w c O T X L Q S){ws:List (Nat × List UInt8)}(hp:Puts n T.P ws)(hd:DiskAt w2 c.base c.a c.d (c.D.does (csteps ws)).1)(k:KT (some c.a) c.base (80 :: diskT) w w2) :
    (c.D.does (csteps ws)).2=0 ∧ ∃ F:Nat → Prop,Laid n (m + 200) w2 c.base c.a c.d F (c.D.does (csteps ws)).1 X L Q ∧ Away w w2 O F:=by
  obtain ⟨g1,g2,g3,g4⟩:=geo_facts h.env.hn
  obtain ⟨r1,r2,r3⟩:=commit_rest h.rest (by omega) hp
  obtain ⟨F,f1,f2,f3⟩:=hd.foot2 r2.keep
  have haw:=commit_away h.env.tx.diskAt.sect k f1
  have hbase:c.base ≤ w.heap.size:=by have:=h.bt; have:=h.env.tx.lt _ h.env.tx.own; omega
  refine ⟨r1,F,⟨h.env.hn,h.env.wd.same (k.block _ h.env.wd.lt (.inl h.glob.2)),h.half.same (k.block _ h.half.lt (.inl h.glob.1)),h.glob,Nat.le_trans hbase k.size,f1,f2,f3,fun V hV hl => fsIn_congr h.fs h.env.hn (fun j h1 h2 => ?_) hl,r2⟩,k.size,fun j h1 _ h2 => haw j h1 h2⟩
  rw [hV j h1 h2,r3 j h1 h2]; rfl
theorem Laid.begin {base a d t b:Nat}{F:Nat → Prop}{D:Dk}(h:Laid n m w base a d F D X L Q)(ht:TxnAt ⟨base,a,d,t,b,n,D⟩ w2 (fun k => F k ∨ k=t ∨ k=b) ⟨fun _ => none,[]⟩)(h1:w.heap.size ≤ t)(h2:w.heap.size ≤ b)(hb:Below w.heap.size w w2) :
    Hold n 0 m w2 ⟨base,a,d,t,b,n,D⟩ (fun k => F k ∨ k=t ∨ k=b) ⟨fun _ => none,[]⟩ X L Q [] ∧ Away w w2 F (fun k => F k ∨ k=t ∨ k=b):=by
  have hnot:∀ k,k < w.heap.size → ¬ F k → ¬ (F k ∨ k=t ∨ k=b):=fun k hk hn o => by rcases o with o | o | o <;> first | exact hn o | omega
  have hlow:∀ k,k < base → ¬ F k:=fun k hk o => by have:=h.low k o; omega
  refine ⟨⟨⟨ht,h.hn,rfl,h.wd.below hb h.wd.lt,hnot _ h.wd.lt (hlow _ h.glob.2)⟩,h.half.same (hb.block _ h.half.lt),hnot _ h.half.lt (hlow _ h.glob.1),h.glob,by show base ≤ t; have:=h.top; omega,h.fs _ (fun j _ _ => rfl) (fun j hj => ht.view_len hj),fun i hi => absurd rfl hi,Nat.le_refl _,h.rest⟩,hb.size,fun k hk hn _ => ⟨hb.block k hk,hnot k hk hn⟩⟩
end
end Go.Proofs.YthkijogloebdoaaGreatDoor
end
section
namespace Go.Proofs.YthkijogloebdoaaGreatDoor
open Go.RowKit Go.Maps
theorem sizeBuilder:(Tryz.prog.info? 107).map (·.size)=some 2:=by kernel_rfl
set_option maxRecDepth 100000 in
set_option maxHeartbeats 1000000 in
theorem bcheck_used (b:Nat)(w:World)(h0:w.cell? ⟨b,0,none⟩=some (.pointer (some ⟨b,0,none⟩))) :
    Calls Tryz.prog 80 #[.pointer (some ⟨b,0,none⟩)] w fun e w' => e=.returned (.tuple #[]) ∧ w'=w:=by
  obtain ⟨j,hj,_⟩:=Option.map_eq_some_iff.1 sizeBuilder
  go_enter Tryz.func80,Tryz.ntmps80
  go_wp2_with fail
  rw [Lib.run_neq_ptr_same w _ Tryz.underlying105 hj]
  go_wp2_with fail
  go_end0
  exact ⟨rfl,rfl⟩
set_option maxRecDepth 100000 in
set_option maxHeartbeats 1000000 in
theorem bcheck_fresh (b:Nat)(w:World)(v:Value)(hI:Is w b 107 #[.pointer none,v]) :
    Calls Tryz.prog 80 #[.pointer (some ⟨b,0,none⟩)] w fun e w' => e=.returned (.tuple #[]) ∧ w'=w.setCell ⟨b,0,none⟩ (.pointer (some ⟨b,0,none⟩)):=by
  have h0:w.cell? ⟨b,0,none⟩=some (.pointer none):=hI.cell 0
  have hfz:=hI.free 0
  have hsh:w.shape? b=some (107,2):=by
    have hb:w.heap[b]? = some (.cells #[.pointer none,v] 107 (0,0)):=hI
    simp [World.shape?,hb]
  clear hI
  obtain ⟨j,hj,hjs⟩:=Option.map_eq_some_iff.1 sizeBuilder
  go_enter Tryz.func80,Tryz.ntmps80
  go_wp2_with fail
  rw [Lib.run_to_unsafe w ⟨b,0,none⟩ Tryz.underlying105 Tryz.underlying193 hj (by rw [hjs]; decide) hsh (Nat.zero_lt_succ 1)]
  simp only [Result.andThen]
  rw [Oper.upon_value]
  go_wp2_with fail
  rw [run_callFunc_extern Tryz.func112 (by kernel_rfl) (by kernel_rfl) (by kernel_rfl) (e:=Extern.AbiNoEscape.same) (by kernel_rfl)]
  rw [Lib.run_noEscape]
  simp only [Result.andThen]
  rw [Oper.upon_value]
  go_wp2_with fail
  rw [Lib.run_from_unsafe w ⟨b,0,none⟩ Tryz.underlying193 Tryz.underlying105 hj hsh (by kernel_rfl)]
  simp only [Result.andThen]
  rw [Oper.upon_value]
  go_wp2_with fail
  go_end0
  exact ⟨rfl,rfl⟩
def BldAt (w:World)(b:Nat)(l:List UInt8):Prop :=
  ∃ (p:Value) (A:Option Addr) (cap:Nat),Is w b 107 #[p,.slice A l.length cap] ∧ (p=.pointer none ∨ p=.pointer (some ⟨b,0,none⟩)) ∧ Mine w b A cap l ∧ (l=[] → A=none ∧ cap=0)
theorem not_of_bld {w:World}{b g cap:Nat}{A:Option Addr}{l:List UInt8}{cs:Array Value}{t:TypeId}(hI:Is w g t cs)(ht:t ≠ 5)(hM:Mine w b A cap l):¬ Of A g:=fun e => by
  have e:A=some ⟨g,0,none⟩:=e
  subst e
  obtain ⟨cur,hh,_⟩:=hM.row
  have h2:w.heap[g]? = some (.cells cs t (0,0)):=hI
  rw [h2] at hh
  injection hh with hh
  injection hh with _ hh
  exact ht hh
theorem of_u8 {w:World}{b g cap:Nat}{A:Option Addr}{l:List UInt8}(hM:Mine w b A cap l)(e:Of A g):∃ cs,Is w g 5 cs:=by
  have e:A=some ⟨g,0,none⟩:=e
  subst e
  obtain ⟨cur,hh,_⟩:=hM.row
  exact ⟨cur,hh⟩
theorem BldAt.new (w:World):BldAt (w.alloc (.cells #[.pointer none,.slice none 0 0] 107)) w.heap.size [] :=
  ⟨.pointer none,none,0,Is.new w _ _,.inl rfl,Mine.nil _ _,fun _ => ⟨rfl,rfl⟩⟩
theorem BldAt.lt {w:World}{b:Nat}{l:List UInt8}(h:BldAt w b l):b < w.heap.size:=by
  obtain ⟨p,A,cap,hI,_⟩:=h
  exact hI.lt
theorem BldAt.below {w w2:World}{b:Nat}{l:List UInt8}(h:BldAt w b l)(hb:Below w.heap.size w w2):BldAt w2 b l:=by
  obtain ⟨p,A,cap,hI,hp,hM,hn⟩:=h
  exact ⟨p,A,cap,hI.below hb hI.lt,hp,hM.later hb,hn⟩
theorem BldAt.grown {w w2:World}{b:Nat}{l:List UInt8}(h:BldAt w b l){row:Option Nat}(hg:w.grownBy w2 row)(hr:∀ r,row=some r → ∃ o:Obj,w.heap[r]? = some o ∧ o.isCells=false):BldAt w2 b l:=by
  obtain ⟨p,A,cap,hI,hp,hM,hn⟩:=h
  have key:∀ {g:Nat} {cs:Array Value} {t:TypeId} {fr:Nat × Nat},w.heap[g]? = some (.cells cs t fr) → w2.heap[g]? = w.heap[g]?:=fun {g cs t fr} e => hg.block g (Array.getElem?_eq_some_iff.1 e).1 (fun e2 => by
    obtain ⟨o,ho,hc⟩:=hr g e2.symm
    rw [e] at ho; injection ho with ho; subst ho; cases hc)
  refine ⟨p,A,cap,(key hI).trans hI,hp,hM.kept (fun g e => ?_),hn⟩
  obtain ⟨cs,hc⟩:=of_u8 hM (show Of A g from e)
  exact key hc
set_option maxRecDepth 100000 in
set_option maxHeartbeats 1600000 in
theorem bwrite_any (b m c:Nat)(l news:List UInt8)(B:Addr)(w:World)(h:BldAt w b l)(hm:news.length=m)(h1:1 ≤ m)(hB:Bytes w (some B) news)(hBn:B.block ≠ b)(hlen:l.length + m ≤ 1000000) :
    Calls Tryz.prog 42 #[.pointer (some ⟨b,0,none⟩),.slice (some B) m c] w fun e w' => e=.returned (.tuple #[.int .i64 (m:Int),.nilIface]) ∧ BldAt w' b (l ++ news) ∧ Keeps (fun i => i=b ∨ ∃ cs,Is w i 5 cs) w w' ∧ Below b w w':=by
  obtain ⟨p,A,cap,hI,hp,hM,hn⟩:=h
  have HC:Calls Tryz.prog 80 #[.pointer (some ⟨b,0,none⟩)] w fun e w' => e=.returned (.tuple #[]) ∧ Is w' b 107 #[.pointer (some ⟨b,0,none⟩),.slice A l.length cap] ∧ Keeps (·=b) w w':=by
    rcases hp with rfl | rfl
    · refine (bcheck_fresh b w _ hI).mono ?_
      rintro e w' ⟨rfl,rfl⟩
      exact ⟨rfl,hI.put 0 _,keeps_set w b 0 _⟩
    · refine (bcheck_used b w (hI.cell 0)).mono ?_
      rintro e w' ⟨rfl,rfl⟩
      exact ⟨rfl,hI,Keeps.refl _ _⟩
  have HC:=Lib.hid HC
  have hnb:¬ Of A b:=not_of_bld hI (by decide) hM
  have HI:=Lib.hid hI
  have HM:=Lib.hid hM
  have HB:=Lib.hid hB
  have HNB:=Lib.hid hnb
  have hbl:=hI.lt
  have HNW:=Lib.hid hm
  clear hI hp hM hn hB hnb hm
  go_enter Tryz.func42,Tryz.ntmps42
  go_wp2_with (first
    | (go_at_call 80
       refine HC.out.mono ?_
       rintro e w1 ⟨rfl,hI1,hk1⟩
       have HI1:=Lib.hid hI1
       have HK1:=Lib.hid hk1
       have HM1:=Lib.hid (HM.out.keeps hk1 (fun i hi e => HNB.out ((show i=b from e) ▸ hi)))
       have c1:w1.cell? ⟨b,1,none⟩=some (.slice A l.length cap):=hI1.cell 1
       clear hI1 hk1)
    | (at_builtin
       refine wpList_append_u8 rfl (.tmp 12) (.tmp 13) rfl b A cap l rfl HM1.out (some B) c news (by rw [HNW.out]; rfl) (fun e => by cases e) (HB.out.keeps HK1.out (fun g off e => by injection e with e; subst e; exact hBn)) (by rw [HNW.out]; omega) (by have:=HK1.out.size; omega) ?_
       intro A' cap' w2 hM2 hgrow hbel
       have hk2:=Keeps.of_mine HM1.out hgrow
       have HM2:=Lib.hid hM2
       have HK2:=Lib.hid hk2
       have HI2:=Lib.hid (HI1.out.keeps hk2 HNB.out)
       have d1:w2.cell? ⟨b,1,none⟩=some (.slice A l.length cap):=HI2.out.cell 1
       have e1:=HI2.out.free 1
       have HBL:=Lib.hid hbel
       clear hM2 hgrow hbel hk2))
  have hI3:=HI2.out.put 1 (.slice A' (l.length + news.length) cap')
  have hk3:=keeps_set w2 b 1 (.slice A' (l.length + news.length) cap')
  have hnb2:¬ Of A' b:=not_of_bld HI2.out (by decide) HM2.out
  have hM3:=HM2.out.keeps hk3 (fun i hi e => hnb2 ((show i=b from e) ▸ hi))
  refine bodyPost_ret (v:=.tuple #[.int .i64 (m:Int),.nilIface]) (by simp [results,Tryz.results42,go_sem]) rfl ?_
  refine ⟨rfl,⟨_,A',cap',by rw [List.length_append]; exact hI3,.inr rfl,hM3,fun e => ?_⟩,?_,?_⟩
  · have:=congrArg List.length e
    rw [List.length_append,HNW.out] at this
    simp at this
    omega
  · refine ((HK1.out.mono (fun i e => .inl e)).trans (HK2.out.mono (fun i e => ?_))).trans (hk3.mono (fun i e => .inl e))
    by_cases hib:i=b
    · exact .inl hib
    · right
      obtain ⟨cs,hc⟩:=of_u8 HM.out e
      exact ⟨cs,hc⟩
  · exact ((HK1.out.below (by omega) (fun i e => by rw [show i=b from e]; exact Nat.le_refl _)).trans HBL.out).trans (hk3.below (by have:=HI2.out.lt; omega) (fun i e => by rw [show i=b from e]; exact Nat.le_refl _))
theorem freeze_other (w:World)(p:Addr)(n k:Nat)(hk:k ≠ p.block):(w.freeze p n).heap[k]? = w.heap[k]?:=by
  unfold World.freeze
  split
  · rfl
  · simp only [Array.getElem?_modify]
    rw [if_neg (fun e => hk e.symm)]
theorem unsafeString_none (w:World):(Builtin.unsafeString_ #[154,3] 9 #[.pointer none,.int .i64 0]).run Tryz.prog w=.ok (.string ⟨#[]⟩) w:=by rfl
set_option maxRecDepth 100000 in
set_option maxHeartbeats 1600000 in
theorem bstring_any (b:Nat)(l:List UInt8)(w:World)(h:BldAt w b l) :
    Calls Tryz.prog 43 #[.pointer (some ⟨b,0,none⟩)] w fun e w' => e=.returned (.string ⟨l.toArray⟩) ∧ Below b w w' ∧ ∀ k,(∀ cs,¬ Is w k 5 cs) → w'.heap[k]? = w.heap[k]?:=by
  obtain ⟨p,A,cap,hI,hp,hM,hn⟩:=h
  have c1:w.drew.cell? ⟨b,1,none⟩=some (.slice A l.length cap):=hI.cell 1
  have hbl:=hI.lt
  by_cases hl:l=[]
  · obtain ⟨rfl,rfl⟩:=hn hl
    subst hl
    have hSD:(Builtin.unsafeSliceData_ #[28] 154 #[.slice none 0 0]).run Tryz.prog w.drew=.ok (.pointer none) w.drew:=rfl
    have hUS:=unsafeString_none
    clear hI hp hM hn
    go_enter Tryz.func43,Tryz.ntmps43
    go_wp2_with fail
    go_region
    all_goals (go_wp2_with fail)
    all_goals (go_ret; exact ⟨rfl,(Below.refl b w).drew,fun k _ => rfl⟩)
  · obtain ⟨g,rfl,hbg,hg⟩:=hM.form (by
      cases l with
      | nil => exact absurd rfl hl
      | cons a r => exact Nat.succ_pos _)
    obtain ⟨hc1,hc2⟩:=hM.cap_le
    have hl0:l.length ≠ 0:=by simpa using hl
    have hSD:(Builtin.unsafeSliceData_ #[28] 154 #[.slice (some ⟨g,0,none⟩) l.length cap]).run Tryz.prog w.drew=.ok (.pointer (some ⟨g,0,none⟩)) w.drew :=
      Lib.run_unsafeSliceData_row _ _ _ _ _ _ (by omega)
    obtain ⟨cur,hh,hsz,_⟩:=hM.row
    have hUS:(Builtin.unsafeString_ #[154,3] 9 #[.pointer (some ⟨g,0,none⟩),.int .i64 l.length]).run Tryz.prog w.drew=.ok (.string ⟨l.toArray⟩) (w.drew.freeze ⟨g,0,none⟩ l.length):=by
      refine Lib.run_unsafeString_row w.drew 154 3 9 5 Tryz.underlying154 (by kernel_rfl) g cur.size (by
        have hg':w.drew.heap[g]? = some (.cells cur 5 (0,0)):=hh
        simp [World.shape?,hg']) l hl (by omega) (by unfold maxLen at hc2; omega) ?_
      intro j x hx
      have hj:j < l.length:=(List.getElem?_eq_some_iff.1 hx).1
      have h2:=hM.drew.cell hj
      rw [(List.getElem?_eq_some_iff.1 hx).2] at h2
      have h3:w.drew.cell? ⟨g,j,none⟩=some (.int .u8 x.toNat):=h2
      rw [show ((⟨g,0,none⟩:Addr).add j)=⟨g,j,none⟩ by simp [Addr.add]; intro e; rw [e]]
      exact h3
    have HFO:=Lib.hid (fun k (hk:∀ cs,¬ Is w k 5 cs) => freeze_other w.drew ⟨g,0,none⟩ l.length k (fun e => by
      have e:k=g:=e
      subst e; exact hk cur hh))
    have HF:=Lib.hid (Lib.below_freeze (p:=⟨g,0,none⟩) ((Below.refl b w).drew) hbg l.length)
    clear hI hp hM hn hh hsz hl hc1 hc2 hl0 hbg hg
    go_enter Tryz.func43,Tryz.ntmps43
    go_wp2_with fail
    go_region
    all_goals (go_wp2_with fail)
    all_goals (go_ret; exact ⟨rfl,HF.out,fun k hk => HFO.out k hk⟩)
end Go.Proofs.YthkijogloebdoaaGreatDoor
end
section
namespace Go.Proofs.YthkijogloebdoaaGreatDoor.Fs
open Rec
def partB (P:Pl)(off m j:Nat):List UInt8:=sl (P.blk (off / 512 + j)) (pFrom off j) (pTo off m j - pFrom off j)
def catB {off m:Nat}(P:Pl)(pre:List (PartOf off m)):List UInt8:=pre.flatMap fun x => partB P off m x.1
theorem partB_len {P:Pl}(hP:P.Ok){off m j:Nat}(hj:j < pMany off m):(partB P off m j).length=pTo off m j - pFrom off j:=by
  obtain ⟨f1,f2,f3,f4,f5,f6⟩:=part_facts hj
  unfold partB
  exact sl_length _ _ _ (by rw [hP.blk]; omega)
theorem catB_len {P:Pl}(hP:P.Ok){off m:Nat}(pre:List (PartOf off m)):(catB P pre).length ≤ 512 * pre.length:=by
  unfold catB
  induction pre with
  | nil => simp
  | cons x r ih =>
    rw [List.flatMap_cons,List.length_append,List.length_cons,partB_len hP x.2]
    have:=(part_facts x.2).2.2.2.2.1
    omega
theorem catB_next {P:Pl}{off m:Nat}(pre:List (PartOf off m))(x:PartOf off m):catB P (pre ++ [x])=catB P pre ++ partB P off m x.1:=by
  unfold catB
  rw [List.flatMap_append]; simp
theorem cat_range {P:Pl}(hP:P.Ok){off m:Nat}(hm:m ≠ 0):∀ j,j ≤ pMany off m → (List.range j).flatMap (partB P off m)=P.rdN off (if j=pMany off m then m else pAt off j)
  | 0,_ => by
    have h0:pMany off m ≠ 0:=by unfold pMany; rw [if_neg hm]; omega
    rw [if_neg (fun e => h0 e.symm),show pAt off 0=0 from if_pos rfl]; rfl
  | j + 1,hj => by
    obtain ⟨f1,f2,f3,f4,f5,f6⟩:=part_facts (show j < pMany off m by omega)
    rw [List.range_succ,List.flatMap_append,cat_range hP hm j (by omega),if_neg (by omega)]
    have hs:=P.rd_step hP off (pAt off j) (pTo off m j - pFrom off j) (off / 512 + j) (pFrom off j) f2 (by omega)
    have hn:=part_next (show j < pMany off m by omega)
    rw [hn] at hs
    have e:(if j + 1 < pMany off m then pAt off (j + 1) else m)=if j + 1=pMany off m then m else pAt off (j + 1):=by
      by_cases e:j + 1=pMany off m
      · rw [if_neg (by omega),if_pos e]
      · rw [if_pos (by omega),if_neg e]
    rw [← e,hs]
    simp [partB]
theorem cat_all {P:Pl}(hP:P.Ok){off m:Nat}{ys:List (PartOf off m)}(h:firsts ys=List.range (pMany off m)):catB P ys=P.rdN off m:=by
  have e:catB P ys=(firsts ys).flatMap (partB P off m):=by unfold catB firsts; rw [List.flatMap_map]
  rw [e,h]
  by_cases hm:m=0
  · subst hm; rfl
  · rw [cat_range hP hm _ (Nat.le_refl _),if_pos rfl]
end Go.Proofs.YthkijogloebdoaaGreatDoor.Fs
namespace Go.Proofs.YthkijogloebdoaaGreatDoor
open Go.RowKit Go.Maps Go.Shelf Rec Gp Fs
theorem Rw.part {w:World}{g:Nat}{l:List UInt8}(h:Rw w g l)(fr m:Nat)(hf:fr + m ≤ l.length):Bytes w (some ⟨g,fr,none⟩) (sl l fr m) :=
  .inr ⟨g,fr,rfl,fun k hk => by
    have hl:=sl_length l fr m hf
    rw [h.cell (k:=fr + k) (by omega)]
    have h1:=sl_at l fr m k (by omega)
    rw [List.getElem?_eq_getElem hk,List.getElem?_eq_getElem (by omega)] at h1
    injection h1 with h1
    rw [h1]⟩
theorem results_str {fn:Func}{p r:Tmp}(h:fn.results=#[.cell p 9,.cell r 25])(tmps:Array Value)(w:World)(g1 g3:Nat)(bs:ByteArray)(e:Int)(hp:tmps.getD p undef=.pointer (some ⟨g1,0,none⟩))(hr:tmps.getD r undef=.pointer (some ⟨g3,0,none⟩))
    (h1:w.cell? ⟨g1,0,none⟩=some (.string bs))(h3:w.cell? ⟨g3,0,none⟩=some (.int .i64 e)) :
    (results fn tmps).run Tryz.prog w=.ok (.tuple #[.string bs,.int .i64 e]) w:=by
  have hp':tmps[p]?.getD undef=.pointer (some ⟨g1,0,none⟩):=by simpa using hp
  have hr':tmps[r]?.getD undef=.pointer (some ⟨g3,0,none⟩):=by simpa using hr
  simp [results,h,hp',hr',asAddr,go_sem,h1,h3]
theorem two_set {w W:World}{ob eb:Nat}{v0 e0:Value}(hne:ob ≠ eb)(h1:Is W ob 9 #[v0])(h2:Is W eb 25 #[e0])(hb:Below w.heap.size w W)(g1:w.heap.size ≤ ob)(g2:w.heap.size ≤ eb)(v e:Value) :
    ∃ W',(W.setCell ⟨ob,0,none⟩ v).setCell ⟨eb,0,none⟩ e=W' ∧ W'.cell? ⟨ob,0,none⟩=some v ∧ W'.cell? ⟨eb,0,none⟩=some e ∧ Below w.heap.size w W' :=
  ⟨_,rfl,((h1.put 0 v).other ⟨eb,0,none⟩ hne e).cell 0,((h2.other ⟨ob,0,none⟩ (fun e => hne e.symm) v).put 0 e).cell 0,(hb.setCell (p:=⟨ob,0,none⟩) g1 v).setCell (p:=⟨eb,0,none⟩) g2 e⟩
set_option maxRecDepth 100000 in
theorem fread_neg (c:Cx)(w:World)(n f:Nat)(off:Int)(hz:off < 0)(size:Int) :
    Calls Tryz.prog 19 #[.pointer (some ⟨c.t,0,none⟩),geoV n,.int .i64 ((f + 2:Nat):Int),.int .i64 off,.int .i64 size] w fun e w' => e=.returned (.tuple #[.string ⟨#[]⟩,.int .i64 1]) ∧ Below w.heap.size w w':=by
  obtain ⟨hb0,i0,i1⟩:=two_new w #[.pointer (some ⟨c.t,0,none⟩)] #[.int .i64 (n:Int),.int .i64 98,.int .i64 (ino n:Int),.int .i64 (dat n:Int),.int .i64 (cnt n:Int)] 36 31
  obtain ⟨W1,hW1⟩:∃ W1,(w.alloc (.cells #[.pointer (some ⟨c.t,0,none⟩)] 36)).alloc (.cells #[.int .i64 (n:Int),.int .i64 98,.int .i64 (ino n:Int),.int .i64 (dat n:Int),.int .i64 (cnt n:Int)] 31)=W1:=⟨_,rfl⟩
  have hz1:W1.heap.size=w.heap.size + 2:=by rw [← hW1]; simp [World.size_alloc]
  rw [hW1] at hb0
  obtain ⟨hb1,i2,i3⟩:=two_new W1 #[.string ⟨#[]⟩] #[.int .i64 0] 9 25
  obtain ⟨W,hW⟩:∃ W,(W1.alloc (.cells #[.string ⟨#[]⟩] 9)).alloc (.cells #[.int .i64 0] 25)=W:=⟨_,rfl⟩
  rw [hW] at hb1 i2 i3
  rw [hz1] at i2 i3
  have hWW:((((w.alloc (.cells #[.pointer (some ⟨c.t,0,none⟩)] 36)).alloc (.cells #[.int .i64 (n:Int),.int .i64 98,.int .i64 (ino n:Int),.int .i64 (dat n:Int),.int .i64 (cnt n:Int)] 31)).alloc (.cells #[.string ⟨#[]⟩] 9)).alloc (.cells #[.int .i64 0] 25))=W:=by rw [hW1]; exact hW
  have i3:Is W (w.heap.size + 1 + 1 + 1) 25 #[.int .i64 0]:=i3
  have i2:Is W (w.heap.size + 1 + 1) 9 #[.string ⟨#[]⟩]:=i2
  have hbb:=hb0.trans (hb1.mono hb0.size)
  have c2:W.cell? ⟨w.heap.size + 1 + 1,0,none⟩=some (.string ⟨#[]⟩):=i2.cell 0
  have f2:W.frozen? ⟨w.heap.size + 1 + 1,0,none⟩=false:=i2.free 0
  have c3:W.cell? ⟨w.heap.size + 1 + 1 + 1,0,none⟩=some (.int .i64 0):=i3.cell 0
  have f3:W.frozen? ⟨w.heap.size + 1 + 1 + 1,0,none⟩=false:=i3.free 0
  have HI2:=Lib.hid i2
  have HI3:=Lib.hid i3
  have HB:=Lib.hid hbb
  clear hb0 hb1 i0 i1 i2 i3 hbb hz1 hW1 hW
  go_enter Tryz.func19,Tryz.ntmps19
  go_wp2_with fail
  obtain ⟨W',hW',k1,k2,hb⟩:=two_set (by omega) HI2.out HI3.out HB.out (by omega) (by omega) (.string ⟨#[]⟩) (.int .i64 1)
  rw [hW']
  refine bodyPost_ret (v:=.tuple #[.string ⟨#[]⟩,.int .i64 1]) (results_str rfl _ _ (w.heap.size + 1 + 1) (w.heap.size + 1 + 1 + 1) _ _ rfl rfl k1 k2) rfl ?_
  exact ⟨rfl,hb⟩
attribute [local go_sem] Oper.semAt_some
set_option maxRecDepth 100000 in
set_option maxHeartbeats 6400000 in
theorem fread_any (c:Cx)(w:World)(O:Nat → Prop)(T:Tn)(n:Nat)(he:Env c w O T n)(X:Nat → Ino)(L:Nat → Nat → Nat)(Q:Nat → Pl)(h:FsIn n (T.view c.D) X L Q)(f:Nat)(hf:f < 3)(off size:Nat)(h5:size ≤ 5000)(hoff:off ≤ 9223372036854775807) :
    Calls Tryz.prog 19 #[.pointer (some ⟨c.t,0,none⟩),geoV n,.int .i64 ((f + 2:Nat):Int),.int .i64 (off:Int),.int .i64 (size:Int)] w fun e w' =>
      e=.returned (.tuple #[.string ⟨((Q f).rd off size).toArray⟩,.int .i64 0]) ∧ Below w.heap.size w w':=by
  obtain ⟨hb0,i0,i1⟩:=two_new w #[.pointer (some ⟨c.t,0,none⟩)] #[.int .i64 (n:Int),.int .i64 98,.int .i64 (ino n:Int),.int .i64 (dat n:Int),.int .i64 (cnt n:Int)] 36 31
  obtain ⟨W1,hW1⟩:∃ W1,(w.alloc (.cells #[.pointer (some ⟨c.t,0,none⟩)] 36)).alloc (.cells #[.int .i64 (n:Int),.int .i64 98,.int .i64 (ino n:Int),.int .i64 (dat n:Int),.int .i64 (cnt n:Int)] 31)=W1:=⟨_,rfl⟩
  have hz1:W1.heap.size=w.heap.size + 2:=by rw [← hW1]; simp [World.size_alloc]
  rw [hW1] at hb0 i0 i1
  obtain ⟨hb1,i2,i3⟩:=two_new W1 #[.string ⟨#[]⟩] #[.int .i64 0] 9 25
  obtain ⟨W,hW⟩:∃ W,(W1.alloc (.cells #[.string ⟨#[]⟩] 9)).alloc (.cells #[.int .i64 0] 25)=W:=⟨_,rfl⟩
  have hz2:W.heap.size=w.heap.size + 4:=by rw [← hW]; simp [World.size_alloc,hz1]
  rw [hW] at hb1 i2 i3
  rw [hz1] at i2 i3
  have hWW:((((w.alloc (.cells #[.pointer (some ⟨c.t,0,none⟩)] 36)).alloc (.cells #[.int .i64 (n:Int),.int .i64 98,.int .i64 (ino n:Int),.int .i64 (dat n:Int),.int .i64 (cnt n:Int)] 31)).alloc (.cells #[.string ⟨#[]⟩] 9)).alloc (.cells #[.int .i64 0] 25))=W:=by rw [hW1]; exact hW
  have hbb:=hb0.trans (hb1.mono hb0.size)
  have i0:=i0.below hb1 i0.lt
  have i1:=i1.below hb1 i1.lt
  have hcnt:f + 2 < cnt n:=by have:=(geo_facts he.hn).1; unfold cnt; omega
  have HE0:=Lib.hid (he.later hbb)
  have hkk:=h.kind f hf
  have HG:=Lib.hid (fget_any c W O T n HE0.out (f + 2) (X f) (by omega) hcnt (h.ino f hf) (by omega))
  obtain ⟨x,hx⟩:∃ x,X f=x:=⟨_,rfl⟩
  rw [hx] at HG hkk
  unfold Ino.C at HG
  have i3:Is W (w.heap.size + 1 + 1 + 1) 25 #[.int .i64 0]:=i3
  have i2:Is W (w.heap.size + 1 + 1) 9 #[.string ⟨#[]⟩]:=i2
  have ct:W.cell? ⟨w.heap.size,0,none⟩=some (.pointer (some ⟨c.t,0,none⟩)):=i0.cell 0
  obtain ⟨d10,d11,d12,d13,d14⟩:=geo5 i1
  have hnneg:¬ (off:Int) < 0:=by omega
  have hnneg2:¬ (size:Int) < 0:=by omega
  have HI0:=Lib.hid i0
  have HI1:=Lib.hid i1
  have HI2:=Lib.hid i2
  have HI3:=Lib.hid i3
  have HB0:=Lib.hid hbb
  have HEN:=Lib.hid he
  have HFS:=Lib.hid h
  have HKK:=Lib.hid hkk
  have hqs:=(h.ok f hf).size
  have hxs:x.size ≤ 8459264:=by omega
  obtain ⟨t,ht⟩:∃ t,c.t=t:=⟨_,rfl⟩
  rw [ht] at HG HI0 ct hWW ⊢
  have HT:=Lib.hid ht
  obtain ⟨i,hi⟩:∃ i,f + 2=i:=⟨_,rfl⟩
  rw [hi] at HG ⊢
  clear he h hcnt hkk hbb i0 i1 i2 i3 ht hi hb0 hb1 hW1 hW hz1 hqs
  refine (callsIn_wide (n:=8)).1 ?_
  refine callsIn_of_wp_marks Tryz.func19 rfl trivial ?_ rfl
  simp only [Tryz.ntmps19,List.size_toArray,List.length_cons,List.length_nil,Nat.reduceAdd,Nat.reduceSub,Array.replicate_succ,Array.replicate_zero,List.push_toArray,List.append_toArray,List.nil_append,List.cons_append]
  refine wpIn_wide.2 ?_
  go_upto_region 6 with (first
    | (go_at_call 33
       refine HG.out.mono ?_
       rintro e w1 ⟨rfl,hb1⟩
       have HB1:=Lib.hid hb1
       have hs1:=hb1.size
       have HY1:=Lib.hid (Is.new w1 44 zeroC)
       clear hb1)
    | (refine wpList_store_row_k rfl 44 (.tmp 12) (.tmp 29) rfl w1.heap.size x.C rfl rfl 44 zeroC HY1.out size15 rfl (inoC_one _) ?_
       intro w2 hy2 hk2
       have HY2:=Lib.hid hy2
       have HB2:=Lib.hid (show Below W.heap.size W w2 from HB1.out.trans (((below_new w1 _).mono (by omega)).trans (hk2.below (by rw [World.size_alloc]; omega) (fun j e => by rw [show j=w1.heap.size from e]; omega))))
       have x22:=x15 hy2
       clear hy2 hk2))
  generalize he3:w.heap.size + 1 + 1 + 1=eb
  generalize he2:w.heap.size + 1 + 1=ob
  generalize he1:w.heap.size + 1=gb
  have HI3:=Lib.hid (show Is W eb 25 #[.int .i64 0] from he3 ▸ HI3.out)
  have HI2:=Lib.hid (show Is W ob 9 #[.string ⟨#[]⟩] from he2 ▸ HI2.out)
  have HI1:=Lib.hid (show Is W gb 31 (geoL n) from he1 ▸ HI1.out)
  have hord:w.heap.size < gb ∧ gb < ob ∧ ob < eb ∧ eb < w1.heap.size:=by omega
  have hI2:∀ {k:Nat} {ty:TypeId} {cs:Array Value},Is W k ty cs → Is w2 k ty cs:=fun h1 => h1.below HB2.out h1.lt
  have HT2:=Lib.hid (hI2 HI0.out)
  have HG2:=Lib.hid (hI2 HI1.out)
  have HO2:=Lib.hid (hI2 HI2.out)
  have HE2:=Lib.hid (hI2 HI3.out)
  have HBW2:=Lib.hid (HB0.out.trans (HB2.out.mono HB0.out.size))
  have co2:w2.cell? ⟨ob,0,none⟩=some (.string ⟨#[]⟩):=HO2.out.cell 0
  have fo2:=HO2.out.free 0
  have ce2:w2.cell? ⟨eb,0,none⟩=some (.int .i64 0):=HE2.out.cell 0
  have fe2:=HE2.out.free 0
  obtain ⟨xb,hxb⟩:∃ xb,w1.heap.size=xb:=⟨_,rfl⟩
  rw [hxb] at HY2 x22 hord ⊢
  clear hI2 he1 he2 he3 hWW ct d10 d11 d12 d13 d14
  have hxl:=HY2.out.lt
  by_cases hge:x.size ≤ off
  · have hgi:(x.size:Int) ≤ (off:Int):=by omega
    have HGE:=Lib.hid hge
    clear hge
    go_wp2_with fail
    obtain ⟨W',hW',k1,k2,hb⟩:=two_set (by omega) HO2.out HE2.out HBW2.out (by omega) (by omega) (.string ⟨#[]⟩) (.int .i64 0)
    rw [hW']
    refine Exists.intro (.tuple #[.string ⟨#[]⟩,.int .i64 0]) ⟨results_str rfl _ _ ob eb _ _ rfl rfl k1 k2,?_,hb⟩
    have:=HKK.out.2.2
    have:=HGE.out
    unfold Pl.rd
    rw [if_pos (by omega)]
  have hgi:¬ (x.size:Int) ≤ (off:Int):=by omega
  have u1:=IntWalk.i64_in (n:=(x.size:Int) - (off:Int)) (by omega)
  obtain ⟨mm,hmm⟩:∃ mm,min size (x.size - off)=mm:=⟨_,rfl⟩
  have hmn:=run_min_ii (size:Int) ((x.size:Int) - (off:Int)) (mm:Int) (by rw [← hmm]; split <;> omega)
  have HMM:=Lib.hid hmm
  have HGE:=Lib.hid hge
  have hmm5:mm ≤ 5000:=by omega
  have HM5:=Lib.hid hmm5
  have HPA:=Lib.hid (parts_any off mm)
  have hoff9:off ≤ 9000000:=by omega
  have HOF:=Lib.hid hoff9
  clear hge hmm hmm5 hoff9
  go_wp2_with (
    go_at_call 35
    refine (HPA.out _).mono ?_
    rintro e w5 ⟨rfl,ho5,hn5,hb5⟩
    rw [World.size_alloc] at ho5 hn5
    have HO5:=Lib.hid ho5
    have HN5:=Lib.hid hn5
    have HB5:=Lib.hid hb5
    clear ho5 hn5 hb5)
  have hBl:BldAt w5 w2.heap.size []:=(BldAt.new w2).below HB5.out
  have hb25:Below w2.heap.size w2 w5:=(below_new w2 _).trans (HB5.out.mono (by rw [World.size_alloc]; omega))
  have HBL:=Lib.hid hBl
  have HB25:=Lib.hid hb25
  have hol:=HO5.out.lt
  have hnl:=HN5.out.lt
  obtain ⟨bb,hbb⟩:∃ bb,w2.heap.size=bb:=⟨_,rfl⟩
  have hxl:xb < bb:=by omega
  rw [hbb] at HO5 HN5 HBL HB25 hol hnl ⊢
  have HBB:=Lib.hid hbb
  clear hBl hb25 hbb
  refine (wpIn_wide (n:=8)).1 ?_
  refine wpIn_rangeFunc_box (n:=8) (w0:=w5) (by decide) (gf:=63) (lb := #[.pointer (some ⟨bb + 1 + 1,0,none⟩),.pointer (some ⟨bb + 1,0,none⟩)]) rfl (enters_of Tryz.func63 (by kernel_rfl) rfl)
    (parts_stopsK 7 (by decide) (bb + 1) (bb + 1 + 1) off mm HOF.out (by have:=HM5.out; omega) w5 HO5.out HN5.out) kpP_t (kpP_b hol hnl) (Below.refl _ _)
    (fun pre W => (BldAt W bb (catB (Q f) pre) ∧ Below bb w2 W) ∧ (Is W (bb + 1) 3 #[.int .i64 (off:Int)] ∧ Is W (bb + 1 + 1) 3 #[.int .i64 (mm:Int)]) ∧ w5.heap.size ≤ W.heap.size)
    (fun cde pre W => False)
    (fun pre W W' row hs hg hr => ⟨⟨hs.1.1.grown hg (fun r e => (hr r e).2),hs.1.2.grown hg (by have:=hs.1.2.size; have:=HBB.out; omega) (fun k e => by have:=(hr k e).1; omega)⟩,⟨(grownBy_keeps_cells hg (fun r e => (hr r e).2) hs.2.1.1 rfl).trans hs.2.1.1,(grownBy_keeps_cells hg (fun r e => (hr r e).2) hs.2.1.2 rfl).trans hs.2.1.2⟩,Nat.le_trans hs.2.2 hg.size⟩)
    (fun cde pre W W' row hs hg hr => hs)
    ⟨⟨HBL.out,HB25.out⟩,⟨HO5.out,HN5.out⟩,Nat.le_refl _⟩ 97 #[.int .i64 0,.int .i64 0,.int .i64 0,.int .i64 0] (fun pre W hi => hi.2.2)
    (fun pre W W' hi hb => kpP_below hb (by have:=hi.2.2; omega) (by have:=hi.2.2; omega))
    rfl rfl rfl rfl rfl rfl (fun ρ W => by simp [execOp,go_sem]) (fun x => by kernel_rfl) (fun x => rfl) (fun x => by simp [partV,Value.oneCell']) (by simp) (by simp) (by decide)
    ?body ?done ?stop
  case stop => rintro D cde pre W hD _ hX hd; exact hX.elim
  case body =>
    rintro l pre pt pb W ⟨⟨hBd,hBw⟩,⟨hOb,hNb⟩,hW5⟩ hpb hpl hlt
    obtain ⟨f1,f2,f3,f4,f5,f6⟩:=part_facts pt.2
    have hkb:off / 512 + pt.1 < 16522:=by have:=HMM.out; omega
    have hbwW:Below w.heap.size w W:=HBW2.out.trans (hBw.mono (by have:=HBW2.out.size; have:=HBB.out; omega))
    have hEW:=HEN.out.later hbwW
    have HBK:=Lib.hid (fblock_any c W O T n hEW X L HFS.out.tree f (off / 512 + pt.1) hf hkb)
    rw [HT.out,← HFS.out.blk hf hkb] at HBK
    have isW:∀ {k:Nat} {ty:TypeId} {cs:Array Value},Is w2 k ty cs → k < bb → Is W k ty cs:=fun h1 h2 => h1.below hBw h2
    have htb:=isW HT2.out (by omega)
    have hgb:=isW HG2.out (by omega)
    have hyb:=isW HY2.out hxl
    have ctW:W.cell? ⟨w.heap.size,0,none⟩=some (.pointer (some ⟨t,0,none⟩)):=htb.cell 0
    obtain ⟨d10,d11,d12,d13,d14⟩:=geo5 hgb
    obtain ⟨k,hk⟩:∃ k,off / 512 + pt.1=k:=⟨_,rfl⟩
    obtain ⟨fr,hfr⟩:∃ fr,pFrom off pt.1=fr:=⟨_,rfl⟩
    obtain ⟨tt,hto⟩:∃ tt,pTo off mm pt.1=tt:=⟨_,rfl⟩
    obtain ⟨at_,hat⟩:∃ at_,pAt off pt.1=at_:=⟨_,rfl⟩
    have hlen:=catB_len (HFS.out.ok f hf) pre
    have hlt11:pre.length < 11:=by have:=pMany_le (off:=off) HM5.out; omega
    rw [hfr] at f3 f4
    rw [hto] at f4 f5
    have hi1:(fr:Int) ≤ (tt:Int):=by omega
    have hi3:(tt:Int) ≤ 512:=by omega
    have c0:W.cell? ⟨pb,0,none⟩=some (.int .i64 (k:Int)):=by rw [← hk]; exact hpb.cell 0
    have hplt:=hpb.lt
    have HPB:=Lib.hid hpb
    unfold partV at HPB
    rw [hk,hfr,hto,hat] at HPB
    have HYB:=Lib.hid hyb
    have HBD:=Lib.hid hBd
    have HBW:=Lib.hid hBw
    have HONW:=Lib.hid (And.intro hOb hNb)
    have HFF:=Lib.hid (And.intro f3 (And.intro f4 f5))
    have HKF:=Lib.hid (And.intro hk (And.intro hfr hto))
    have HLEN:=Lib.hid hlen
    have HBLK:=Lib.hid ((HFS.out.ok f hf).blk k)
    rw [hk,hx] at HBK
    have hbl:=hBd.lt
    unfold partV
    rw [hk,hfr,hto,hat]
    unfold boxA
    simp only [List.setIfInBounds_toArray,List.set_cons_succ,List.set_cons_zero]
    clear hBd hBw hOb hNb isW htb hgb hyb hEW hkb f1 f2 f3 f4 f5 f6 hpb hk hfr hto hat hbwW hlen
    gi_wp2_with (first
      | (refine round_load_row rfl 44 (.tmp 12) rfl xb rfl 44 x.C (0,0) _ HYB.out Tryz.underlying44 rfl size15 ?_)
      | (refine ⟨trivial,?_⟩
         gi_at_call 41
         refine (CallsIn.inRound l (callsIn_wide.2 HBK.out)).mono ?_
         rintro e w8 ⟨⟨g,cp,rfl,hg,hgs,hcp⟩,hb8⟩
         have HG8:=Lib.hid hg
         have HGS:=Lib.hid hgs
         have HB8:=Lib.hid hb8
         have hp8:=HPB.out.below hb8 HPB.out.lt
         have q1:w8.cell? ⟨pb,1,none⟩=some (.int .i64 (fr:Int)):=hp8.cell 1
         have q2:w8.cell? ⟨pb,2,none⟩=some (.int .i64 (tt:Int)):=hp8.cell 2
         have hcf:cp ≠ fr:=by have:=HFF.out; omega
         have hi2:(tt:Int) ≤ (cp:Int):=by omega
         have HCP:=Lib.hid hcp
         have HWR:=Lib.hid (bwrite_any bb (tt - fr) (cp - fr) (catB (Q f) pre) (sl ((Q f).blk k) fr (tt - fr)) ⟨g,fr,none⟩ w8 (HBD.out.below HB8.out) (sl_length _ _ _ (by rw [HBLK.out]; have:=HFF.out; omega)) (by have:=HFF.out; omega) (hg.part fr (tt - fr) (by rw [HBLK.out]; have:=HFF.out; omega)) (by show g ≠ bb; omega) (by have:=HLEN.out; have:=HFF.out; omega))
         clear hg hgs hb8 hp8 hcp)
      | (refine ⟨trivial,?_⟩
         gi_at_call 42
         refine (CallsIn.inRound l (callsIn_wide.2 HWR.out)).mono ?_
         rintro e w9 ⟨rfl,hBd9,hk9,hb9⟩
         have HBD9:=Lib.hid hBd9
         have HK9:=Lib.hid hk9
         have HB9:=Lib.hid hb9
         clear hBd9 hk9 hb9))
    have hk9:=HK9.out
    have hb8:=HB8.out
    have h1:=HONW.out.1.below hb8 HONW.out.1.lt
    have h2:=HONW.out.2.below hb8 HONW.out.2.lt
    have hbI:∀ {kk:Nat} {ty:TypeId} {cs:Array Value},Is w8 kk ty cs → ty ≠ 5 → kk ≠ bb → Is w9 kk ty cs:=fun hi ht hn => hi.keeps hk9 (fun e => e.elim hn (fun ⟨cs',hc⟩ => ht (is_type hi hc)))
    have hBld8:=HBD.out.below hb8
    obtain ⟨pv,A,cap,hIb,_⟩:=hBld8
    refine ⟨(keepsFrom_below hb8).trans ⟨hk9.size,fun kk o hB ho hc => (hk9.block kk (Array.getElem?_eq_some_iff.1 ho).1 (fun e => by
      rcases e with rfl | ⟨cs',hc'⟩
      · rw [show w8.heap[kk]? = _ from hIb] at ho; injection ho with ho; subst ho; cases hc
      · rw [show w8.heap[kk]? = _ from hc'] at ho; injection ho with ho; subst ho; cases hc)).trans ho⟩,kpP_t (kpP_below hb8 (by omega) (by omega)) ⟨fun kk hk => ?_,fun g' cs' hi => hbI hi (by decide) (fun e => ?_)⟩,⟨?_,HBW.out.trans ((HB8.out.mono (by omega)).trans HB9.out)⟩,⟨hbI h1 (by decide) (by omega),hbI h2 (by decide) (by omega)⟩,by have:=hb8.size; have:=hk9.size; omega⟩
    · rcases hk with rfl | rfl
      · exact (hbI h1 (by decide) (by omega)).trans h1.symm
      · exact (hbI h2 (by decide) (by omega)).trans h2.symm
    · subst e
      exact absurd (is_type hIb hi) (by decide)
    · rw [catB_next]
      unfold partB
      rw [HKF.out.1,HKF.out.2.1,HKF.out.2.2]
      exact HBD9.out
  case done =>
    rintro D ys W hD hys ⟨⟨hBd,hBw⟩,⟨hOb,hNb⟩,hW5⟩ hd
    have HST:=Lib.hid (bstring_any bb _ W hBd)
    have HBW:=Lib.hid hBw
    have HD:=Lib.hid hd
    have HYS:=Lib.hid hys
    have hW5':=hW5
    clear hBd hBw hOb hNb hd hys
    gi_wp2
    go_wp2_with (
      go_at_call 43
      refine HST.out.mono ?_
      rintro e w8 ⟨rfl,hb8,hk8⟩
      have HD8:=Lib.hid ((hk8 D (fun cs hc => by rw [show W.heap[D]? = _ from hc] at HD; injection HD.out with h; cases h)).trans HD.out)
      have HB8:=Lib.hid (HBW.out.trans hb8)
      have hs8:=hb8.size
      have co8:w8.cell? ⟨ob,0,none⟩=some (.string ⟨#[]⟩):=(HO2.out.below (HBW.out.trans hb8) (by omega)).cell 0
      have fo8:=(HO2.out.below (HBW.out.trans hb8) (by omega)).free 0
      have ce8:w8.cell? ⟨eb,0,none⟩=some (.int .i64 0):=(HE2.out.below (HBW.out.trans hb8) (by omega)).cell 0
      have fe8:=(HE2.out.below (HBW.out.trans hb8) (by omega)).free 0
      clear hb8 hk8)
    obtain ⟨W',hW',k1,k2,hb⟩:=two_set (w:=w) (by omega) (HO2.out.below HB8.out (by omega)) (HE2.out.below HB8.out (by omega)) (HBW2.out.trans (HB8.out.mono (by have:=HBW2.out.size; have:=HBB.out; omega))) (by omega) (by omega) (.string ⟨(catB (Q f) ys).toArray⟩) (.int .i64 0)
    have hD9:W'.heap[D]? = some (.deferred (some [])):=by
      rw [← hW',heap_setCell_other _ ⟨eb,0,none⟩ D _ (by show D ≠ eb; omega),heap_setCell_other _ ⟨ob,0,none⟩ D _ (by show D ≠ ob; omega)]
      exact HD8.out
    rw [hW']
    refine ⟨by simp,.inl ⟨_,_,rfl,run_takeDeferred hD9,?_⟩⟩
    have hgD:w.heap.size ≤ D:=by omega
    have hbD:Below w.heap.size w (W'.putObj D (.deferred none)):=hb.grown (grownBy_putObj' W' D (.deferred none)) hb.size (fun k e => by injection e with e; subst e; exact hgD)
    have hkk:∀ kk,kk < bb → (W'.putObj D (.deferred none)).cell? ⟨kk,0,none⟩=W'.cell? ⟨kk,0,none⟩:=fun kk hk => World.cell?_of_block (a:=⟨kk,0,none⟩) (World.putObj_heap_other (by first | (show kk ≠ D; omega) | (show D ≠ kk; omega)))
    refine Exists.intro (.tuple #[.string ⟨((Q f).rd off size).toArray⟩,.int .i64 0]) ⟨results_str rfl _ _ ob eb _ _ rfl rfl ((hkk ob (by omega)).trans (k1.trans ?_)) ((hkk eb (by omega)).trans k2),rfl,hbD⟩
    rw [cat_all (HFS.out.ok f hf) HYS.out]
    have h1:=HKK.out.2.2
    unfold Pl.rd
    rw [if_neg (by have:=HGE.out; omega),← h1,HMM.out]
end Go.Proofs.YthkijogloebdoaaGreatDoor
end
section
namespace Go.Proofs.YthkijogloebdoaaGreatDoor
open Go.RowKit Go.Maps
theorem infoPr:(Tryz.prog.info? 203).map (fun i => (i.zero,i.size,i.bytes))=some (some (.agg #[.int .i64 0,.int .i64 0]),2,16):=by kernel_rfl
def prCells (ps:List (Nat × Nat)):List Value:=ps.flatMap fun p => [Value.int .i64 (p.1:Int),.int .i64 (p.2:Int)]
theorem prCells_append (p q:List (Nat × Nat)):prCells (p ++ q)=prCells p ++ prCells q:=List.flatMap_append
theorem prCells_one (a n:Nat):prCells [(a,n)]=[Value.int .i64 (a:Int),.int .i64 (n:Int)]:=rfl
theorem prCells_length (ps:List (Nat × Nat)):(prCells ps).length=ps.length * 2:=by
  induction ps with
  | nil => rfl
  | cons x r ih => rw [show x :: r=[x] ++ r from rfl,prCells_append,List.length_append,ih]; simp [prCells]; omega
theorem prCells_at (ps:List (Nat × Nat))(k:Nat)(h:k < ps.length):(prCells ps)[k * 2]? = some (.int .i64 (ps[k].1:Int)) ∧ (prCells ps)[k * 2 + 1]? = some (.int .i64 (ps[k].2:Int)):=by
  have e:ps=ps.take k ++ ([ps[k]] ++ ps.drop (k + 1)):=by simp
  have hl:(prCells (ps.take k)).length=k * 2:=by rw [prCells_length,List.length_take]; omega
  have e2:prCells ps=prCells (ps.take k) ++ ([Value.int .i64 (ps[k].1:Int),.int .i64 (ps[k].2:Int)] ++ prCells (ps.drop (k + 1))):=by
    conv => lhs; rw [e]
    rw [prCells_append,prCells_append]; rfl
  rw [e2]
  constructor
  · rw [List.getElem?_append_right (by omega),hl,Nat.sub_self]; rfl
  · rw [List.getElem?_append_right (by omega),hl,Nat.add_sub_cancel_left]; rfl
def Prs (w:World)(base:Nat)(A:Option Addr)(cap:Nat)(ps:List (Nat × Nat)):Prop:=w.ownsRow base 203 2 (.slice A ps.length cap) ps.length (prCells ps)
section
variable {w w' w2:World}{S:Nat → Prop}{base cap:Nat}{A B:Option Addr}{ps:List (Nat × Nat)}
theorem Prs.nil (w:World)(base:Nat):Prs w base none 0 []:=⟨rfl,.inl ⟨rfl,rfl⟩⟩
theorem Prs.kept (h:Prs w base A cap ps)(hk:∀ g,Of A g → w'.heap[g]? = w.heap[g]?):Prs w' base A cap ps:=by
  refine ⟨h.1,?_⟩
  rcases h.2 with h2 | ⟨g,cap',cur,hv,hg,hh,r⟩
  · exact .inl h2
  · refine .inr ⟨g,cap',cur,hv,hg,?_,r⟩
    injection hv with hA
    rw [hk g hA]; exact hh
theorem Prs.lt (h:Prs w base A cap ps)(g:Nat)(hg:Of A g):g < w.heap.size:=by
  rcases h.2 with ⟨hv,_⟩ | ⟨g',cap',cur,hv,_,hh,_⟩
  · injection hv with hA; unfold Of at hg; rw [hA] at hg; cases hg
  · injection hv with hA
    unfold Of at hg
    rw [hA] at hg
    injection hg with hg
    injection hg with hg
    subst hg
    exact Is.lt hh
theorem Prs.ge (h:Prs w base A cap ps)(g:Nat)(hg:Of A g):base ≤ g:=by
  rcases h.2 with ⟨hv,_⟩ | ⟨g',cap',cur,hv,hb,hh,_⟩
  · injection hv with hA; unfold Of at hg; rw [hA] at hg; cases hg
  · injection hv with hA
    unfold Of at hg
    rw [hA] at hg
    injection hg with hg
    injection hg with hg
    subst hg
    exact hb
theorem Prs.keeps (h:Prs w base A cap ps)(k:Keeps S w w2)(hn:∀ i,Of A i → ¬ S i):Prs w2 base A cap ps:=h.kept fun g hg => k.block g (h.lt g hg) (hn g hg)
theorem Prs.later (h:Prs w base A cap ps)(hb:Below w.heap.size w w2):Prs w2 base A cap ps:=h.kept fun g hg => hb.block g (h.lt g hg)
theorem Prs.base_le {base':Nat}(h:Prs w base A cap ps)(hb:base' ≤ base):Prs w base' A cap ps:=by
  refine ⟨h.1,?_⟩
  rcases h.2 with h2 | ⟨g,cap',cur,hv,hg,r⟩
  · exact .inl h2
  · exact .inr ⟨g,cap',cur,hv,by omega,r⟩
theorem Prs.shape (h:Prs w base A cap ps):A=none ∨ ∃ g,A=some ⟨g,0,none⟩:=by
  rcases h.2 with ⟨hv,_⟩ | ⟨g,cap',cur,hv,_⟩
  · injection hv with hA; exact .inl hA
  · injection hv with hA; exact .inr ⟨g,hA⟩
theorem Prs.cell (h:Prs w base A cap ps){k:Nat}(hk:k < ps.length):∃ g,A=some ⟨g,0,none⟩ ∧ w.cell? ⟨g,k * 2,none⟩=some (.int .i64 (ps[k].1:Int)) ∧ w.cell? ⟨g,k * 2 + 1,none⟩=some (.int .i64 (ps[k].2:Int)) ∧ w.frozen? ⟨g,k * 2 + 1,none⟩=false:=by
  rcases h.2 with ⟨_,h0⟩ | ⟨g,cap',cur,hv,_⟩
  · omega
  · injection hv with hA
    subst hA
    refine ⟨g,rfl,?_,?_,World.ownsRow.frozenAt h _⟩
    · rw [World.ownsRow.cellAt h (k * 2) (by omega)]; exact (prCells_at ps k hk).1
    · rw [World.ownsRow.cellAt h (k * 2 + 1) (by omega)]; exact (prCells_at ps k hk).2
end
theorem prs_of_own {w:World}{base:Nat}{v:Value}{ps:List (Nat × Nat)}(h:w.ownsRow base 203 2 v ps.length (prCells ps)):∃ A cap,v=.slice A ps.length cap ∧ Prs w base A cap ps:=by
  rcases h.2 with ⟨hv,h0⟩ | ⟨g,cap,cur,hv,_⟩
  · have:ps=[]:=List.eq_nil_of_length_eq_zero h0
    subst this
    exact ⟨none,0,hv,by subst hv; exact h⟩
  · exact ⟨_,cap,hv,by subst hv; exact h⟩
set_option maxRecDepth 100000 in
theorem wpList_append_pr {ops:Array Oper}{rest:List Oper}{o:Oper}{a:Act}{w:World}{Q:Exit → Act → World → Prop}(hgd:o.guard=none)(s x:Operand)
    (ho:o.op=.call { callee:=.builtin .append,args := #[s,x],argTypes := #[167,167] })
    (base:Nat)(A:Option Addr)(cap:Nat)(ps:List (Nat × Nat))(hs:a.eval s=.slice A ps.length cap)(hown:Prs w base A cap ps)
    (g c:Nat)(y n:Nat)(hx:a.eval x=.slice (some ⟨g,0,none⟩) 1 c)(h0:w.cell? ⟨g,0,none⟩=some (.int .i64 (y:Int)))(h1:w.cell? ⟨g,1,none⟩=some (.int .i64 (n:Int)))
    (hbytes:(ps.length + 1) * 16 ≤ 140737488355328)(hbase:base ≤ w.heap.size)
    (h:∀ A' cap' w',Prs w' base A' cap' (ps ++ [(y,n)]) → Keeps (Of A) w w' → (∀ i,Of A' i → Of A i ∨ i=w.heap.size) → wpList Tryz.prog ops Q rest (a.put o.dst (.slice A' (ps ++ [(y,n)]).length cap')) w') :
    wpList Tryz.prog ops Q (o :: rest) a w:=by
  obtain ⟨i0,hi,hz0,hz1,hz2⟩:=info_parts infoPr
  refine wpList_append_own_at w hgd s x 167 ho base 203 i0 (.agg #[.int .i64 0,.int .i64 0]) 2 16 Tryz.underlying167 hi hz0 hz1 hz2 rfl (by decide) _ ps.length (prCells ps) hs hown ⟨g,0,none⟩ 1 c (prCells [(y,n)]) hx rfl ?_ ?_
    (by simp only [maxLen]; omega) hbytes hbase ?_
  · intro j u hu
    rw [prCells_one] at hu
    rcases j with _ | _ | j
    · simp at hu; subst hu; exact h0
    · simp at hu; subst hu; exact h1
    · simp at hu
  · intro u hu
    rw [prCells_one] at hu
    simp at hu
    rcases hu with rfl | rfl <;> rfl
  · intro v' w' hown' hg _ hat
    rw [← prCells_append] at hown'
    have e2:ps.length + 1=(ps ++ [(y,n)]).length:=by simp
    rw [e2] at hown'
    obtain ⟨A',cap',rfl,hm⟩:=prs_of_own hown'
    refine h A' cap' w' hm (Keeps.of_grown hown.shape hg) ?_
    intro i hi2
    unfold Of at hi2
    subst hi2
    rcases hat with ha | ha
    · left
      rcases hown.shape with hA | ⟨g',hA⟩
      · subst hA; cases ha
      · subst hA
        injection ha with ha
        have ha:i=g':=ha
        subst ha; rfl
    · right
      injection ha
end Go.Proofs.YthkijogloebdoaaGreatDoor
end
section
namespace Go.Proofs.YthkijogloebdoaaGreatDoor
open Go.RowKit Go.Maps Rec Gp Fs
def AllAt (w:World)(base bb tb a b:Nat)(G:Nat → Prop):Prop :=
  ∃ A cA ps B cB ts,Is w bb 167 #[.slice A ps.length cA] ∧ Is w tb 39 #[.slice B ts.length cB] ∧ Prs w base A cA ps ∧ Nums w base B cB ts ∧ ps.length=a ∧ ts.length=b ∧ ∀ i,G i ↔ Of A i ∨ Of B i
theorem AllAt.ge {w:World}{base bb tb a b:Nat}{G:Nat → Prop}(h:AllAt w base bb tb a b G):∀ i,G i → base ≤ i ∧ i < w.heap.size:=by
  obtain ⟨A,cA,ps,B,cB,ts,i1,i2,p1,p2,_,_,hG⟩:=h
  intro i hi
  rcases (hG i).1 hi with e | e
  · exact ⟨p1.ge i e,p1.lt i e⟩
  · exact ⟨p2.ge i e,p2.lt i e⟩
theorem AllAt.keeps {w w2:World}{base bb tb a b:Nat}{G S:Nat → Prop}(h:AllAt w base bb tb a b G)(k:Keeps S w w2)(h1:¬ S bb)(h2:¬ S tb)(h3:∀ i,G i → ¬ S i):AllAt w2 base bb tb a b G:=by
  obtain ⟨A,cA,ps,B,cB,ts,i1,i2,p1,p2,ha,hb,hG⟩:=h
  exact ⟨A,cA,ps,B,cB,ts,i1.keeps k h1,i2.keeps k h2,p1.keeps k (fun i e => h3 i ((hG i).2 (.inl e))),p2.keeps k (fun i e => h3 i ((hG i).2 (.inr e))),ha,hb,hG⟩
theorem AllAt.later {w w2:World}{base bb tb a b:Nat}{G:Nat → Prop}(h:AllAt w base bb tb a b G)(k:Below w.heap.size w w2):AllAt w2 base bb tb a b G :=
  h.keeps (Keeps.of_below k (S:=fun _ => False)) (fun e => e) (fun e => e) (fun _ _ e => e)
def AllStep (base bb tb:Nat)(w:World)(a b:Nat)(G:Nat → Prop)(da db:Nat)(e:Ending)(w':World):Prop :=
  e=.returned (.int .i64 0) ∧ ∃ G',AllAt w' base bb tb (a + da) (b + db) G' ∧ FrX (fun i => i=bb ∨ i=tb) w G w' G'
structure AllB (c:Cx)(w:World)(O:Nat → Prop)(T:Tn)(n:Nat)(x:Ino)(F fb ob eb bb tb base:Nat):Prop where
  env:Env c w O T n
  file:FileAt w F c.t n x
  f:Is w fb 140 #[.pointer (some ⟨F,0,none⟩)]
  o:Is w ob 204 #[.func (.func 125) #[] #[.pointer (some ⟨bb,0,none⟩),.pointer (some ⟨fb,0,none⟩)]]
  e:Is w eb 205 #[.func (.func 126) #[] #[.pointer (some ⟨fb,0,none⟩),.pointer (some ⟨tb,0,none⟩)]]
  lt:F < base ∧ fb < base ∧ ob < base ∧ eb < base ∧ bb < base ∧ tb < base
  ne:F ≠ bb ∧ F ≠ tb ∧ fb ≠ bb ∧ fb ≠ tb ∧ ob ≠ bb ∧ ob ≠ tb ∧ eb ≠ bb ∧ eb ≠ tb ∧ bb ≠ tb
  out:∀ i,O i → i < base ∧ i ≠ bb ∧ i ≠ tb
  wd:0 < base ∧ 0 ≠ bb ∧ 0 ≠ tb
theorem AllB.frX {c:Cx}{w w2:World}{O:Nat → Prop}{T:Tn}{n:Nat}{x:Ino}{F fb ob eb bb tb base:Nat}{G G2:Nat → Prop}(h:AllB c w O T n x F fb ob eb bb tb base)(k:FrX (fun i => i=bb ∨ i=tb) w G w2 G2)(hG:∀ i,G i → base ≤ i):AllB c w2 O T n x F fb ob eb bb tb base:=by
  have hn:∀ i,i < base → ¬ (G i):=fun i hi e => by have:=hG i e; omega
  obtain ⟨l1,l2,l3,l4,l5,l6⟩:=h.lt
  obtain ⟨n1,n2,n3,n4,n5,n6,n7,n8,n9⟩:=h.ne
  have ht:TxnAt c w2 O T:=h.env.tx.keeps k.1 (fun i e hi => by have:=h.out i hi; rcases e with e | e | e; exact hn i this.1 e; exact this.2.1 e; exact this.2.2 e)
  refine ⟨⟨ht,h.env.hn,h.env.hN,h.env.wd.same (k.1.block _ h.env.wd.lt (fun e => by rcases e with e | e | e; exact hn _ h.wd.1 e; exact h.wd.2.1 e; exact h.wd.2.2 e)),h.env.wo⟩,Is.frX h.file k (hn _ l1) (by rintro (e | e) <;> omega),h.f.frX k (hn _ l2) (by rintro (e | e) <;> omega),h.o.frX k (hn _ l3) (by rintro (e | e) <;> omega),h.e.frX k (hn _ l4) (by rintro (e | e) <;> omega),h.lt,h.ne,h.out,h.wd⟩
theorem AllB.later {c:Cx}{w w2:World}{O:Nat → Prop}{T:Tn}{n:Nat}{x:Ino}{F fb ob eb bb tb base:Nat}(h:AllB c w O T n x F fb ob eb bb tb base)(k:Below w.heap.size w w2):AllB c w2 O T n x F fb ob eb bb tb base :=
  h.frX (G:=fun _ => False) (G2:=fun _ => False) (FrX.of_below k) (fun _ e => e.elim)
set_option maxRecDepth 100000 in
set_option maxHeartbeats 800000 in
theorem own1_any (c:Cx)(w:World)(O:Nat → Prop)(T:Tn)(n:Nat)(x:Ino)(F fb ob eb bb tb base:Nat)(h:AllB c w O T n x F fb ob eb bb tb base)(a b:Nat)(G:Nat → Prop)(hA:AllAt w base bb tb a b G)(hw:base ≤ w.heap.size)(k num:Nat)(hd:num ≠ 0 → dat n ≤ num ∧ num < n)(ha:a ≤ 100000) :
    Calls Tryz.prog 125 #[.int .i64 (k:Int),.int .i64 (num:Int),.pointer (some ⟨bb,0,none⟩),.pointer (some ⟨fb,0,none⟩)] w (AllStep base bb tb w a b G (if num=0 then 0 else 1) 0):=by
  by_cases hz:num=0
  · have hzb:((num:Int) == 0)=true:=by rw [beq_iff_eq]; omega
    rw [if_pos hz]
    have HA:=Lib.hid hA
    clear h hd hA hz
    go_enter Tryz.func125,Tryz.ntmps125
    go_wp2_with fail
    go_ret
    exact ⟨rfl,G,HA.out,FrX.of_below (Below.refl _ _)⟩
  · have hzb:((num:Int) == 0)=false:=by rw [beq_eq_false_iff_ne]; omega
    rw [if_neg hz]
    obtain ⟨d1,d2⟩:=hd hz
    have HH:=Lib.hid h
    obtain ⟨A,cA,ps,B,cB,ts,i1,i2,p1,p2,hpa,htb,hG⟩:=hA
    have c1:w.cell? ⟨bb,0,none⟩=some (.slice A ps.length cA):=i1.cell 0
    have c2:w.cell? ⟨fb,0,none⟩=some (.pointer (some ⟨F,0,none⟩)):=h.f.cell 0
    have I1:=Lib.hid i1
    have I2:=Lib.hid i2
    have P1:=Lib.hid p1
    have P2:=Lib.hid p2
    have HGG:=Lib.hid hG
    have HPA:=Lib.hid hpa
    have HTB:=Lib.hid htb
    have hbl:=i1.lt
    have hfl:=h.f.lt
    clear h hd i1 i2 p1 p2 hG hpa htb hz
    go_enter Tryz.func125,Tryz.ntmps125
    have HL:=Lib.hid (fun w1 (hF:FileAt w1 F c.t n x) => look_any w1 F c.t n x num hF d1 d2)
    have hAe:ps.length ≤ 100000:=by rw [HPA.out]; exact ha
    obtain ⟨l1,l2,l3,l4,l5,l6⟩:=HH.out.lt
    obtain ⟨n1,n2,n3,n4,n5,n6,n7,n8,n9⟩:=HH.out.ne
    go_wp2_with (first
      | (at_builtin
         refine wpList_append_pr rfl (.tmp 9) (.tmp 13) rfl base A cA ps (by rfl) (P1.out.later (below_new w _)) w.heap.size _ k num (by rfl) ((one_new w #[.int .i64 (k:Int),.int .i64 (num:Int)] 203).2.cell 0) ((one_new w #[.int .i64 (k:Int),.int .i64 (num:Int)] 203).2.cell 1) (by omega) (by simp; omega) ?_
         intro A5 c5 w5 hS5 hk5 hA5
         have HS5:=Lib.hid hS5
         have HK5:=Lib.hid hk5
         have HA5:=Lib.hid hA5
         have HB1:=Lib.hid (one_new w #[.int .i64 (k:Int),.int .i64 (num:Int)] 203).1
         have HBB5:=Lib.hid ((I1.out.below HB1.out hbl).keeps hk5 (fun e => by have:=P1.out.ge _ e; omega))
         have HF5:=Lib.hid (Is.keeps (Is.below HH.out.file HB1.out HH.out.file.lt) hk5 (fun e => by have:=P1.out.ge _ e; omega))
         have f5:=HBB5.out.free 0
         have c15:w5.cell? ⟨bb,0,none⟩=some (.slice A ps.length cA):=HBB5.out.cell 0
         have hc2:w5.cell? ⟨fb,0,none⟩=some (.pointer (some ⟨F,0,none⟩)):=((HH.out.f.below HB1.out hfl).keeps hk5 (fun e => by have:=P1.out.ge _ e; omega)).cell 0
         clear hS5 hk5 hA5)
      | (go_at_call 101
         refine (HL.out _ (Is.other HF5.out ⟨bb,0,none⟩ (by show F ≠ bb; exact n1) _)).mono ?_
         rintro e w6 ⟨rfl,rfl⟩))
    go_ret
    refine ⟨rfl,fun i => Of A5 i ∨ Of B i,⟨A5,c5,_,B,cB,ts,by rw [show (ps ++ [(k,num)]).length=ps.length + 1 by simp]; exact HBB5.out.put 0 _,((I2.out.below HB1.out I2.out.lt).keeps HK5.out (fun e => by have:=P1.out.ge _ e; omega)).other ⟨bb,0,none⟩ (by show tb ≠ bb; omega) _,HS5.out.kept (fun g hg => heap_setCell_other _ _ _ _ (by rintro rfl; have:=HS5.out.ge _ hg; omega)),((P2.out.later HB1.out).keeps HK5.out ?_).kept (fun g hg => heap_setCell_other _ _ _ _ (by rintro rfl; have:=P2.out.ge _ hg; omega)),by rw [List.length_append,HPA.out]; rfl,HTB.out,fun i => Iff.rfl⟩,?_⟩
    · intro i hb ha
      rcases P1.out.2 with ⟨hv,_⟩ | ⟨g,cap',cur,hv,_,hh,_⟩
      · injection hv with hA; unfold Of at ha; rw [hA] at ha; cases ha
      rcases P2.out.2 with ⟨hv2,_⟩ | ⟨g2,cap2,cur2,hv2,_,hh2,_⟩
      · injection hv2 with hA; unfold Of at hb; rw [hA] at hb; cases hb
      injection hv with hA
      injection hv2 with hA2
      unfold Of at ha hb
      rw [hA] at ha
      rw [hA2] at hb
      injection ha with ha; injection ha with ha
      injection hb with hb; injection hb with hb
      subst ha
      subst hb
      rw [hh] at hh2
      injection hh2 with hh2
      injection hh2 with _ ht
      exact absurd ht (by decide)
    · refine ⟨((Keeps.of_below HB1.out).trans (HK5.out.mono (fun i e => ?_))).trans ((keeps_set _ bb 0 _).mono (fun i e => .inr (.inl e))),fun i e => ?_⟩
      · exact .inl ((HGG.out i).2 (.inl e))
      · rcases e with e | e
        · rcases HA5.out i e with e2 | e2
          · exact .inl ((HGG.out i).2 (.inl e2))
          · right; rw [e2,World.size_alloc]; omega
        · exact .inl ((HGG.out i).2 (.inr e))
end Go.Proofs.YthkijogloebdoaaGreatDoor
end
