/-
  WholeFiles, the texts Bi Bk Bm: lemmas for the proof that three files on one disk are plain rows of bytes. No conditions.
-/
import Derived.Test.YthkijogloebdoaaGreatDoorM18
import Derived.StillTailTactics
set_option linter.unusedVariables false
set_option linter.unusedSimpArgs false
section
namespace Go.Proofs.YthkijogloebdoaaGreatDoor.Fs
open Rec Gp
def Pu (P0:Nat → Bool)(U:Nat → Nat → Bool)(i:Nat):Nat → Bool:=fun p => P0 p || (List.range i).any (fun s => U s p)
theorem any_succ (p:Nat → Bool)(i:Nat):(List.range (i + 1)).any p=((List.range i).any p || p i):=by
  rw [List.range_succ,List.any_append]; simp
theorem Pu_zero (P0:Nat → Bool)(U:Nat → Nat → Bool):Pu P0 U 0=P0:=by funext p; unfold Pu; simp
theorem Pu_succ (P0:Nat → Bool)(U:Nat → Nat → Bool)(i:Nat):Pu P0 U (i + 1)=fun p => Pu P0 U i p || U i p:=by
  funext p; unfold Pu; rw [any_succ,Bool.or_assoc]
theorem Pu_iff {P0:Nat → Bool}{U:Nat → Nat → Bool}{i p:Nat}:Pu P0 U i p=true ↔ P0 p=true ∨ ∃ s,s < i ∧ U s p=true:=by
  unfold Pu
  rw [Bool.or_eq_true,any_iff]
def Eu (L:Nat → Nat → Nat)(f k q:Nat)(E0:Nat → Prop)(i:Nat):Nat → Prop:=fun p => E0 p ∨ ∃ s,s < i ∧ p=kid q s ∧ L f p ≠ 0 ∧ cutL L f k p=0
def leftB (L:Nat → Nat → Nat)(f k q i:Nat):Bool:=(List.range i).any fun s => decide (cutL L f k (kid q s) ≠ 0)
def turnedB (L:Nat → Nat → Nat)(f k q i:Nat):Bool:=(List.range i).any fun s => decide (L f (kid q s) ≠ 0 ∧ cutL L f k (kid q s)=0)
def U1 (q:Nat):Nat → Nat → Bool:=fun s p => p == kid q s
def U2:Nat → Nat → Bool:=fun s p => p == 16524 + s || decide (138 + 128 * s ≤ p ∧ p < 138 + 128 * s + 128)
end Go.Proofs.YthkijogloebdoaaGreatDoor.Fs
namespace Go.Proofs.YthkijogloebdoaaGreatDoor
open Go.RowKit Go.Maps Rec Gp Fs
structure CutSt (c:Cx)(w0:World)(O0:Nat → Prop)(T0:Tn)(n:Nat)(X:Nat → Ino)(L:Nat → Nat → Nat)(f k:Nat)(S:List Nat)(wr:World)(O:Nat → Prop)(T:Tn)(P:Nat → Bool)(E:Nat → Prop)(m:Nat):Prop where
  env:Env c wr O T n
  fr:Fr w0 O0 wr O
  tree:Tree n (T.view c.D) X (Lp L f k P) (fun g p => g=f ∧ E p)
  far:∀ i,ino n ≤ i → (∀ q,16522 ≤ q → L f q ≠ i) → T.view c.D i=T0.view c.D i
  cov:T.Cov S
  ext:Tn.Ext T0 T
  len:T.H.length ≤ T0.H.length + m
section
variable {c:Cx}{w0 wr w2:World}{O0 O O2:Nat → Prop}{T0 T T2:Tn}{n:Nat}{X X2:Nat → Ino}{L:Nat → Nat → Nat}{f k:Nat}{S:List Nat}{P P2:Nat → Bool}{E E2:Nat → Prop}{m m2:Nat}
theorem CutSt.later (h:CutSt c w0 O0 T0 n X L f k S wr O T P E m)(hb:Below wr.heap.size wr w2):CutSt c w0 O0 T0 n X L f k S w2 O T P E m :=
  ⟨h.env.later hb,h.fr.trans (Fr.of_below hb),h.tree,h.far,h.cov,h.ext,h.len⟩
theorem CutSt.keep1 {g:Nat}(h:CutSt c w0 O0 T0 n X L f k S wr O T P E m)(hk:Keeps (·=g) wr w2)(hn:¬ O g)(hg:w0.heap.size ≤ g)(hw:w0.heap.size > 0):CutSt c w0 O0 T0 n X L f k S w2 O T P E m :=
  ⟨h.env.keep1 hk hn (by omega),h.fr.keep hk (fun i e => by rw [show i=g from e]; exact hg),h.tree,h.far,h.cov,h.ext,h.len⟩
theorem CutSt.skip (h:CutSt c w0 O0 T0 n X L f k S wr O T P E m)(h1:∀ p,P p=true → P2 p=true)(h2:∀ p,P2 p=true → P p=true ∨ cutL L f k p=L f p)(hE:∀ p,E p ↔ E2 p)(hm:m ≤ m2):CutSt c w0 O0 T0 n X L f k S wr O T P2 E2 m2 :=
  ⟨h.env,h.fr,by rw [Lp_same h1 h2]; exact h.tree.same (fun g p e => ⟨e.1,(hE p).1 e.2⟩) (fun g p e => ⟨e.1,(hE p).2 e.2⟩),h.far,h.cov,h.ext,by have:=h.len; omega⟩
theorem CutSt.give (h:CutSt c w0 O0 T0 n X L f k S wr O T P E m){p:Nat}(hP:P p=false)(hp:L f p ≠ 0)(h0:cutL L f k p=0)(hk:∀ q,q < 16652 → par q=p → Lp L f k P f q=0)(hP2:∀ r,P2 r=(P r || r == p))(hbm:98 + L f p / 4096 ∈ S)
    (ht:TxnAt c w2 O2 (T.put (98 + L f p / 4096) (Bt.putL (T.view c.D (98 + L f p / 4096)) ((L f p % 4096:Nat):Int) false)))(hf:Fr wr O w2 O2)(hE2:∀ r,E2 r ↔ E r ∨ r=p) :
    CutSt c w0 O0 T0 n X L f k S w2 O2 (T.put (98 + L f p / 4096) (Bt.putL (T.view c.D (98 + L f p / 4096)) ((L f p % 4096:Nat):Int) false)) P2 E2 (m + 1):=by
  have hl:=Lp_out (L:=L) (f:=f) (k:=k) hP
  have hg:=h.tree.give h.env.hn (f:=f) (p:=p) (by rw [hl]; exact hp) hk
  rw [hl] at hg
  obtain ⟨_,_,_,i4⟩:=h.tree.inn f p (by rw [hl]; exact hp)
  rw [hl] at i4
  refine ⟨h.env.fr ht hf,h.fr.trans hf,?_,fun i h1 h2 => ?_,h.cov.put hbm _,h.ext.put _ _,by rw [Tn.put_len]; have:=h.len; omega⟩
  · rw [view_upd,Lp_drop hP2 h0]
    exact hg.same (fun g r e => by
      rcases e with e | e
      · exact ⟨e.1,(hE2 r).2 (.inl e.2)⟩
      · exact ⟨e.1,(hE2 r).2 (.inr e.2)⟩) (fun g r e => by
      rcases (hE2 r).1 e.2 with e2 | e2
      · exact .inl ⟨e.1,e2⟩
      · exact .inr ⟨e.1,e2⟩)
  · rw [view_upd,upd_other _ _ _ (by have:=bm_lt h.env.hn i4; omega)]
    exact h.far i h1 h2
theorem no_kids {p q:Nat}(hp:p < 16522)(hq:q < 16652):par q ≠ p:=fun e => by
  have:=kid_par hq (by omega)
  omega
theorem CutSt.table (h:CutSt c w0 O0 T0 n X L f k S wr O T P E m){q:Nat}{b:List UInt8}(hq0:16522 ≤ q)(hP:P q=false)(h0:cutL L f k q ≠ 0)(hb:b.length=512)(hkid:∀ s,s < 128 → P (kid q s)=true ∧ nm b (4 * s) 4=cutL L f k (kid q s))(hP2:∀ r,P2 r=(P r || r == q))(hS:L f q ∈ S)
    (ht:TxnAt c w2 O2 (T.put (L f q) b))(hf:Fr wr O w2 O2)(hE2:∀ r,E2 r ↔ E r ∧ par r ≠ q):CutSt c w0 O0 T0 n X L f k S w2 O2 (T.put (L f q) b) P2 E2 (m + 1):=by
  have hl:=Lp_out (L:=L) (f:=f) (k:=k) hP
  have hLq:L f q ≠ 0:=fun e => h0 (cutL_zero e)
  have hg:=h.tree.table h.env.hn (f:=f) (q:=q) (l:=b) hq0 (by rw [hl]; exact hLq) hb (fun s hs => by rw [Lp_in (hkid s hs).1]; exact (hkid s hs).2)
  rw [hl] at hg
  refine ⟨h.env.fr ht hf,h.fr.trans hf,?_,fun i h1 h2 => ?_,h.cov.put hS _,h.ext.put _ _,by rw [Tn.put_len]; have:=h.len; omega⟩
  · rw [view_upd,Lp_same (P:=P) (P2:=P2) (fun p hp => by rw [hP2,hp]; rfl) (fun p hp => by
      rw [hP2,Bool.or_eq_true] at hp
      rcases hp with hp | hp
      · exact .inl hp
      · rw [beq_iff_eq] at hp; subst hp; exact .inr (cutL_ne h0))]
    exact hg.same (fun g r e => ⟨e.1.1,(hE2 r).2 ⟨e.1.2,fun e2 => e.2 ⟨e.1.1,e2⟩⟩⟩) (fun g r e => ⟨⟨e.1,((hE2 r).1 e.2).1⟩,fun e2 => ((hE2 r).1 e.2).2 e2.2⟩)
  · rw [view_upd,upd_other _ _ _ (fun e => h2 q hq0 e.symm)]
    exact h.far i h1 h2
theorem CutSt.dead (h:CutSt c w0 O0 T0 n X L f k S wr O T P E m){q:Nat}(hq0:16522 ≤ q)(hq1:q < 16652)(hP:P q=true)(h0:cutL L f k q=0)(hE2:∀ r,E2 r ↔ E r ∧ par r ≠ q):CutSt c w0 O0 T0 n X L f k S wr O T P E2 m:=by
  refine ⟨h.env,h.fr,?_,h.far,h.cov,h.ext,h.len⟩
  have hg:=h.tree.dead (f:=f) (q:=q) hq0 hq1 (by rw [Lp_in hP]; exact h0)
  exact hg.same (fun g r e => ⟨e.1.1,(hE2 r).2 ⟨e.1.2,fun e2 => e.2 ⟨e.1.1,e2⟩⟩⟩) (fun g r e => ⟨⟨e.1,((hE2 r).1 e.2).1⟩,fun e2 => ((hE2 r).1 e.2).2 e2.2⟩)
theorem CutSt.root (h:CutSt c w0 O0 T0 n X L f k S wr O T P E m){p v:Nat}(hr:par p=16652)(hp:p < 16652)(hv:Lp L f k P f p=v)(hE2:∀ r,E2 r ↔ E r ∧ r ≠ p):CutSt c w0 O0 T0 n (updX X f ((X f).set (slot p) v)) L f k S wr O T P E2 m:=by
  refine ⟨h.env,h.fr,?_,h.far,h.cov,h.ext,h.len⟩
  have hg:=h.tree.root hr hp hv
  exact hg.same (fun g r e => ⟨e.1.1,(hE2 r).2 ⟨e.1.2,fun e2 => e.2 ⟨e.1.1,e2⟩⟩⟩) (fun g r e => ⟨⟨e.1,((hE2 r).1 e.2).1⟩,fun e2 => ((hE2 r).1 e.2).2 e2.2⟩)
end
end Go.Proofs.YthkijogloebdoaaGreatDoor
end
section
namespace Go.Proofs.YthkijogloebdoaaGreatDoor
open Go.RowKit Go.Maps Rec Gp Fs
structure CutRow (w wr:World)(O Oi:Nat → Prop)(F t n:Nat)(x:Ino)(g lg:Nat)(l b:List UInt8)(L:Nat → Nat → Nat)(f k q i:Nat):Prop where
  fr:Fr w O wr Oi
  file:FileAt wr F t n x
  rw_:Rw wr g b
  len:b.length=512
  nums:NumsAt wr lg l
  ng:¬ Oi g
  nl:¬ Oi lg
  val:∀ s,s < 128 → nm b (4 * s) 4=if s < i then cutL L f k (kid q s) else L f (kid q s)
theorem CutRow.next {w wr:World}{O Oi:Nat → Prop}{F t n:Nat}{x:Ino}{g lg:Nat}{l b:List UInt8}{L:Nat → Nat → Nat}{f k q i:Nat}(h:CutRow w wr O Oi F t n x g lg l b L f k q i)(hi:cutL L f k (kid q i)=L f (kid q i)):CutRow w wr O Oi F t n x g lg l b L f k q (i + 1) :=
  ⟨h.fr,h.file,h.rw_,h.len,h.nums,h.ng,h.nl,fun s hs => by
    rw [h.val s hs]
    by_cases e:s < i
    · rw [if_pos e,if_pos (by omega)]
    · rw [if_neg e]
      by_cases e2:s=i
      · subst e2; rw [if_pos (by omega),hi]
      · rw [if_neg (by omega)]⟩
theorem leftB_succ (L:Nat → Nat → Nat)(f k q i:Nat):leftB L f k q (i + 1)=(leftB L f k q i || decide (cutL L f k (kid q i) ≠ 0)):=any_succ _ _
theorem turnedB_succ (L:Nat → Nat → Nat)(f k q i:Nat):turnedB L f k q (i + 1)=(turnedB L f k q i || decide (L f (kid q i) ≠ 0 ∧ cutL L f k (kid q i)=0)):=any_succ _ _
theorem kid_inj {q s s2:Nat}(h0:16522 ≤ q)(h1:q < 16652)(hs:s < 128)(hs2:s2 < 128)(h:kid q s=kid q s2):s=s2:=by
  have e1:=(par_kid h0 h1 hs).2.1
  have e2:=(par_kid h0 h1 hs2).2.1
  rw [h] at e1; omega
theorem les_zero:les 0 4=[0,0,0,0]:=by decide
def CutDone (c:Cx)(w0:World)(O0:Nat → Prop)(T0:Tn)(n:Nat)(X:Nat → Ino)(L:Nat → Nat → Nat)(f k:Nat)(S:List Nat)(w:World)(O:Nat → Prop)(P0:Nat → Bool)(E0:Nat → Prop)(m q:Nat)(U:Nat → Nat → Bool)(e:Ending)(w':World):Prop :=
  e=.returned (.tuple #[.bool (decide (cutL L f k q ≠ 0)),.int .i64 0]) ∧ ∃ (O':Nat → Prop) (T':Tn),CutSt c w0 O0 T0 n X L f k S w' O' T' (fun p => Pu P0 U 128 p || p == q) (fun p => E0 p ∨ (p=q ∧ cutL L f k q=0)) m ∧ Fr w O w' O'
set_option maxRecDepth 100000 in
set_option maxHeartbeats 3200000 in
theorem cut1_any (c:Cx)(w0:World)(O0:Nat → Prop)(T0:Tn)(n:Nat)(X X0:Nat → Ino)(L:Nat → Nat → Nat)(f k:Nat)(S:List Nat)(w:World)(O:Nat → Prop)(T:Tn)(P0:Nat → Bool)(E0:Nat → Prop)(m:Nat)(h:CutSt c w0 O0 T0 n X L f k S w O T P0 E0 m)(h0:Tree0 n (T0.view c.D) X0 L)(hf:f < 3)
    (x:Ino)(F q a:Nat)(from_:Int)(hF:FileAt w F c.t n x)(oF:¬ O F)(hq0:16522 ≤ q)(hq1:q < 16652)(hq2:q ≠ 16523)(hPq:P0 q=false)(hPk:∀ s,s < 128 → P0 (kid q s)=false)(hE0:∀ p,E0 p → par p ≠ q)(ha:L f q=a)(ha0:a ≠ 0)
    (hfrom:∀ s:Nat,s < 128 → ((s:Int) < from_ ↔ kid q s < k))(hbm:∀ i,98 ≤ i → i < ino n → i ∈ S)(hSq:(∃ s,s < 128 ∧ L f (kid q s) ≠ 0 ∧ cutL L f k (kid q s)=0) → cutL L f k q ≠ 0 → a ∈ S)(h96:S.length ≤ 96)(hT:T0.H.length + 20000 ≤ 1000000)(hm:m + 129 ≤ 17000)(hww:0 < w0.heap.size) :
    Calls Tryz.prog 76 #[.pointer (some ⟨F,0,none⟩),.int .i64 (a:Int),.int .i64 from_,.func (.func 77) #[.pointer (some ⟨F,0,none⟩)] #[]] w (CutDone c w0 O0 T0 n X L f k S w O P0 E0 (m + 129) q (U1 q)):=by
  have hLq:Lp L f k P0 f q=a:=(Lp_out hPq).trans ha
  obtain ⟨_,_,ia,ib⟩:=h0.inn f q (by rw [ha]; exact ha0)
  rw [ha] at ia ib
  have hleaf:∀ s,s < 128 → kid q s < 16522:=fun s hs => by unfold kid; rw [if_neg hq2]; split <;> omega
  have hidx:∀ s,s < 128 → cutL L f k (kid q s)=if kid q s < k then L f (kid q s) else 0:=fun s hs => cutL_index (hleaf s hs)
  have hval0:∀ s,s < 128 → nm (T.view c.D a) (4 * s) 4=L f (kid q s):=fun s hs => by
    obtain ⟨k1,k2,k3⟩:=par_kid hq0 hq1 hs
    have hr:=h.tree.ref f (kid q s) hf k3 (fun e => hE0 _ e.2 k1)
    rw [Lp_out (hPk s hs),refn_tab (by rw [k1]; omega) (by rw [k1,hLq]; exact ha0),k1,k2,hLq] at hr
    exact hr.symm
  have HN:=Lib.hid (fnumbers_any c w O T n h.env x F a hF ia ib)
  have hFl:=hF.lt
  have HS0:=Lib.hid h
  have HF:=Lib.hid hF
  have HL0:=Lib.hid hleaf
  have HIX:=Lib.hid hidx
  have HV0:=Lib.hid hval0
  have HPK:=Lib.hid hPk
  have HE0:=Lib.hid hE0
  have HFROM:=Lib.hid hfrom
  have HBM:=Lib.hid hbm
  have HSQ:=Lib.hid hSq
  have HLE:=Lib.hid (h.env.len ib)
  have hw0:=h.fr.size
  have hOlt:=Lib.hid h.env.tx.lt
  have H0:=Lib.hid h0
  obtain ⟨l,hl⟩:∃ l,T.view c.D a=l:=⟨_,rfl⟩
  rw [hl] at HN HV0 HLE
  obtain ⟨t,ht⟩:∃ t,c.t=t:=⟨_,rfl⟩
  have HTT:=Lib.hid ht
  clear h hF hleaf hidx hval0 hPk hE0 hfrom hbm hSq h0 hl
  go_enter Tryz.func76,Tryz.ntmps76
  go_wp2_with (
    go_at_call 110
    refine HN.out.mono ?_
    rintro e w1 ⟨⟨g,cp,lg,rfl,hg,hn,hgs,hls,hne⟩,hb1⟩
    have HG:=Lib.hid hg
    have HNS:=Lib.hid hn
    have HB1:=Lib.hid hb1
    clear hg hn hb1)
  have hs1:=HB1.out.size
  go_loopw [13,14,31] (fun v13 v14 v31 wr => ∃ i:Nat,i ≤ 128 ∧ v31=.int .i64 (i:Int) ∧ v13=.bool (leftB L f k q i) ∧ v14=.bool (turnedB L f k q i) ∧ ∃ (Oi:Nat → Prop) (Ti:Tn) (b:List UInt8),CutSt c w0 O0 T0 n X L f k S wr Oi Ti (Pu P0 (U1 q) i) (Eu L f k q E0 i) (m + i) ∧ CutRow w wr O Oi F c.t n x g lg l b L f k q i) (fun _ _ v31 _ => 128 - (intOf v31).toNat)
  case atStart =>
    refine ⟨0,by omega,rfl,rfl,rfl,O,T,l,?_,⟨Fr.of_below HB1.out,Is.below HF.out HB1.out hFl,HG.out,HLE.out,HNS.out,fun o => by have:=hOlt.out _ o; omega,fun o => by have:=hOlt.out _ o; omega,fun s hs => by rw [if_neg (by omega)]; exact HV0.out s hs⟩⟩
    exact (HS0.out.later HB1.out).skip (fun p hp => by rw [Pu_zero]; exact hp) (fun p hp => by rw [Pu_zero] at hp; exact .inl hp) (fun p => ⟨fun e => .inl e,fun e => e.elim id (fun e => by obtain ⟨s,hs,_⟩:=e; omega)⟩) (by omega)
  case round =>
    obtain ⟨i,hi,rfl,rfl,rfl,Oi,Ti,b,hst,hrow⟩:=hrel
    have HST:=Lib.hid hst
    have HROW:=Lib.hid hrow
    obtain ⟨lb,hlb⟩:∃ lb,leftB L f k q i=lb:=⟨_,rfl⟩
    obtain ⟨tb,htb⟩:∃ tb,turnedB L f k q i=tb:=⟨_,rfl⟩
    rw [hlb,htb]
    by_cases hlt:i < 128
    · obtain ⟨num, hnum⟩:∃ num,L f (kid q i)=num:=⟨_,rfl⟩
      have hc:wr.cell? ⟨lg,i,none⟩=some (.int .i64 (num:Int)):=by
        obtain ⟨cs,h1,h2,h3⟩:=hrow.nums
        rw [h1.cell i,h3 i hlt,HV0.out i hlt,hnum]
      obtain ⟨k1,k2,k3⟩:=par_kid hq0 hq1 hlt
      have hPi:Pu P0 (U1 q) i (kid q i)=false:=by
        rw [Bool.eq_false_iff]
        intro e
        rcases Pu_iff.1 e with e | ⟨s,hs,e⟩
        · rw [HPK.out i hlt] at e; cases e
        · have:=kid_inj hq0 hq1 hlt (by omega) (beq_iff_eq.1 e); omega
      have hlt2:(i:Int) < 128:=by omega
      clear hst hrow
      by_cases hz:num=0
      · have hzb:((num:Int) == 0)=true:=by rw [beq_iff_eq]; omega
        go_wp2_with fail
        case roundEnd =>
        have hcz:cutL L f k (kid q i)=0:=cutL_zero (hnum.trans hz)
        refine ⟨⟨i + 1,by omega,by go_num,?_,?_,Oi,Ti,b,?_,HROW.out.next (by rw [hcz,hnum,hz])⟩,by simp [intOf]; omega⟩
        · rw [leftB_succ,hlb,hcz]; simp
        · rw [turnedB_succ,htb,hnum,hz]; simp
        · exact HST.out.skip (fun p hp => by rw [Pu_succ]; simp [hp]) (fun p hp => by
            rw [Pu_succ,Bool.or_eq_true] at hp
            rcases hp with hp | hp
            · exact .inl hp
            · obtain rfl:p=kid q i:=beq_iff_eq.1 hp
              exact .inr (by rw [hcz,hnum,hz])) (fun p => ⟨fun e => e.imp id (fun ⟨s,hs,e⟩ => ⟨s,by omega,e⟩),fun e => e.imp id (fun ⟨s,hs,e3⟩ => ⟨s,by
              rcases Nat.lt_or_ge s i with h1 | h1
              · exact h1
              · have h2:s=i:=by omega
                rw [e3.1,h2,hnum] at e3; exact absurd hz e3.2.1,e3⟩)⟩) (by omega)
      · have hzb : ((num:Int) == 0)=false:=by rw [beq_eq_false_iff_ne]; omega
        by_cases hk:kid q i < k
        · have hfr:=(HFROM.out i hlt).2 hk
          go_wp2_with fail
          case roundEnd =>
          have hcz:cutL L f k (kid q i)=L f (kid q i):=by rw [HIX.out i hlt,if_pos hk]
          refine ⟨⟨i + 1,by omega,by go_num,?_,?_,Oi,Ti,b,?_,HROW.out.next hcz⟩,by simp [intOf]; omega⟩
          · rw [leftB_succ,hcz,hnum,decide_eq_true hz,Bool.or_true]
          · rw [turnedB_succ,htb,hcz,hnum,decide_eq_false (fun e => hz e.2),Bool.or_false]
          · exact HST.out.skip (fun p hp => by rw [Pu_succ]; simp [hp]) (fun p hp => by
              rw [Pu_succ,Bool.or_eq_true] at hp
              rcases hp with hp | hp
              · exact .inl hp
              · obtain rfl:p=kid q i:=beq_iff_eq.1 hp
                exact .inr hcz) (fun p => ⟨fun e => e.imp id (fun ⟨s,hs,e⟩ => ⟨s,by omega,e⟩),fun e => e.imp id (fun ⟨s,hs,e3⟩ => ⟨s,by
                rcases Nat.lt_or_ge s i with h1 | h1
                · exact h1
                · have h2:s=i:=by omega
                  rw [e3.1,h2,hcz,hnum] at e3; exact absurd e3.2.2 hz,e3⟩)⟩) (by omega)
        · have hfr:¬ (i:Int) < from_:=fun e => hk ((HFROM.out i hlt).1 e)
          have hcz:cutL L f k (kid q i)=0:=by rw [HIX.out i hlt,if_neg hk]
          have hlp:Lp L f k (Pu P0 (U1 q) i) f (kid q i)=num:=(Lp_out hPi).trans hnum
          obtain ⟨_,_,na,nb⟩:=HST.out.tree.inn f (kid q i) (by rw [hlp]; exact hz)
          rw [hlp] at na nb
          have hbit:=(HST.out.tree.bits num na nb).2 ⟨f,kid q i,hlp⟩
          have hbmS:=HBM.out (98 + num / 4096) (by omega) (bm_lt HST.out.env.hn nb)
          have hlen:=HST.out.len
          have HLF:=Lib.hid (leaf_any c wr Oi Ti n HST.out.env x F num (.int .i64 (i:Int)) HROW.out.file na nb hbit S HST.out.cov hbmS h96 (by omega))
          clear na nb hbit
          go_wp2_with (
            go_at_call 77
            refine HLF.out.mono ?_
            rintro e w2 ⟨rfl,O2,hT2,hF2⟩
            have HT2:=Lib.hid hT2
            have HF2:=Lib.hid hF2
            clear hT2 hF2)
          have hgl:=HROW.out.rw_.lt
          have hnl:lg < wr.heap.size:=by obtain ⟨cs,h1,_⟩:=HROW.out.nums; exact h1.lt
          have hg2:=Rw.fr HROW.out.rw_ HF2.out HROW.out.ng
          have hE2:=HST.out.env.fr HT2.out HF2.out
          have HOF:¬ Oi F:=HROW.out.fr.out hFl oF
          go_at_call 94
          refine (rput_at g cp 512 b HROW.out.len (4 * i) 4 0 _ _ _ (by omega) rfl rfl w2 hE2.wd hg2 rfl (by decide) (by decide) (by omega) (by decide)).mono ?_
          rintro e w3 ⟨rfl,hg3,hk3⟩
          have hgw:w0.heap.size ≤ g:=by omega
          have hng2:=HF2.out.out hgl HROW.out.ng
          have hst2:=HST.out.give (P2:=Pu P0 (U1 q) (i + 1)) (E2:=Eu L f k q E0 (i + 1)) hPi (by rw [hnum]; exact hz) hcz (fun r hr e => absurd e (no_kids (HL0.out i hlt) hr)) (fun r => by rw [Pu_succ]; rfl) (by rw [hnum]; exact hbmS) (by rw [hnum]; exact HT2.out) HF2.out (fun r => by
            constructor
            · rintro (e | ⟨s,hs,e⟩)
              · exact .inl (.inl e)
              · rcases Nat.lt_or_ge s i with h1 | h1
                · exact .inl (.inr ⟨s,h1,e⟩)
                · obtain rfl:s=i:=by omega
                  exact .inr e.1
            · rintro ((e | ⟨s,hs,e⟩) | rfl)
              · exact .inl e
              · exact .inr ⟨s,by omega,e⟩
              · exact .inr ⟨i,by omega,rfl,by rw [hnum]; exact hz,hcz⟩)
          have HST3:=Lib.hid (hst2.keep1 hk3 hng2 hgw hww)
          have HROW3:=Lib.hid (show CutRow w w3 O O2 F c.t n x g lg l (spliced b (4 * i) (les 0 4)) L f k q (i + 1) from
            ⟨(HROW.out.fr.trans HF2.out).keep hk3 (fun j e => by rw [show j=g from e]; exact hgs),(Is.fr HROW.out.file HF2.out HOF).keeps hk3 (by omega),hg3,by rw [spliced_length _ _ _ (by rw [les_length,HROW.out.len]; omega)]; exact HROW.out.len,
              by obtain ⟨cs,h1,h2⟩:=HROW.out.nums; exact ⟨cs,(Is.fr h1 HF2.out HROW.out.nl).keeps hk3 (by omega),h2⟩,hng2,HF2.out.out hnl HROW.out.nl,fun s hs => by
                by_cases e:s=i
                · subst e
                  rw [nm_same _ _ _ _ (by rw [HROW.out.len]; omega) (by decide),if_pos (by omega),hcz]
                · rw [nm_other _ _ _ _ _ _ (by rw [HROW.out.len]; omega) (by omega),HROW.out.val s hs]
                  by_cases e2:s < i
                  · rw [if_pos e2,if_pos (by omega)]
                  · rw [if_neg e2,if_neg (by omega)]⟩)
          have hlb3:leftB L f k q (i + 1)=lb:=by rw [leftB_succ,hlb,hcz]; simp
          have htb3:turnedB L f k q (i + 1)=true:=by rw [turnedB_succ,hcz,hnum,decide_eq_true ⟨hz,rfl⟩,Bool.or_true]
          have HLB3:=Lib.hid hlb3
          have HTB3:=Lib.hid htb3
          clear hst2 hg3 hk3 hg2 hE2 hlb3 htb3
          cases lb <;> cases tb
          all_goals go_wp2_with fail
          all_goals exact ⟨⟨i + 1,by omega,by go_num,by rw [HLB3.out],by rw [HTB3.out],O2,_,_,by rw [hnum] at HST3; exact HST3.out,HROW3.out⟩,by simp [intOf]; omega⟩
    · have hi128:i=128:=by omega
      have hge:¬ (i:Int) < 128:=by omega
      rw [hi128] at HST HROW hlb htb
      clear hi128 hi hlt
      have hlv:lb=decide (cutL L f k q ≠ 0):=by
        rw [← hlb]
        refine bool_ext ?_
        unfold leftB
        rw [any_iff,decide_eq_true_iff,H0.out.cutL_tab hq0 hq1]
        exact ⟨fun ⟨s,hs,e⟩ => ⟨s,hs,of_decide_eq_true e⟩,fun ⟨s,hs,e⟩ => ⟨s,hs,decide_eq_true e⟩⟩
      have htv:tb=true ↔ ∃ s,s < 128 ∧ L f (kid q s) ≠ 0 ∧ cutL L f k (kid q s)=0:=by
        rw [← htb]
        unfold turnedB
        rw [any_iff]
        exact ⟨fun ⟨s,hs,e⟩ => ⟨s,hs,of_decide_eq_true e⟩,fun ⟨s,hs,e⟩ => ⟨s,hs,decide_eq_true e⟩⟩
      clear hst hrow
      have hPqi:Pu P0 (U1 q) 128 q=false:=by
        rw [Bool.eq_false_iff]
        intro e
        rcases Pu_iff.1 e with e | ⟨s,hs,e⟩
        · rw [hPq] at e; cases e
        · have:=beq_iff_eq.1 e
          have hl:=HL0.out s hs
          omega
      have hkin:∀ s,s < 128 → Pu P0 (U1 q) 128 (kid q s)=true:=fun s hs => Pu_iff.2 (.inr ⟨s,hs,beq_self_eq_true _⟩)
      have hEu:∀ r,(Eu L f k q E0 128 r ∧ par r ≠ q) ↔ E0 r:=fun r => by
        constructor
        · rintro ⟨e | ⟨s,hs,e⟩,hne⟩
          · exact e
          · exact absurd (by rw [e.1]; exact (par_kid hq0 hq1 hs).1) hne
        · intro e; exact ⟨.inl e,HE0.out r e⟩
      have hlen:=HST.out.len
      have HLV:=Lib.hid hlv
      have HTV:=Lib.hid htv
      have HPQ:=Lib.hid hPqi
      have HKIN:=Lib.hid hkin
      have HEU:=Lib.hid hEu
      clear hlv htv hPqi hkin hEu hlb htb
      cases lb with
      | false =>
        have hcq:cutL L f k q=0:=by
          have:=HLV.out
          rw [eq_comm,decide_eq_false_iff_not] at this
          exact Classical.not_not.1 this
        have hlp:Lp L f k (Pu P0 (U1 q) 128) f q=a:=(Lp_out HPQ.out).trans ha
        have hbit:=(HST.out.tree.bits a ia ib).2 ⟨f,q,hlp⟩
        have hbmS:=HBM.out (98 + a / 4096) (by omega) (bm_lt HST.out.env.hn ib)
        have hdr:=HST.out.env.later (Below.refl _ wr).drew
        have HGV:=Lib.hid (sgive_any c _ Oi Ti hdr.tx n a (98 + a / 4096) (a % 4096) hdr.hn hdr.hN ia ib rfl rfl hbit S HST.out.cov hbmS h96 (by omega))
        have cf:=HROW.out.file
        have cf0:wr.cell? ⟨F,0,none⟩=some (.pointer (some ⟨c.t,0,none⟩)):=cf.cell 0
        have cf1:wr.cell? ⟨F,1,none⟩=some (.int .i64 (n:Int)):=cf.cell 1
        have cf2:wr.cell? ⟨F,2,none⟩=some (.int .i64 98):=cf.cell 2
        have cf3:wr.cell? ⟨F,3,none⟩=some (.int .i64 (ino n:Int)):=cf.cell 3
        have cf4:wr.cell? ⟨F,4,none⟩=some (.int .i64 (dat n:Int)):=cf.cell 4
        have cf5:wr.cell? ⟨F,5,none⟩=some (.int .i64 (cnt n:Int)):=cf.cell 5
        rw [HTT.out] at HGV cf0
        unfold Wrote at HGV
        have HCQ:=Lib.hid hcq
        have HLP:=Lib.hid hlp
        clear cf hbit hdr hcq hlp
        go_wp2_with fail
        go_still_tail 9,(by kernel_rfl)
        go_wp2_with (
          go_at_call 109
          refine HGV.out.mono ?_
          rintro e w2 ⟨rfl,O2,hT2,hF2⟩
          have HT2:=Lib.hid hT2
          have HF2:=Lib.hid ((Fr.of_below (Below.refl _ _).drew).trans hF2)
          clear hT2 hF2)
        refine bodyPost_ret (v:=.tuple #[.bool false,.int .i64 0]) (by simp [results,Tryz.results76,go_sem]) rfl ?_
        have hcq:=HCQ.out
        have hst2:=HST.out.give (P2:=fun p => Pu P0 (U1 q) 128 p || p == q) (E2:=fun r => Eu L f k q E0 128 r ∨ r=q) HPQ.out (by rw [ha]; exact ha0) hcq (fun r hr e => by
          obtain ⟨r1,r2,_⟩:=kid_par hr (by omega)
          rw [e] at r1
          rw [← r1,Lp_in (HKIN.out _ r2)]
          by_cases e0:cutL L f k (kid q (slot r))=0
          · exact e0
          · exact absurd ((H0.out.cutL_tab hq0 hq1).2 ⟨_,r2,e0⟩) (fun e => e hcq)) (fun r => rfl) (by rw [ha]; exact hbmS) (by rw [ha]; exact HT2.out) HF2.out (fun r => Iff.rfl)
        rw [ha] at hst2
        refine ⟨by rw [← HLV.out],O2,_,(hst2.dead hq0 hq1 (by simp) hcq (E2:=fun p => E0 p ∨ (p=q ∧ cutL L f k q=0)) (fun r => by
          constructor
          · rintro (e | ⟨rfl,_⟩)
            · exact ⟨.inl ((HEU.out r).2 e).1,((HEU.out r).2 e).2⟩
            · exact ⟨.inr rfl,fun e => par_ne hq1 e hq1 rfl⟩
          · rintro ⟨e | rfl,hne⟩
            · exact .inl ((HEU.out r).1 ⟨e,hne⟩)
            · exact .inr ⟨rfl,hcq⟩)).skip (fun p hp => hp) (fun p hp => .inl hp) (fun p => Iff.rfl) (by omega),HROW.out.fr.trans HF2.out⟩
      | true =>
        have HCQ:=Lib.hid (show cutL L f k q ≠ 0 from of_decide_eq_true HLV.out.symm)
        cases tb with
        | true =>
          have haS:=HSQ.out (HTV.out.1 rfl) HCQ.out
          have hd98:=dat_pos n
          have HWR:=Lib.hid (twrite_any c wr Oi Ti HST.out.env.tx a (some ⟨g,0,none⟩) cp b (by omega) (by rw [HST.out.env.hN]; exact ib) HROW.out.len HROW.out.rw_.bytes (fun g' off e => by injection e with e; injection e with e1 e2; subst e1; exact HROW.out.ng) S HST.out.cov haS h96 (by omega))
          have HAS:=Lib.hid haS
          clear haS
          have cf0:wr.cell? ⟨F,0,none⟩=some (.pointer (some ⟨c.t,0,none⟩)):=HROW.out.file.cell 0
          rw [HTT.out] at HWR cf0
          unfold Wrote at HWR
          go_wp2_with (
            go_at_call 38
            refine HWR.out.mono ?_
            rintro e w2 ⟨rfl,O2,hT2,hF2⟩
            have HT2:=Lib.hid hT2
            have HF2:=Lib.hid hF2
            clear hT2 hF2)
          refine bodyPost_ret (v:=.tuple #[.bool true,.int .i64 0]) (by simp [results,Tryz.results76,go_sem]) rfl ?_
          have hcq:=HCQ.out
          have hst2:=HST.out.table (P2:=fun p => Pu P0 (U1 q) 128 p || p == q) (E2:=fun p => E0 p ∨ (p=q ∧ cutL L f k q=0)) hq0 HPQ.out hcq HROW.out.len (fun s hs => ⟨HKIN.out s hs,by rw [HROW.out.val s hs,if_pos hs]⟩) (fun r => rfl) (by rw [ha]; exact HAS.out) (by rw [ha]; exact HT2.out) HF2.out (fun r => by
            rw [HEU.out r]
            exact ⟨fun e => e.elim id (fun e => absurd e.2 hcq),fun e => .inl e⟩)
          rw [ha] at hst2
          exact ⟨by rw [← HLV.out],O2,_,hst2.skip (fun p hp => hp) (fun p hp => .inl hp) (fun p => Iff.rfl) (by omega),HROW.out.fr.trans HF2.out⟩
        | false =>
          go_wp2_with fail
          refine bodyPost_ret (v:=.tuple #[.bool true,.int .i64 0]) (by simp [results,Tryz.results76,go_sem]) rfl ?_
          have hcq:=HCQ.out
          refine ⟨by rw [← HLV.out],Oi,Ti,?_,HROW.out.fr⟩
          exact HST.out.skip (fun p hp => by simp [hp]) (fun p hp => by
            rw [Bool.or_eq_true] at hp
            rcases hp with hp | hp
            · exact .inl hp
            · obtain rfl:p=q:=beq_iff_eq.1 hp
              exact .inr (cutL_ne hcq)) (fun p => by
            constructor
            · rintro (e | ⟨s,hs,e⟩)
              · exact .inl e
              · exact absurd (HTV.out.2 ⟨s,hs,by rw [← e.1]; exact e.2⟩) (by decide)
            · rintro (e | e)
              · exact .inl e
              · exact absurd e.2 hcq) (by omega)
end Go.Proofs.YthkijogloebdoaaGreatDoor
end
section
namespace Go.Proofs.YthkijogloebdoaaGreatDoor
open Go.RowKit Go.Maps Rec Gp Fs
def CutGone (c:Cx)(w0:World)(O0:Nat → Prop)(T0:Tn)(n:Nat)(X:Nat → Ino)(L:Nat → Nat → Nat)(f k:Nat)(S:List Nat)(w:World)(O:Nat → Prop)(P0:Nat → Bool)(E0:Nat → Prop)(m q:Nat)(U:Nat → Nat → Bool)(e:Ending)(w':World):Prop :=
  e=.returned (.tuple #[.bool (decide (cutL L f k q=0)),.int .i64 0]) ∧ ∃ (O':Nat → Prop) (T':Tn),CutSt c w0 O0 T0 n X L f k S w' O' T' (fun p => Pu P0 U 128 p || p == q) (fun p => E0 p ∨ (p=q ∧ cutL L f k q=0)) m ∧ Fr w O w' O'
structure CutB (w:World)(fb sb F:Nat)(first:Int):Prop where
  f:Is w fb 140 #[.pointer (some ⟨F,0,none⟩)]
  s:Is w sb 3 #[.int .i64 first]
theorem not_dec (p:Prop) [Decidable p]:(!decide (¬ p))=decide p:=by by_cases h:p <;> simp [h]
set_option maxRecDepth 100000 in
set_option maxHeartbeats 800000 in
theorem drop2_any (c:Cx)(w0:World)(O0:Nat → Prop)(T0:Tn)(n:Nat)(X X0:Nat → Ino)(L:Nat → Nat → Nat)(f k:Nat)(S:List Nat)(w:World)(O:Nat → Prop)(T:Tn)(P0:Nat → Bool)(E0:Nat → Prop)(m:Nat)(h:CutSt c w0 O0 T0 n X L f k S w O T P0 E0 m)(h0:Tree0 n (T0.view c.D) X0 L)(hf:f < 3)
    (x:Ino)(F fb sb i a:Nat)(first:Int)(hF:FileAt w F c.t n x)(oF:¬ O F)(hB:CutB w fb sb F first)(hi:i < 128)(hPq:P0 (16524 + i)=false)(hPk:∀ s,s < 128 → P0 (kid (16524 + i) s)=false)(hE0:∀ p,E0 p → par p ≠ 16524 + i)(ha:L f (16524 + i)=a)(ha0:a ≠ 0)
    (hfirst:0 ≤ first ∧ first ≤ 16384 ∧ ∀ p:Nat,138 ≤ p → ((p:Int) - 138 < first ↔ p < k))(hbm:∀ i,98 ≤ i → i < ino n → i ∈ S)(hSq:(∃ s,s < 128 ∧ L f (kid (16524 + i) s) ≠ 0 ∧ cutL L f k (kid (16524 + i) s)=0) → cutL L f k (16524 + i) ≠ 0 → a ∈ S)(h96:S.length ≤ 96)(hT:T0.H.length + 20000 ≤ 1000000)(hm:m + 129 ≤ 17000)(hww:0 < w0.heap.size) :
    Calls Tryz.prog 78 #[.int .i64 (i:Int),.int .i64 (a:Int),.pointer (some ⟨fb,0,none⟩),.pointer (some ⟨sb,0,none⟩)] w (CutGone c w0 O0 T0 n X L f k S w O P0 E0 (m + 129) (16524 + i) (U1 (16524 + i))):=by
  obtain ⟨q,hq⟩:∃ q,16524 + i=q:=⟨_,rfl⟩
  rw [hq] at hPq hPk hE0 ha hSq ⊢
  obtain ⟨z,hz⟩:∃ z:Int,first - (i:Int) * 128=z:=⟨_,rfl⟩
  have HC:=Lib.hid (cut1_any c w0 O0 T0 n X X0 L f k S w O T P0 E0 m h h0 hf x F q a z hF oF (by omega) (by omega) (by omega) hPq hPk hE0 ha ha0 (fun s hs => by
    have hk:kid q s=138 + 128 * i + s:=by rw [kid_tab (by omega)]; omega
    rw [hk,← hfirst.2.2 (138 + 128 * i + s) (by omega)]
    constructor <;> intro _ <;> omega) hbm hSq h96 hT hm hww)
  have c0:w.cell? ⟨fb,0,none⟩=some (.pointer (some ⟨F,0,none⟩)):=hB.f.cell 0
  have c1:w.cell? ⟨sb,0,none⟩=some (.int .i64 first):=hB.s.cell 0
  have u1:=IntWalk.i64_in (n:=(i:Int) * 128) (by omega)
  have u2:=IntWalk.i64_in (n:=z) (by omega)
  unfold CutDone at HC
  unfold CutGone
  clear h h0 hF hB hPq hPk hE0 ha hSq hbm hfirst hf oF ha0 hm hT h96 hww hq
  go_enter Tryz.func78,Tryz.ntmps78
  go_wp2_with (
    go_at_call 76
    refine HC.out.mono ?_
    rintro e w1 ⟨rfl,O1,T1,h1,f1⟩
    have H1:=Lib.hid h1
    have F1:=Lib.hid f1
    clear h1 f1)
  refine bodyPost_ret (v:=.tuple #[.bool (!decide (cutL L f k q ≠ 0)),.int .i64 0]) (by simp [results,Tryz.results78,go_sem]) rfl ?_
  exact ⟨by rw [← not_dec (cutL L f k q=0)],O1,T1,H1.out,F1.out⟩
theorem U2_iff {i p:Nat}:U2 i p=true ↔ p=16524 + i ∨ (138 + 128 * i ≤ p ∧ p < 138 + 128 * i + 128):=by
  unfold U2; rw [Bool.or_eq_true,beq_iff_eq,decide_eq_true_iff]
theorem U2_step (P0:Nat → Bool){i p:Nat}(hi:i < 128):(Pu (Pu P0 U2 i) (U1 (16524 + i)) 128 p || p == 16524 + i)=Pu P0 U2 (i + 1) p:=by
  have hkj:∀ j,kid (16524 + i) j=138 + 128 * i + j:=fun j => by rw [kid_tab (by omega)]; omega
  refine bool_ext ?_
  rw [show Pu P0 U2 (i + 1) p=(Pu P0 U2 i p || U2 i p) from congrFun (Pu_succ P0 U2 i) p,Bool.or_eq_true,Bool.or_eq_true,Pu_iff,U2_iff,beq_iff_eq]
  constructor
  · rintro ((e | ⟨s,hs,e⟩) | e)
    · exact .inl e
    · have:=beq_iff_eq.1 e
      rw [hkj] at this
      exact .inr (.inr (by omega))
    · exact .inr (.inl e)
  · rintro (e | e | e)
    · exact .inl (.inl e)
    · exact .inr e
    · exact .inl (.inr ⟨p - (138 + 128 * i),by omega,beq_iff_eq.2 (by rw [hkj]; omega)⟩)
set_option maxRecDepth 100000 in
set_option maxHeartbeats 3200000 in
theorem cut2_any (c : Cx)(w0:World)(O0:Nat → Prop)(T0:Tn)(n:Nat)(X X0:Nat → Ino)(L:Nat → Nat → Nat)(f k:Nat)(S:List Nat)(w:World)(O:Nat → Prop)(T:Tn)(P0:Nat → Bool)(E0:Nat → Prop)(m:Nat)(h:CutSt c w0 O0 T0 n X L f k S w O T P0 E0 m)(h0:Tree0 n (T0.view c.D) X0 L)(hf:f < 3)
    (hlive:Live L f)(x:Ino)(F fb sb q a:Nat)(first from_:Int)(hF:FileAt w F c.t n x)(oF:¬ O F)(hB:CutB w fb sb F first)(oB:¬ O fb)(oS:¬ O sb)(hq:q=16523)(hPq:P0 q=false)(hPk:∀ s,s < 128 → ∀ p,U2 s p=true → P0 p=false)(hE0:∀ p,¬ E0 p)(ha:L f q=a)(ha0:a ≠ 0)
    (hfirst:0 ≤ first ∧ first ≤ 16384 ∧ ∀ p:Nat,138 ≤ p → ((p:Int) - 138 < first ↔ p < k))(hfrom:from_=first / 128)(hbm:∀ i,98 ≤ i → i < ino n → i ∈ S)(hSq:∀ q,16523 ≤ q → q < 16652 → (∃ s,s < 128 ∧ L f (kid q s) ≠ 0 ∧ cutL L f k (kid q s)=0) → cutL L f k q ≠ 0 → L f q ∈ S)(h96:S.length ≤ 96)(hT:T0.H.length + 20000 ≤ 1000000)(hm:m + 16513 ≤ 17000)(hww:0 < w0.heap.size) :
    Calls Tryz.prog 76 #[.pointer (some ⟨F,0,none⟩),.int .i64 (a:Int),.int .i64 from_,.func (.func 78) #[] #[.pointer (some ⟨fb,0,none⟩),.pointer (some ⟨sb,0,none⟩)]] w (CutDone c w0 O0 T0 n X L f k S w O P0 E0 (m + 16513) q U2):=by
  have hq0:16522 ≤ q:=by omega
  have hq1:q < 16652:=by omega
  have hkq:∀ s,kid q s=16524 + s:=fun s => by rw [hq,kid_two]
  have HQ:=Lib.hid hq
  have hq4:∀ s,s < 128 → ¬ (138 + 128 * s ≤ q ∧ q < 138 + 128 * s + 128) ∧ q ≠ 16524 + s:=fun s hs => by omega
  have HQ4:=Lib.hid hq4
  have hq5:16523 ≤ q:=by omega
  clear hq hq4
  have hLq:Lp L f k P0 f q=a:=(Lp_out hPq).trans ha
  obtain ⟨_,_,ia,ib⟩:=h0.inn f q (by rw [ha]; exact ha0)
  rw [ha] at ia ib
  have hidx:∀ s:Nat,s < 128 → (s:Int) < from_ → ∀ p,U2 s p=true → cutL L f k p=L f p:=fun s hs hlt p hp => by
    have hle:∀ j:Nat,j < 128 → 138 + 128 * s + j < k:=fun j hj => (hfirst.2.2 _ (by omega)).1 (by omega)
    unfold U2 at hp
    rw [Bool.or_eq_true,beq_iff_eq,decide_eq_true_iff] at hp
    have hkj:∀ j,j < 128 → kid (16524 + s) j=138 + 128 * s + j:=fun j hj => by rw [kid_tab (by omega)]; omega
    rcases hp with rfl | hp
    · by_cases hz:L f (16524 + s)=0
      · rw [cutL_zero hz,hz]
      · obtain ⟨j,hj,hne⟩:=hlive _ (by omega) (by omega) hz
        refine cutL_ne ((h0.cutL_tab (by omega) (by omega)).2 ⟨j,hj,?_⟩)
        rw [hkj j hj] at hne ⊢
        rw [cutL_index (by omega),if_pos (hle j hj)]; exact hne
    · rw [cutL_index (by omega),if_pos (by have:=hle (p - (138 + 128 * s)) (by omega); omega)]
  have hzero:∀ s:Nat,s < 128 → L f (16524 + s)=0 → ∀ p,U2 s p=true → L f p=0:=fun s hs hz p hp => by
    unfold U2 at hp
    rw [Bool.or_eq_true,beq_iff_eq,decide_eq_true_iff] at hp
    rcases hp with rfl | hp
    · exact hz
    · exact Classical.byContradiction fun hne => by
        have h1:=h0.keep_up (f:=f) hs (s:=p - (138 + 128 * s)) (by omega) (by rw [show 138 + 128 * s + (p - (138 + 128 * s))=p by omega]; exact hne)
        exact h1 hz
  have hval0:∀ s,s < 128 → nm (T.view c.D a) (4 * s) 4=L f (kid q s):=fun s hs => by
    obtain ⟨k1,k2,k3⟩:=par_kid hq0 hq1 hs
    have hr:=h.tree.ref f (kid q s) hf k3 (fun e => hE0 _ e.2)
    rw [Lp_out (hPk s hs _ (by rw [hkq]; simp [U2])),refn_tab (by rw [k1]; omega) (by rw [k1,hLq]; exact ha0),k1,k2,hLq] at hr
    exact hr.symm
  have HN:=Lib.hid (fnumbers_any c w O T n h.env x F a hF ia ib)
  have hFl:=hF.lt
  have HS0:=Lib.hid h
  have HF:=Lib.hid hF
  have HZ0:=Lib.hid hzero
  have HB:=Lib.hid hB
  have HFI:=Lib.hid hfirst
  have HKQ:=Lib.hid hkq
  have HIX:=Lib.hid hidx
  have HV0:=Lib.hid hval0
  have HPK:=Lib.hid hPk
  have HE0:=Lib.hid hE0
  have HFROM:=Lib.hid hfrom
  have hFBl:=hB.f.lt
  have hSBl:=hB.s.lt
  have HBM:=Lib.hid hbm
  have HSQ:=Lib.hid hSq
  have HLE:=Lib.hid (h.env.len ib)
  have hw0:=h.fr.size
  have hOlt:=Lib.hid h.env.tx.lt
  have H0:=Lib.hid h0
  obtain ⟨l,hl⟩:∃ l,T.view c.D a=l:=⟨_,rfl⟩
  rw [hl] at HN HV0 HLE
  obtain ⟨t,ht⟩:∃ t,c.t=t:=⟨_,rfl⟩
  have HTT:=Lib.hid ht
  clear h hF hidx hzero hval0 hPk hE0 hfrom hbm hSq h0 hl hB hfirst hkq
  go_enter Tryz.func76,Tryz.ntmps76
  go_wp2_with (
    go_at_call 110
    refine HN.out.mono ?_
    rintro e w1 ⟨⟨g,cp,lg,rfl,hg,hn,hgs,hls,hne⟩,hb1⟩
    have HG:=Lib.hid hg
    have HNS:=Lib.hid hn
    have HB1:=Lib.hid hb1
    clear hg hn hb1)
  have hs1:=HB1.out.size
  go_loopw [13,14,31] (fun v13 v14 v31 wr => ∃ i:Nat,i ≤ 128 ∧ v31=.int .i64 (i:Int) ∧ v13=.bool (leftB L f k q i) ∧ v14=.bool (turnedB L f k q i) ∧ ∃ (Oi:Nat → Prop) (Ti:Tn) (b:List UInt8),CutSt c w0 O0 T0 n X L f k S wr Oi Ti (Pu P0 U2 i) (Eu L f k q E0 i) (m + 129 * i) ∧ CutRow w wr O Oi F c.t n x g lg l b L f k q i) (fun _ _ v31 _ => 128 - (intOf v31).toNat)
  case atStart =>
    refine ⟨0,by omega,rfl,rfl,rfl,O,T,l,?_,⟨Fr.of_below HB1.out,Is.below HF.out HB1.out hFl,HG.out,HLE.out,HNS.out,fun o => by have:=hOlt.out _ o; omega,fun o => by have:=hOlt.out _ o; omega,fun s hs => by rw [if_neg (by omega)]; exact HV0.out s hs⟩⟩
    exact (HS0.out.later HB1.out).skip (fun p hp => by rw [Pu_zero]; exact hp) (fun p hp => by rw [Pu_zero] at hp; exact .inl hp) (fun p => ⟨fun e => .inl e,fun e => e.elim id (fun e => by obtain ⟨s,hs,_⟩:=e; omega)⟩) (by omega)
  case round =>
    obtain ⟨i,hi,rfl,rfl,rfl,Oi,Ti,b,hst,hrow⟩:=hrel
    have HST:=Lib.hid hst
    have HROW:=Lib.hid hrow
    obtain ⟨lb,hlb⟩:∃ lb,leftB L f k q i=lb:=⟨_,rfl⟩
    obtain ⟨tb,htb⟩:∃ tb,turnedB L f k q i=tb:=⟨_,rfl⟩
    rw [hlb,htb]
    by_cases hlt:i < 128
    · obtain ⟨num, hnum⟩:∃ num,L f (kid q i)=num:=⟨_,rfl⟩
      have hc:wr.cell? ⟨lg,i,none⟩=some (.int .i64 (num:Int)):=by
        obtain ⟨cs,h1,h2,h3⟩:=hrow.nums
        rw [h1.cell i,h3 i hlt,HV0.out i hlt,hnum]
      have hki:=HKQ.out i
      have HKI:=Lib.hid hki
      have hlt2:(i:Int) < 128:=by omega
      clear hst hrow hki
      have HSK:=Lib.hid (show (∀ p,U2 i p=true → cutL L f k p=L f p) → CutSt c w0 O0 T0 n X L f k S wr Oi Ti (Pu P0 U2 (i + 1)) (Eu L f k q E0 (i + 1)) (m + 129 * (i + 1)) from fun hu => by
        have hkc:cutL L f k (kid q i)=L f (kid q i):=hu _ (U2_iff.2 (.inl HKI.out))
        exact HST.out.skip (fun p hp => by rw [Pu_succ]; simp [hp]) (fun p hp => by
          rw [Pu_succ,Bool.or_eq_true] at hp
          rcases hp with hp | hp
          · exact .inl hp
          · exact .inr (hu p hp)) (fun p => ⟨fun e => e.imp id (fun ⟨s,hs,e⟩ => ⟨s,by omega,e⟩),fun e => e.imp id (fun ⟨s,hs,e3⟩ => ⟨s,by
            rcases Nat.lt_or_ge s i with h1 | h1
            · exact h1
            · have h2:s=i:=by omega
              rw [e3.1,h2,hkc] at e3; exact absurd e3.2.2 e3.2.1,e3⟩)⟩) (by omega))
      by_cases hz:num=0
      · have hzb:((num:Int) == 0)=true:=by rw [beq_iff_eq]; omega
        go_wp2_with fail
        case roundEnd =>
        have hu:∀ p,U2 i p=true → cutL L f k p=L f p:=fun p hp => by
          have:=HZ0.out i hlt (by rw [← HKI.out]; exact hnum.trans hz) p hp
          rw [cutL_zero this,this]
        have hkc:cutL L f k (kid q i)=L f (kid q i):=hu _ (U2_iff.2 (.inl HKI.out))
        refine ⟨⟨i + 1,by omega,by go_num,?_,?_,Oi,Ti,b,HSK.out hu,HROW.out.next hkc⟩,by simp [intOf]; omega⟩
        · rw [leftB_succ,hlb,hkc,hnum,hz]; simp
        · rw [turnedB_succ,htb,hkc,hnum,hz]; simp
      · have hzb : ((num:Int) == 0)=false:=by rw [beq_eq_false_iff_ne]; omega
        by_cases hfr:(i:Int) < from_
        · go_wp2_with fail
          case roundEnd =>
          have hu:=HIX.out i hlt hfr
          have hkc:cutL L f k (kid q i)=L f (kid q i):=hu _ (U2_iff.2 (.inl HKI.out))
          refine ⟨⟨i + 1,by omega,by go_num,?_,?_,Oi,Ti,b,HSK.out hu,HROW.out.next hkc⟩,by simp [intOf]; omega⟩
          · rw [leftB_succ,hkc,hnum,decide_eq_true hz,Bool.or_true]
          · rw [turnedB_succ,htb,hkc,hnum,decide_eq_false (fun e => hz e.2),Bool.or_false]
        · have hPf : ∀ p,U2 i p=true → Pu P0 U2 i p=false:=fun p hp => by
            rw [Bool.eq_false_iff]
            intro e
            rcases Pu_iff.1 e with e | ⟨s,hs,e⟩
            · rw [HPK.out i hlt p hp] at e; cases e
            · rw [U2_iff] at hp e; omega
          have hOF:¬ Oi F:=HROW.out.fr.out hFl oF
          have hlen:=HST.out.len
          have HD:=Lib.hid (drop2_any c w0 O0 T0 n X X0 L f k S wr Oi Ti (Pu P0 U2 i) (Eu L f k q E0 i) (m + 129 * i) HST.out H0.out hf x F fb sb i num first HROW.out.file hOF ⟨Is.fr HB.out.f HROW.out.fr oB,Is.fr HB.out.s HROW.out.fr oS⟩ hlt (hPf _ (U2_iff.2 (.inl rfl))) (fun s hs => hPf _ (U2_iff.2 (.inr (by rw [kid_tab (by omega)]; omega)))) (fun p hp => by
            rcases hp with e | ⟨s,hs,e,_⟩
            · exact absurd e (HE0.out p)
            · rw [e,(par_kid hq0 hq1 (by omega)).1]; exact (HQ4.out i hlt).2) (by rw [← HKI.out]; exact hnum) hz HFI.out HBM.out (fun h1 h2 => by rw [← hnum,HKI.out]; exact HSQ.out _ (by omega) (by omega) h1 h2) h96 hT (by omega) hww)
          have HNX := Lib.hid (show ∀ (w2:World) (O2:Nat → Prop) (T2:Tn),CutSt c w0 O0 T0 n X L f k S w2 O2 T2 (fun p => Pu (Pu P0 U2 i) (U1 (16524 + i)) 128 p || p == 16524 + i) (fun p => Eu L f k q E0 i p ∨ (p=16524 + i ∧ cutL L f k (16524 + i)=0)) (m + 129 * i + 129) → CutSt c w0 O0 T0 n X L f k S w2 O2 T2 (Pu P0 U2 (i + 1)) (Eu L f k q E0 (i + 1)) (m + 129 * (i + 1)) from fun w2 O2 T2 hh =>
            hh.skip (fun p hp => by rw [← U2_step P0 hlt]; exact hp) (fun p hp => .inl (by rw [← U2_step P0 hlt] at hp; exact hp)) (fun p => by
              constructor
              · rintro ((e | ⟨s,hs,e⟩) | ⟨rfl,e⟩)
                · exact .inl e
                · exact .inr ⟨s,by omega,e⟩
                · exact .inr ⟨i,by omega,HKI.out.symm,by rw [← HKI.out,hnum]; exact hz,e⟩
              · rintro (e | ⟨s,hs,e⟩)
                · exact .inl (.inl e)
                · rcases Nat.lt_or_ge s i with h1 | h1
                  · exact .inl (.inr ⟨s,h1,e⟩)
                  · obtain rfl:s=i:=by omega
                    exact .inr ⟨e.1.trans HKI.out,by rw [← HKI.out,← e.1]; exact e.2.2⟩) (by omega))
          unfold CutGone at HD
          clear hPf hOF
          by_cases hcz:cutL L f k (16524 + i)=0
          · rw [decide_eq_true hcz] at HD
            have HCZ:=Lib.hid hcz
            clear hcz
            go_wp2_with (
              go_at_call 78
              refine HD.out.mono ?_
              rintro e w2 ⟨rfl,O2,T2,hS2,hF2⟩
              have HS2:=Lib.hid (HNX.out _ _ _ hS2)
              have HF2:=Lib.hid hF2
              clear hS2 hF2)
            have hgl:=HROW.out.rw_.lt
            have hnl:lg < wr.heap.size:=by obtain ⟨cs,h1,_⟩:=HROW.out.nums; exact h1.lt
            have hg2:=Rw.fr HROW.out.rw_ HF2.out HROW.out.ng
            have hE2:=HS2.out.env
            have HOF:¬ Oi F:=HROW.out.fr.out hFl oF
            go_at_call 94
            refine (rput_at g cp 512 b HROW.out.len (4 * i) 4 0 _ _ _ (by omega) rfl rfl w2 hE2.wd hg2 rfl (by decide) (by decide) (by omega) (by decide)).mono ?_
            rintro e w3 ⟨rfl,hg3,hk3⟩
            have hgw:w0.heap.size ≤ g:=by omega
            have hng2:=HF2.out.out hgl HROW.out.ng
            have HST3:=Lib.hid (HS2.out.keep1 hk3 hng2 hgw hww)
            have hcz:cutL L f k (kid q i)=0:=by rw [HKI.out]; exact HCZ.out
            have HROW3:=Lib.hid (show CutRow w w3 O O2 F c.t n x g lg l (spliced b (4 * i) (les 0 4)) L f k q (i + 1) from
              ⟨(HROW.out.fr.trans HF2.out).keep hk3 (fun j e => by rw [show j=g from e]; exact hgs),(Is.fr HROW.out.file HF2.out HOF).keeps hk3 (by omega),hg3,by rw [spliced_length _ _ _ (by rw [les_length,HROW.out.len]; omega)]; exact HROW.out.len,
                by obtain ⟨cs,h1,h2⟩:=HROW.out.nums; exact ⟨cs,(Is.fr h1 HF2.out HROW.out.nl).keeps hk3 (by omega),h2⟩,hng2,HF2.out.out hnl HROW.out.nl,fun s hs => by
                  by_cases e:s=i
                  · subst e
                    rw [nm_same _ _ _ _ (by rw [HROW.out.len]; omega) (by decide),if_pos (by omega),hcz]
                  · rw [nm_other _ _ _ _ _ _ (by rw [HROW.out.len]; omega) (by omega),HROW.out.val s hs]
                    by_cases e2:s < i
                    · rw [if_pos e2,if_pos (by omega)]
                    · rw [if_neg e2,if_neg (by omega)]⟩)
            have hlb3:leftB L f k q (i + 1)=lb:=by rw [leftB_succ,hlb,hcz]; simp
            have htb3:turnedB L f k q (i + 1)=true:=by rw [turnedB_succ,hcz,hnum,decide_eq_true ⟨hz,rfl⟩,Bool.or_true]
            have HLB3:=Lib.hid hlb3
            have HTB3:=Lib.hid htb3
            clear hg3 hk3 hg2 hE2 hlb3 htb3 hcz
            cases lb <;> cases tb
            all_goals go_wp2_with fail
            all_goals exact ⟨⟨i + 1,by omega,by go_num,by rw [HLB3.out],by rw [HTB3.out],O2,T2,_,HST3.out,HROW3.out⟩,by simp [intOf]; omega⟩
          · rw [decide_eq_false hcz] at HD
            have HCZ:=Lib.hid hcz
            clear hcz
            cases lb <;> cases tb
            all_goals (
              go_wp2_with (
                go_at_call 78
                refine HD.out.mono ?_
                rintro e w2 ⟨rfl,O2,T2,hS2,hF2⟩
                have HS2:=Lib.hid (HNX.out _ _ _ hS2)
                have HF2:=Lib.hid hF2
                clear hS2 hF2)
              have hgl:=HROW.out.rw_.lt
              have hnl:lg < wr.heap.size:=by obtain ⟨cs,h1,_⟩:=HROW.out.nums; exact h1.lt
              have hg2:=Rw.fr HROW.out.rw_ HF2.out HROW.out.ng
              have HOF:¬ Oi F:=HROW.out.fr.out hFl oF
              have hcz:cutL L f k (kid q i) ≠ 0:=by rw [HKI.out]; exact HCZ.out
              have HROW3:=Lib.hid ((show CutRow w w2 O O2 F c.t n x g lg l b L f k q i from
                ⟨HROW.out.fr.trans HF2.out,Is.fr HROW.out.file HF2.out HOF,hg2,HROW.out.len,by obtain ⟨cs,h1,h2⟩:=HROW.out.nums; exact ⟨cs,Is.fr h1 HF2.out HROW.out.nl,h2⟩,HF2.out.out hgl HROW.out.ng,HF2.out.out hnl HROW.out.nl,HROW.out.val⟩).next (cutL_ne hcz))
              have hlb3:leftB L f k q (i + 1)=true:=by rw [leftB_succ,decide_eq_true hcz,Bool.or_true]
              have htb3:turnedB L f k q (i + 1)=turnedB L f k q i:=by rw [turnedB_succ,decide_eq_false (fun e => hcz e.2),Bool.or_false]
              rw [htb] at htb3
              have HLB3:=Lib.hid hlb3
              have HTB3:=Lib.hid htb3
              clear hg2 hlb3 htb3 hcz
              exact ⟨⟨i + 1,by omega,by go_num,by rw [HLB3.out],by rw [HTB3.out],O2,T2,b,HS2.out,HROW3.out⟩,by simp [intOf]; omega⟩)
    · have hi128:i=128:=by omega
      have hge:¬ (i:Int) < 128:=by omega
      rw [hi128] at HST HROW hlb htb
      clear hi128 hi hlt
      have hlv:lb=decide (cutL L f k q ≠ 0):=by
        rw [← hlb]
        refine bool_ext ?_
        unfold leftB
        rw [any_iff,decide_eq_true_iff,H0.out.cutL_tab hq0 hq1]
        exact ⟨fun ⟨s,hs,e⟩ => ⟨s,hs,of_decide_eq_true e⟩,fun ⟨s,hs,e⟩ => ⟨s,hs,decide_eq_true e⟩⟩
      have htv:tb=true ↔ ∃ s,s < 128 ∧ L f (kid q s) ≠ 0 ∧ cutL L f k (kid q s)=0:=by
        rw [← htb]
        unfold turnedB
        rw [any_iff]
        exact ⟨fun ⟨s,hs,e⟩ => ⟨s,hs,of_decide_eq_true e⟩,fun ⟨s,hs,e⟩ => ⟨s,hs,decide_eq_true e⟩⟩
      clear hst hrow
      have hPqi:Pu P0 U2 128 q=false:=by
        rw [Bool.eq_false_iff]
        intro e
        rcases Pu_iff.1 e with e | ⟨s,hs,e⟩
        · rw [hPq] at e; cases e
        · rw [U2_iff] at e
          have:=HQ4.out s hs
          omega
      have hkin:∀ s,s < 128 → Pu P0 U2 128 (kid q s)=true:=fun s hs => Pu_iff.2 (.inr ⟨s,hs,U2_iff.2 (.inl (HKQ.out s))⟩)
      have hEu:∀ r,(Eu L f k q E0 128 r ∧ par r ≠ q) ↔ E0 r:=fun r => by
        constructor
        · rintro ⟨e | ⟨s,hs,e⟩,hne⟩
          · exact e
          · exact absurd (by rw [e.1]; exact (par_kid hq0 hq1 hs).1) hne
        · intro e; exact absurd e (HE0.out r)
      have hlen:=HST.out.len
      have HLV:=Lib.hid hlv
      have HTV:=Lib.hid htv
      have HPQ:=Lib.hid hPqi
      have HKIN:=Lib.hid hkin
      have HEU:=Lib.hid hEu
      clear hlv htv hPqi hkin hEu hlb htb
      cases lb with
      | false =>
        have hcq:cutL L f k q=0:=by
          have:=HLV.out
          rw [eq_comm,decide_eq_false_iff_not] at this
          exact Classical.not_not.1 this
        have hlp:Lp L f k (Pu P0 U2 128) f q=a:=(Lp_out HPQ.out).trans ha
        have hbit:=(HST.out.tree.bits a ia ib).2 ⟨f,q,hlp⟩
        have hbmS:=HBM.out (98 + a / 4096) (by omega) (bm_lt HST.out.env.hn ib)
        have hdr:=HST.out.env.later (Below.refl _ wr).drew
        have HGV:=Lib.hid (sgive_any c _ Oi Ti hdr.tx n a (98 + a / 4096) (a % 4096) hdr.hn hdr.hN ia ib rfl rfl hbit S HST.out.cov hbmS h96 (by omega))
        have cf:=HROW.out.file
        have cf0:wr.cell? ⟨F,0,none⟩=some (.pointer (some ⟨c.t,0,none⟩)):=cf.cell 0
        have cf1:wr.cell? ⟨F,1,none⟩=some (.int .i64 (n:Int)):=cf.cell 1
        have cf2:wr.cell? ⟨F,2,none⟩=some (.int .i64 98):=cf.cell 2
        have cf3:wr.cell? ⟨F,3,none⟩=some (.int .i64 (ino n:Int)):=cf.cell 3
        have cf4:wr.cell? ⟨F,4,none⟩=some (.int .i64 (dat n:Int)):=cf.cell 4
        have cf5:wr.cell? ⟨F,5,none⟩=some (.int .i64 (cnt n:Int)):=cf.cell 5
        rw [HTT.out] at HGV cf0
        unfold Wrote at HGV
        have HCQ:=Lib.hid hcq
        have HLP:=Lib.hid hlp
        clear cf hbit hdr hcq hlp
        go_wp2_with fail
        go_still_tail 9,(by kernel_rfl)
        go_wp2_with (
          go_at_call 109
          refine HGV.out.mono ?_
          rintro e w2 ⟨rfl,O2,hT2,hF2⟩
          have HT2:=Lib.hid hT2
          have HF2:=Lib.hid ((Fr.of_below (Below.refl _ _).drew).trans hF2)
          clear hT2 hF2)
        refine bodyPost_ret (v:=.tuple #[.bool false,.int .i64 0]) (by simp [results,Tryz.results76,go_sem]) rfl ?_
        have hcq:=HCQ.out
        have hst2:=HST.out.give (P2:=fun p => Pu P0 U2 128 p || p == q) (E2:=fun r => Eu L f k q E0 128 r ∨ r=q) HPQ.out (by rw [ha]; exact ha0) hcq (fun r hr e => by
          obtain ⟨r1,r2,_⟩:=kid_par hr (by omega)
          rw [e] at r1
          rw [← r1,Lp_in (HKIN.out _ r2)]
          by_cases e0:cutL L f k (kid q (slot r))=0
          · exact e0
          · exact absurd ((H0.out.cutL_tab hq0 hq1).2 ⟨_,r2,e0⟩) (fun e => e hcq)) (fun r => rfl) (by rw [ha]; exact hbmS) (by rw [ha]; exact HT2.out) HF2.out (fun r => Iff.rfl)
        rw [ha] at hst2
        refine ⟨by rw [← HLV.out],O2,_,(hst2.dead hq0 hq1 (by simp) hcq (E2:=fun p => E0 p ∨ (p=q ∧ cutL L f k q=0)) (fun r => by
          constructor
          · rintro (e | ⟨rfl,_⟩)
            · exact ⟨.inl ((HEU.out r).2 e).1,((HEU.out r).2 e).2⟩
            · exact ⟨.inr rfl,fun e => par_ne hq1 e hq1 rfl⟩
          · rintro ⟨e | rfl,hne⟩
            · exact .inl ((HEU.out r).1 ⟨e,hne⟩)
            · exact .inr ⟨rfl,hcq⟩)).skip (fun p hp => hp) (fun p hp => .inl hp) (fun p => Iff.rfl) (by omega),HROW.out.fr.trans HF2.out⟩
      | true =>
        have HCQ:=Lib.hid (show cutL L f k q ≠ 0 from of_decide_eq_true HLV.out.symm)
        cases tb with
        | true =>
          have haS:=HSQ.out q (by omega) hq1 (HTV.out.1 rfl) HCQ.out
          rw [ha] at haS
          have hd98:=dat_pos n
          have HWR:=Lib.hid (twrite_any c wr Oi Ti HST.out.env.tx a (some ⟨g,0,none⟩) cp b (by omega) (by rw [HST.out.env.hN]; exact ib) HROW.out.len HROW.out.rw_.bytes (fun g' off e => by injection e with e; injection e with e1 e2; subst e1; exact HROW.out.ng) S HST.out.cov haS h96 (by omega))
          have HAS:=Lib.hid haS
          clear haS
          have cf0:wr.cell? ⟨F,0,none⟩=some (.pointer (some ⟨c.t,0,none⟩)):=HROW.out.file.cell 0
          rw [HTT.out] at HWR cf0
          unfold Wrote at HWR
          go_wp2_with (
            go_at_call 38
            refine HWR.out.mono ?_
            rintro e w2 ⟨rfl,O2,hT2,hF2⟩
            have HT2:=Lib.hid hT2
            have HF2:=Lib.hid hF2
            clear hT2 hF2)
          refine bodyPost_ret (v:=.tuple #[.bool true,.int .i64 0]) (by simp [results,Tryz.results76,go_sem]) rfl ?_
          have hcq:=HCQ.out
          have hst2:=HST.out.table (P2:=fun p => Pu P0 U2 128 p || p == q) (E2:=fun p => E0 p ∨ (p=q ∧ cutL L f k q=0)) hq0 HPQ.out hcq HROW.out.len (fun s hs => ⟨HKIN.out s hs,by rw [HROW.out.val s hs,if_pos hs]⟩) (fun r => rfl) (by rw [ha]; exact HAS.out) (by rw [ha]; exact HT2.out) HF2.out (fun r => by
            rw [HEU.out r]
            exact ⟨fun e => e.elim id (fun e => absurd e.2 hcq),fun e => .inl e⟩)
          rw [ha] at hst2
          exact ⟨by rw [← HLV.out],O2,_,hst2.skip (fun p hp => hp) (fun p hp => .inl hp) (fun p => Iff.rfl) (by omega),HROW.out.fr.trans HF2.out⟩
        | false =>
          go_wp2_with fail
          refine bodyPost_ret (v:=.tuple #[.bool true,.int .i64 0]) (by simp [results,Tryz.results76,go_sem]) rfl ?_
          have hcq:=HCQ.out
          refine ⟨by rw [← HLV.out],Oi,Ti,?_,HROW.out.fr⟩
          exact HST.out.skip (fun p hp => by simp [hp]) (fun p hp => by
            rw [Bool.or_eq_true] at hp
            rcases hp with hp | hp
            · exact .inl hp
            · obtain rfl:p=q:=beq_iff_eq.1 hp
              exact .inr (cutL_ne hcq)) (fun p => by
            constructor
            · rintro (e | ⟨s,hs,e⟩)
              · exact .inl e
              · exact absurd (HTV.out.2 ⟨s,hs,by rw [← e.1]; exact e.2⟩) (by decide)
            · rintro (e | e)
              · exact .inl e
              · exact absurd e.2 hcq) (by omega)
end Go.Proofs.YthkijogloebdoaaGreatDoor
end
