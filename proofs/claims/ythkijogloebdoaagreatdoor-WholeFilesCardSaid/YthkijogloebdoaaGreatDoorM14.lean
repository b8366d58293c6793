/-
  WholeFiles, the texts Pnc Pnd Pne Pnf Pm: lemmas for the proof that three files on one disk are plain rows of bytes. No conditions.
-/
import Derived.Test.YthkijogloebdoaaGreatDoorM12
import Derived.Test.YthkijogloebdoaaGreatDoorM13
import Derived.Test.YthkijogloebdoaaGreatDoorM07
import Derived.Maps.RangeWalk
set_option linter.unusedVariables false
set_option linter.unusedSimpArgs false
section
namespace Go.Proofs.YthkijogloebdoaaGreatDoor.Fs
open Rec Gp
def blank:List UInt8:=List.replicate 512 0
theorem blank_len:blank.length=512:=by unfold blank; exact List.length_replicate
structure Pl where
  B:Nat → Option (List UInt8)
  size:Nat
def Pl.blk (P:Pl)(k:Nat):List UInt8:=(P.B k).getD blank
def Pl.byte (P:Pl)(i:Nat):UInt8:=(P.blk (i / 512)).getD (i % 512) 0
structure Pl.Ok (P:Pl):Prop where
  len:∀ k l,P.B k=some l → l.length=512
  far:∀ k,P.B k ≠ none → 512 * k < P.size
  tail:∀ i,P.size ≤ i → P.byte i=0
  size:P.size ≤ 8459264
theorem Pl.Ok.blk {P:Pl}(h:P.Ok)(k:Nat):(P.blk k).length=512:=by
  unfold Pl.blk
  cases hb:P.B k with
  | none => exact blank_len
  | some l => exact h.len k l hb
theorem blank_get (j:Nat):blank.getD j 0=0:=by
  unfold blank
  rw [List.getD_eq_getElem?_getD,List.getElem?_replicate]
  split <;> rfl
def hit (off n k:Nat):Bool:=decide (0 < n ∧ off < 512 * k + 512 ∧ 512 * k < off + n)
def over (off:Nat)(s:List UInt8)(k:Nat)(l:List UInt8):List UInt8:=(List.range 512).map fun j => if off ≤ 512 * k + j ∧ 512 * k + j < off + s.length then s.getD (512 * k + j - off) 0 else l.getD j 0
def Pl.wrB (P:Pl)(off:Nat)(s:List UInt8)(k:Nat):Option (List UInt8):=if hit off s.length k=true then some (over off s k (P.blk k)) else P.B k
def Pl.wr (P:Pl)(off:Nat)(s:List UInt8):Pl:=⟨P.wrB off s,if s.length=0 then P.size else max P.size (off + s.length)⟩
theorem over_len (off:Nat)(s:List UInt8)(k:Nat)(l:List UInt8):(over off s k l).length=512:=by unfold over; rw [List.length_map,List.length_range]
theorem over_at (off:Nat)(s:List UInt8)(k:Nat)(l:List UInt8)(j:Nat)(hj:j < 512):(over off s k l)[j]? = some (if off ≤ 512 * k + j ∧ 512 * k + j < off + s.length then s.getD (512 * k + j - off) 0 else l.getD j 0):=by
  unfold over
  rw [List.getElem?_map,List.getElem?_range hj]; rfl
theorem Pl.wrB_len {P:Pl}(h:P.Ok)(off:Nat)(s:List UInt8)(k:Nat):((P.wrB off s k).getD blank).length=512:=by
  unfold Pl.wrB
  by_cases e:hit off s.length k=true
  · rw [if_pos e,Option.getD_some,over_len]
  · rw [if_neg e]; exact h.blk k
theorem Pl.wrB_get {P:Pl}(h:P.Ok)(off:Nat)(s:List UInt8)(k j:Nat)(hj:j < 512):((P.wrB off s k).getD blank)[j]? = some (if off ≤ 512 * k + j ∧ 512 * k + j < off + s.length then s.getD (512 * k + j - off) 0 else (P.blk k).getD j 0):=by
  unfold Pl.wrB
  by_cases hh:hit off s.length k=true
  · rw [if_pos hh,Option.getD_some,over_at _ _ _ _ _ hj]
  · rw [if_neg hh,if_neg (fun e => hh (by unfold hit; exact decide_eq_true (by omega)))]
    show (P.blk k)[j]? = _
    have hl:=h.blk k
    rw [List.getD_eq_getElem?_getD,List.getElem?_eq_getElem (by omega)]; rfl
theorem take_getD (s:List UInt8)(m i:Nat)(h:i < m):(s.take m).getD i 0=s.getD i 0:=by
  rw [List.getD_eq_getElem?_getD,List.getD_eq_getElem?_getD,List.getElem?_take_of_lt h]
theorem Pl.wr_step {P:Pl}(h:P.Ok)(off:Nat)(s:List UInt8)(at_ m k fr:Nat)(hk:off + at_=512 * k + fr)(hm:fr + m ≤ 512)(h1:1 ≤ m)(hs:at_ + m ≤ s.length) :
    P.wrB off (s.take (at_ + m))=fun k2 => if k2=k then some (spliced ((P.wrB off (s.take at_) k).getD blank) fr ((s.drop at_).take m)) else P.wrB off (s.take at_) k2:=by
  funext k2
  have hl1:(s.take (at_ + m)).length=at_ + m:=by rw [List.length_take]; omega
  have hl2:(s.take at_).length=at_:=by rw [List.length_take]; omega
  have hl3:((s.drop at_).take m).length=m:=by rw [List.length_take,List.length_drop]; omega
  by_cases e:k2=k
  · subst e
    rw [if_pos rfl]
    have hh:P.wrB off (s.take (at_ + m)) k2=some ((P.wrB off (s.take (at_ + m)) k2).getD blank):=by
      unfold Pl.wrB
      rw [if_pos (by unfold hit; rw [hl1]; exact decide_eq_true (by omega)),Option.getD_some]
    rw [hh]
    refine congrArg some (List.ext_getElem? fun j => ?_)
    by_cases hj:j < 512
    · rw [Pl.wrB_get h off _ k2 j hj,spliced_at _ _ _ (by rw [hl3,Pl.wrB_len h]; omega),hl1,hl3,Pl.wrB_get h off _ k2 j hj,hl2]
      by_cases c1:fr ≤ j ∧ j < fr + m
      · rw [if_pos c1,if_pos (by omega),take_getD _ _ _ (by omega),List.getElem?_take_of_lt (by omega),List.getElem?_drop,show at_ + (j - fr)=512 * k2 + j - off by omega,List.getD_eq_getElem?_getD,List.getElem?_eq_getElem (by omega)]; rfl
      · rw [if_neg c1]
        by_cases c2:off ≤ 512 * k2 + j ∧ 512 * k2 + j < off + at_
        · rw [if_pos (by omega),if_pos c2,take_getD _ _ _ (by omega),take_getD _ _ _ (by omega)]
        · rw [if_neg (by omega),if_neg c2]
    · rw [List.getElem?_eq_none (by rw [Pl.wrB_len h]; omega),List.getElem?_eq_none (by rw [spliced_length _ _ _ (by rw [hl3,Pl.wrB_len h]; omega),Pl.wrB_len h]; omega)]
  · rw [if_neg e]
    unfold Pl.wrB
    rw [hl1,hl2]
    by_cases c1:hit off at_ k2=true
    · have c3:0 < at_ ∧ off < 512 * k2 + 512 ∧ 512 * k2 < off + at_:=of_decide_eq_true c1
      rw [if_pos (by unfold hit; exact decide_eq_true (by omega)),if_pos c1]
      refine congrArg some (List.ext_getElem? fun j => ?_)
      by_cases hj:j < 512
      · rw [over_at _ _ _ _ _ hj,over_at _ _ _ _ _ hj,hl1,hl2]
        congr 1
        by_cases c2:off ≤ 512 * k2 + j ∧ 512 * k2 + j < off + at_
        · rw [if_pos (by omega),if_pos c2,take_getD _ _ _ (by omega),take_getD _ _ _ (by omega)]
        · rw [if_neg (by omega),if_neg c2]
      · rw [List.getElem?_eq_none (by rw [over_len]; omega),List.getElem?_eq_none (by rw [over_len]; omega)]
    · have c3:¬ (0 < at_ ∧ off < 512 * k2 + 512 ∧ 512 * k2 < off + at_):=fun hh => c1 (by unfold hit; exact decide_eq_true hh)
      rw [if_neg c1,if_neg (fun hh => by have c4:0 < at_ + m ∧ off < 512 * k2 + 512 ∧ 512 * k2 < off + (at_ + m):=of_decide_eq_true hh; omega)]
theorem Pl.wrB_nil (P:Pl)(off:Nat):P.wrB off []=P.B:=by
  funext k
  unfold Pl.wrB
  rw [if_neg (fun hh => by have:=(of_decide_eq_true hh).1; exact absurd this (by decide))]
theorem Pl.wr_ok {P:Pl}(h:P.Ok)(off:Nat)(s:List UInt8)(hs:off + s.length ≤ 8459264):(P.wr off s).Ok:=by
  by_cases hn:s.length=0
  · have:P.wr off s=P:=by
      have:s=[]:=List.eq_nil_of_length_eq_zero hn
      subst this
      unfold Pl.wr; rw [P.wrB_nil]; rfl
    rw [this]; exact h
  · have hsz:(P.wr off s).size=max P.size (off + s.length):=if_neg hn
    refine ⟨fun k l hk => ?_,fun k hk => ?_,fun i hi => ?_,by rw [hsz]; have:=h.size; omega⟩
    · have:=Pl.wrB_len h off s k
      rw [show P.wrB off s k=some l from hk] at this
      exact this
    · rw [hsz]
      have hk:P.wrB off s k ≠ none:=hk
      unfold Pl.wrB at hk
      split at hk
      · rename_i hh
        have:=of_decide_eq_true hh; omega
      · have:=h.far k hk; omega
    · rw [hsz] at hi
      show ((P.wrB off s (i / 512)).getD blank).getD (i % 512) 0=0
      rw [List.getD_eq_getElem?_getD,Pl.wrB_get h off s _ _ (Nat.mod_lt _ (by decide)),if_neg (by omega)]
      exact h.tail i (by omega)
def zeroFrom (a:Nat)(l:List UInt8):List UInt8:=l.take a ++ List.replicate (l.length - a) 0
theorem zeroFrom_len (a:Nat)(l:List UInt8):(zeroFrom a l).length=l.length:=by unfold zeroFrom; rw [List.length_append,List.length_take,List.length_replicate]; omega
theorem zeroFrom_at (a:Nat)(l:List UInt8)(j:Nat):(zeroFrom a l).getD j 0=if j < a then l.getD j 0 else 0:=by
  unfold zeroFrom
  rw [List.getD_eq_getElem?_getD,List.getElem?_append,List.length_take]
  by_cases h:j < a
  · rw [if_pos h]
    by_cases h2:j < l.length
    · rw [if_pos (by omega),List.getElem?_take_of_lt h,List.getD_eq_getElem?_getD]
    · rw [if_neg (by omega),List.getElem?_replicate,if_neg (by omega),List.getD_eq_getElem?_getD,List.getElem?_eq_none (by omega)]
  · rw [if_neg h]
    by_cases h2:j < l.length
    · rw [if_neg (by omega),List.getElem?_replicate]; split <;> rfl
    · rw [if_neg (by omega),List.getElem?_replicate]; split <;> rfl
theorem zeroFrom_all (a:Nat)(l:List UInt8)(h:l.length ≤ a):zeroFrom a l=l:=by unfold zeroFrom; rw [List.take_of_length_le h,show l.length - a=0 by omega]; exact List.append_nil l
def Pl.cut (P:Pl)(sz:Nat):Pl:=⟨fun k => if sz ≤ 512 * k then none else (P.B k).map (zeroFrom (sz - 512 * k)),sz⟩
theorem Pl.cut_ok {P:Pl}(h:P.Ok)(sz:Nat)(hs:sz ≤ 8459264):(P.cut sz).Ok:=by
  refine ⟨fun k l hk => ?_,fun k hk => ?_,fun i hi => ?_,hs⟩
  · have hk:(if sz ≤ 512 * k then none else (P.B k).map (zeroFrom (sz - 512 * k)))=some l:=hk
    split at hk
    · cases hk
    · cases hb:P.B k with
      | none => rw [hb] at hk; cases hk
      | some m =>
        rw [hb] at hk
        injection hk with hk
        rw [← hk,zeroFrom_len]; exact h.len k m hb
  · have hk:(if sz ≤ 512 * k then none else (P.B k).map (zeroFrom (sz - 512 * k))) ≠ none:=hk
    split at hk
    · exact absurd rfl hk
    · show 512 * k < sz; omega
  · have hi:sz ≤ i:=hi
    show ((if sz ≤ 512 * (i / 512) then none else (P.B (i / 512)).map (zeroFrom (sz - 512 * (i / 512)))).getD blank).getD (i % 512) 0=0
    split
    · exact blank_get _
    · cases hb:P.B (i / 512) with
      | none => exact blank_get _
      | some m => show (zeroFrom (sz - 512 * (i / 512)) m).getD (i % 512) 0=0; rw [zeroFrom_at,if_neg (by omega)]
theorem Pl.cut_long {P:Pl}(h:P.Ok)(sz:Nat)(hs:P.size ≤ sz):P.cut sz=⟨P.B,sz⟩:=by
  unfold Pl.cut
  congr 1
  funext k
  cases hb:P.B k with
  | none => split <;> rfl
  | some m =>
    have h1:=h.far k (by rw [hb]; exact fun e => by cases e)
    have hm:=h.len k m hb
    rw [if_neg (by omega)]
    show some (zeroFrom (sz - 512 * k) m)=some m
    congr 1
    refine List.ext_getElem? fun j => ?_
    by_cases hj:j < 512
    · have e1:(zeroFrom (sz - 512 * k) m)[j]? = some ((zeroFrom (sz - 512 * k) m).getD j 0):=by rw [List.getD_eq_getElem?_getD,List.getElem?_eq_getElem (by rw [zeroFrom_len]; omega)]; rfl
      have e2:m[j]? = some (m.getD j 0):=by rw [List.getD_eq_getElem?_getD,List.getElem?_eq_getElem (by omega)]; rfl
      rw [e1,e2,zeroFrom_at]
      congr 1
      by_cases c:j < sz - 512 * k
      · rw [if_pos c]
      · rw [if_neg c]
        have:=h.tail (512 * k + j) (by omega)
        unfold Pl.byte Pl.blk at this
        rw [show (512 * k + j) / 512=k by omega,show (512 * k + j) % 512=j by omega,hb] at this
        exact this.symm
    · rw [List.getElem?_eq_none (by rw [zeroFrom_len]; omega),List.getElem?_eq_none (by omega)]
def Pl.rdN (P:Pl)(off m:Nat):List UInt8:=(List.range m).map fun i => P.byte (off + i)
def Pl.rd (P:Pl)(off m:Nat):List UInt8:=if P.size ≤ off then [] else P.rdN off (min m (P.size - off))
theorem Pl.rdN_len (P:Pl)(off m:Nat):(P.rdN off m).length=m:=by unfold Pl.rdN; rw [List.length_map,List.length_range]
theorem Pl.rdN_succ (P:Pl)(off m:Nat):P.rdN off (m + 1)=P.rdN off m ++ [P.byte (off + m)]:=by unfold Pl.rdN; rw [List.range_succ,List.map_append]; rfl
theorem Pl.rd_step {P:Pl}(h:P.Ok)(off at_ m k fr:Nat)(hk:off + at_=512 * k + fr)(hm:fr + m ≤ 512):P.rdN off (at_ + m)=P.rdN off at_ ++ sl (P.blk k) fr m:=by
  induction m with
  | zero => rw [Nat.add_zero]; unfold sl; rw [List.take_zero,List.append_nil]
  | succ m ih =>
    rw [← Nat.add_assoc,P.rdN_succ,ih (by omega),List.append_assoc]
    congr 1
    have hl:=h.blk k
    unfold sl
    rw [List.take_add_one,List.getElem?_drop,List.getElem?_eq_getElem (by omega)]
    congr 1
    show [P.byte (off + (at_ + m))]=[(P.blk k)[fr + m]'(by omega)]
    unfold Pl.byte
    rw [show (off + (at_ + m)) / 512=k by omega,show (off + (at_ + m)) % 512=fr + m by omega,List.getD_eq_getElem?_getD,List.getElem?_eq_getElem (by omega)]; rfl
end Go.Proofs.YthkijogloebdoaaGreatDoor.Fs
end
section
namespace Go.Proofs.YthkijogloebdoaaGreatDoor.Fs
open Rec Gp
structure Grew (n:Nat)(V:Nat → List UInt8)(X:Nat → Ino)(L:Nat → Nat → Nat)(V2:Nat → List UInt8)(X2:Nat → Ino)(L2:Nat → Nat → Nat)(f k:Nat):Prop where
  others:∀ g p,g ≠ f → L2 g p=L g p
  xs:∀ g,g ≠ f → X2 g=X g
  same:(X2 f).kind=(X f).kind ∧ (X2 f).links=(X f).links ∧ (X2 f).size=(X f).size
  keep:∀ p,L f p ≠ 0 → L2 f p=L f p
  new:∀ p,L2 f p ≠ 0 → L f p ≠ 0 ∨ p ∈ path k
  data:∀ g p,p < 16522 → L g p ≠ 0 → V2 (L g p)=V (L g p)
  blank:L f k=0 → L2 f k ≠ 0 → V2 (L2 f k)=blank
  meta_:∀ i,ino n ≤ i → i < dat n → V2 i=V i
theorem Grew.refl (n:Nat)(V:Nat → List UInt8)(X:Nat → Ino)(L:Nat → Nat → Nat)(f k:Nat):Grew n V X L V X L f k :=
  ⟨fun _ _ _ => rfl,fun _ _ => rfl,⟨rfl,rfl,rfl⟩,fun _ _ => rfl,fun _ h => .inl h,fun _ _ _ _ => rfl,fun h h2 => absurd h h2,fun _ _ _ => rfl⟩
section
variable {n:Nat}{V V2 V3:Nat → List UInt8}{X X2 X3:Nat → Ino}{L L2:Nat → Nat → Nat}{f k:Nat}
theorem Grew.any (h:Grew n V X L V2 X2 L2 f k){g p:Nat}(hp:L g p ≠ 0):L2 g p=L g p:=by
  by_cases e:g=f
  · subst e; exact h.keep p hp
  · exact h.others g p e
theorem Grew.step (h:Grew n V X L V2 X2 L2 f k)(hn:Disk n)(ht:Tree0 n V2 X2 L2)(hk:k < 16522){p q:Nat}(hp:p ∈ path k)(h0:L2 f p=0)(hno:∀ g r,L2 g r ≠ q)(hq:dat n ≤ q)
    (hx:∀ g,g ≠ f → X3 g=X2 g)(hs:(X3 f).kind=(X2 f).kind ∧ (X3 f).links=(X2 f).links ∧ (X3 f).size=(X2 f).size)
    (hV:∀ i,ino n ≤ i → i ≠ q → (par p=16652 ∨ i ≠ L2 f (par p)) → V3 i=V2 i)(hVq:V3 q=Fs.blank)(hpp:p < 16652)(hpar:par p ≠ 16652 → L2 f (par p) ≠ 0):Grew n V X L V3 X3 (updL L2 f p q) f k:=by
  have hid:=ino_lt_dat hn
  have hdat:∀ g r,r < 16522 → L2 g r ≠ 0 → V3 (L2 g r)=V2 (L2 g r):=fun g r hr hgr => by
    refine hV _ (by have:=(ht.inn g r hgr).2.2.1; omega) (hno g r) ?_
    by_cases e:par p=16652
    · exact .inl e
    · refine .inr (fun e2 => ?_)
      have:=(ht.inj g r f (par p) hgr e2).2
      have:=(kid_par hpp e).2.2.1
      omega
  refine ⟨fun g r hg => ?_,fun g hg => (hx g hg).trans (h.xs g hg),⟨hs.1.trans h.same.1,hs.2.1.trans h.same.2.1,hs.2.2.trans h.same.2.2⟩,fun r hr => ?_,fun r hr => ?_,fun g r hr hgr => ?_,fun h1 h2 => ?_,fun i h1 h2 => ?_⟩
  · rw [updL_other _ _ _ _ (fun e => hg e.1)]; exact h.others g r hg
  · rw [updL_other _ _ _ _ (fun e => by rw [e.2] at hr; have:=h.keep p hr; rw [h0] at this; exact hr this.symm)]; exact h.keep r hr
  · by_cases e:r=p
    · subst e; exact .inr hp
    · rw [updL_other _ _ _ _ (fun e2 => e e2.2)] at hr; exact h.new r hr
  · have e:=h.any hgr
    rw [← e,hdat g r hr (by rw [e]; exact hgr),e]; exact h.data g r hr hgr
  · by_cases e:k=p
    · rw [e,updL_same]; exact hVq
    · rw [updL_other _ _ _ _ (fun e2 => e e2.2)] at h2 ⊢
      rw [hdat f k hk h2]; exact h.blank h1 h2
  · rw [hV i h1 (by omega) ?_]
    · exact h.meta_ i h1 h2
    · by_cases e:par p=16652
      · exact .inl e
      · exact .inr (fun e2 => by have:=(ht.inn f (par p) (hpar e)).2.2.1; omega)
theorem Grew.live (h:Grew n V X L V2 X2 L2 f k)(hk:k < 16522)(hl:Live L f)(hall:∀ p,p ∈ path k → L2 f p ≠ 0):Live L2 f:=by
  intro q h0 h1 hq
  by_cases e:L f q=0
  · have hm:=(h.new q hq).resolve_left (fun e2 => e2 e)
    obtain ⟨j,hj,rfl⟩:=List.getElem_of_mem hm
    obtain ⟨p1,p2,p3,p4,p5⟩:=path_facts hk j hj
    have hjl:j + 1 < (path k).length:=by
      rcases Nat.lt_or_ge (j + 1) (path k).length with h2 | h2
      · exact h2
      · have:=p4 (by omega); omega
    obtain ⟨r1,r2,r3,r4,r5⟩:=path_facts hk (j + 1) hjl
    have r3:=r3 j rfl
    obtain ⟨k1,k2,k3,k4⟩:=kid_par r1 (by omega)
    refine ⟨slot (path k)[j + 1],k2,?_⟩
    rw [← r3,k1]
    exact hall _ (List.getElem_mem hjl)
  · obtain ⟨s,hs,hkid⟩:=hl q h0 h1 e
    exact ⟨s,hs,by rw [h.keep _ hkid]; exact hkid⟩
theorem Grew.live_other (h:Grew n V X L V2 X2 L2 f k){g:Nat}(hg:g ≠ f)(hl:Live L g):Live L2 g:=fun q h0 h1 hq => by
  rw [h.others g q hg] at hq
  obtain ⟨s,hs,hkid⟩:=hl q h0 h1 hq
  exact ⟨s,hs,by rw [h.others g _ hg]; exact hkid⟩
def absent (l:Nat → Nat)(ps:List Nat):Nat:=(ps.filter (fun p => l p == 0)).length
theorem absent_upd {l l2:Nat → Nat}{p:Nat}(h0:l p=0)(h1:l2 p ≠ 0)(h2:∀ r,r ≠ p → l2 r=l r):∀ (ps:List Nat),ps.Nodup → p ∈ ps → absent l2 ps + 1=absent l ps
  | [],_,hm => by cases hm
  | a :: r,hnd,hm => by
    obtain ⟨n1,n2⟩:=List.nodup_cons.1 hnd
    have hrest:∀ rs:List Nat,p ∉ rs → absent l2 rs=absent l rs:=fun rs hrs => by
      unfold absent
      rw [List.filter_congr (fun x hx => by rw [h2 x (fun e => hrs (e ▸ hx))])]
    by_cases e:a=p
    · subst e
      have:=hrest r n1
      unfold absent at this ⊢
      rw [List.filter_cons_of_neg (by simpa using h1),List.filter_cons_of_pos (by simpa using h0),List.length_cons,this]
    · have hm2:p ∈ r:=(List.mem_cons.1 hm).resolve_left (fun e2 => e e2.symm)
      have ih:=absent_upd h0 h1 h2 r n2 hm2
      unfold absent at ih ⊢
      by_cases e0:l a=0
      · rw [List.filter_cons_of_pos (by rw [h2 a e]; simpa using e0),List.filter_cons_of_pos (by simpa using e0),List.length_cons,List.length_cons]; omega
      · rw [List.filter_cons_of_neg (by rw [h2 a e]; simpa using e0),List.filter_cons_of_neg (by simpa using e0)]; exact ih
theorem path_nodup {k:Nat}(hk:k < 16522):(path k).Nodup:=by
  unfold path
  split
  · simp
  · split
    · simp; omega
    · simp; omega
end
end Go.Proofs.YthkijogloebdoaaGreatDoor.Fs
end
section
namespace Go.Proofs.YthkijogloebdoaaGreatDoor.Fs
open Rec Gp
def keepD (L:Nat → Nat → Nat)(f k:Nat):Nat → Bool:=fun j => decide (j < k) && pres L f j
def cutL (L:Nat → Nat → Nat)(f k p:Nat):Nat:=if nodes (keepD L f k) p=true then L f p else 0
def Lp (L:Nat → Nat → Nat)(f k:Nat)(P:Nat → Bool):Nat → Nat → Nat:=fun g p => if g=f ∧ P p=true then cutL L f k p else L g p
theorem cutL_or (L:Nat → Nat → Nat)(f k p:Nat):cutL L f k p=0 ∨ cutL L f k p=L f p:=by
  unfold cutL; split
  · exact .inr rfl
  · exact .inl rfl
theorem cutL_ne {L:Nat → Nat → Nat}{f k p:Nat}(h:cutL L f k p ≠ 0):cutL L f k p=L f p:=(cutL_or L f k p).resolve_left h
theorem cutL_zero {L:Nat → Nat → Nat}{f k p:Nat}(h:L f p=0):cutL L f k p=0:=by
  rcases cutL_or L f k p with e | e
  · exact e
  · rw [e,h]
theorem cutL_index {L:Nat → Nat → Nat}{f k p:Nat}(hp:p < 16522):cutL L f k p=if p < k then L f p else 0:=by
  unfold cutL nodes keepD
  rw [if_pos hp]
  by_cases e:p < k
  · rw [if_pos e,decide_eq_true e,Bool.true_and]
    by_cases h0:L f p=0
    · rw [h0]; split <;> rfl
    · rw [if_pos (pres_iff.2 h0)]
  · rw [if_neg e,decide_eq_false e,Bool.false_and,if_neg (by decide)]
section
variable {n:Nat}{V:Nat → List UInt8}{X:Nat → Ino}{L:Nat → Nat → Nat}{E:Nat → Nat → Prop}{f k:Nat}
theorem Tree.keep_up (h:Tree n V X L E){i s:Nat}(hi:i < 128)(hs:s < 128)(hk:L f (138 + 128 * i + s) ≠ 0):L f (16524 + i) ≠ 0:=by
  obtain ⟨k1,k2,k3⟩:=par_kid (q:=16524 + i) (s:=s) (by omega) (by omega) hs
  rw [kid_tab (by omega),show 16524 + i - 16524=i by omega] at k1
  have:=h.up hk (by rw [k1]; omega)
  rwa [k1] at this
theorem Tree.cutL_tab (h:Tree n V X L E){q:Nat}(h0:16522 ≤ q)(h1:q < 16652):cutL L f k q ≠ 0 ↔ ∃ s,s < 128 ∧ cutL L f k (kid q s) ≠ 0:=by
  have hD:∀ j,keepD L f k j=true ↔ j < k ∧ L f j ≠ 0:=fun j => by unfold keepD; rw [Bool.and_eq_true,decide_eq_true_iff,pres_iff]
  have hix:∀ j,j < 16522 → (cutL L f k j ≠ 0 ↔ keepD L f k j=true):=fun j hj => by
    rw [cutL_index hj,hD]
    by_cases e:j < k
    · rw [if_pos e]; exact ⟨fun hh => ⟨e,hh⟩,fun hh => hh.2⟩
    · rw [if_neg e]; exact ⟨fun hh => absurd rfl hh,fun hh => absurd hh.1 e⟩
  have htab:∀ i,i < 128 → (cutL L f k (16524 + i) ≠ 0 ↔ ∃ s,s < 128 ∧ keepD L f k (138 + 128 * i + s)=true):=fun i hi => by
    have hn:nodes (keepD L f k) (16524 + i)=tabOf (keepD L f k) i:=by
      unfold nodes
      rw [if_neg (by omega),if_neg (by omega),if_neg (by omega),show 16524 + i - 16524=i by omega]
    unfold cutL
    rw [hn]
    constructor
    · intro hh
      by_cases e:tabOf (keepD L f k) i=true
      · exact (any_iff _ _).1 e
      · rw [if_neg e] at hh; exact absurd rfl hh
    · rintro ⟨s,hs,hk⟩
      rw [if_pos (show tabOf (keepD L f k) i=true from (any_iff _ _).2 ⟨s,hs,hk⟩)]
      exact h.keep_up hi hs ((hD _).1 hk).2
  by_cases e1:q=16522
  · subst e1
    have hn:nodes (keepD L f k) 16522=(List.range 128).any (fun s => keepD L f k (10 + s)):=by unfold nodes; rw [if_neg (by omega),if_pos rfl]
    constructor
    · intro hh
      unfold cutL at hh
      rw [hn] at hh
      by_cases e:(List.range 128).any (fun s => keepD L f k (10 + s))=true
      · obtain ⟨s,hs,hk⟩:=(any_iff _ _).1 e
        exact ⟨s,hs,(hix _ (by rw [kid_one]; omega)).2 (by rw [kid_one]; exact hk)⟩
      · rw [if_neg e] at hh; exact absurd rfl hh
    · rintro ⟨s,hs,hk⟩
      rw [kid_one] at hk
      have hk':=(hix _ (by omega)).1 hk
      unfold cutL
      rw [hn,if_pos ((any_iff _ _).2 ⟨s,hs,hk'⟩)]
      obtain ⟨k1,_,_⟩:=par_kid (q:=16522) (s:=s) (by omega) (by omega) hs
      rw [kid_one] at k1
      have:=h.up (f:=f) ((hD _).1 hk').2 (by rw [k1]; omega)
      rwa [k1] at this
  · by_cases e2:q=16523
    · subst e2
      have hn:nodes (keepD L f k) 16523=(List.range 128).any (tabOf (keepD L f k)):=by unfold nodes; rw [if_neg (by omega),if_neg (by omega),if_pos rfl]
      constructor
      · intro hh
        unfold cutL at hh
        rw [hn] at hh
        by_cases e:(List.range 128).any (tabOf (keepD L f k))=true
        · obtain ⟨s,hs,hk⟩:=(any_iff _ _).1 e
          exact ⟨s,hs,by rw [kid_two]; exact (htab s hs).2 ((any_iff _ _).1 hk)⟩
        · rw [if_neg e] at hh; exact absurd rfl hh
      · rintro ⟨s,hs,hk⟩
        rw [kid_two] at hk
        unfold cutL
        rw [hn,if_pos ((any_iff _ _).2 ⟨s,hs,(any_iff _ _).2 ((htab s hs).1 hk)⟩)]
        obtain ⟨k1,_,_⟩:=par_kid (q:=16523) (s:=s) (by omega) (by omega) hs
        rw [kid_two] at k1
        have:=h.up (f:=f) (p:=16524 + s) (fun e => hk (cutL_zero e)) (by rw [k1]; omega)
        rwa [k1] at this
    · obtain ⟨i,rfl⟩:∃ i,q=16524 + i:=⟨q - 16524,by omega⟩
      rw [htab i (by omega)]
      constructor
      · rintro ⟨s,hs,hk⟩; exact ⟨s,hs,by rw [kid_tab (by omega),show 16524 + i - 16524=i by omega]; exact (hix _ (by omega)).2 hk⟩
      · rintro ⟨s,hs,hk⟩
        rw [kid_tab (by omega),show 16524 + i - 16524=i by omega] at hk
        exact ⟨s,hs,(hix _ (by omega)).1 hk⟩
end
section
variable {L:Nat → Nat → Nat}{f k:Nat}{P P2:Nat → Bool}
theorem Lp_in {p:Nat}(h:P p=true):Lp L f k P f p=cutL L f k p:=if_pos ⟨rfl,h⟩
theorem Lp_out {p:Nat}(h:P p=false):Lp L f k P f p=L f p:=if_neg (fun e => by rw [h] at e; cases e.2)
theorem Lp_other {g p:Nat}(h:g ≠ f):Lp L f k P g p=L g p:=if_neg (fun e => h e.1)
theorem Lp_same (h:∀ p,P p=true → P2 p=true)(h2:∀ p,P2 p=true → P p=true ∨ cutL L f k p=L f p):Lp L f k P2=Lp L f k P:=by
  funext g p
  by_cases e:g=f
  · subst e
    cases hp:P p with
    | true => rw [Lp_in hp,Lp_in (h p hp)]
    | false =>
      rw [Lp_out hp]
      cases hp2:P2 p with
      | true => rw [Lp_in hp2]; exact (h2 p hp2).resolve_left (by rw [hp]; decide)
      | false => rw [Lp_out hp2]
  · rw [Lp_other e,Lp_other e]
theorem Lp_drop {p:Nat}(h:∀ r,P2 r=(P r || r == p))(h0:cutL L f k p=0):Lp L f k P2=updL (Lp L f k P) f p 0:=by
  funext g r
  by_cases e:g=f ∧ r=p
  · obtain ⟨rfl,rfl⟩:=e
    rw [updL_same,Lp_in (by rw [h]; simp),h0]
  · rw [updL_other _ _ _ _ e]
    by_cases e1:g=f
    · subst e1
      have hr:r ≠ p:=fun e2 => e ⟨rfl,e2⟩
      have:P2 r=P r:=by rw [h]; simp [hr]
      cases hp:P r with
      | true => rw [Lp_in hp,Lp_in (this.trans hp)]
      | false => rw [Lp_out hp,Lp_out (this.trans hp)]
    · rw [Lp_other e1,Lp_other e1]
end
end Go.Proofs.YthkijogloebdoaaGreatDoor.Fs
end
section
namespace Go.Proofs.YthkijogloebdoaaGreatDoor.Fs
open Rec Gp
def Pl.D (P:Pl):Nat → Bool:=fun k => (P.B k).isSome
def Pl.takes (P:Pl):Nat:=Fs.takes P.D
theorem takes_congr {D D2:Nat → Bool}(h:∀ k,k < 16522 → D k=D2 k):takes D=takes D2:=by
  unfold takes
  exact cntP_congr _ (fun p hp => bool_ext ⟨nodes_mono (fun k hk e => by rw [← h k hk]; exact e) p hp,nodes_mono (fun k hk e => by rw [h k hk]; exact e) p hp⟩)
theorem path_nodes {D:Nat → Bool}{k:Nat}(hk:k < 16522)(hD:D k=true):∀ p,p ∈ path k → nodes D p=true:=by
  intro p hp
  unfold path at hp
  have hself:nodes D k=true:=by unfold nodes; rw [if_pos hk]; exact hD
  by_cases h1:k < 10
  · rw [if_pos h1] at hp
    rw [List.mem_singleton] at hp
    rw [hp]; exact hself
  · rw [if_neg h1] at hp
    by_cases h2:k < 138
    · rw [if_pos h2] at hp
      rcases List.mem_cons.1 hp with rfl | hp
      · unfold nodes
        rw [if_neg (by omega),if_pos rfl]
        exact (any_iff _ _).2 ⟨k - 10,by omega,by rw [show 10 + (k - 10)=k by omega]; exact hD⟩
      · rw [List.mem_singleton] at hp
        rw [hp]; exact hself
    · rw [if_neg h2] at hp
      have ht:tabOf D ((k - 138) / 128)=true:=(any_iff _ _).2 ⟨(k - 138) % 128,by omega,by rw [show 138 + 128 * ((k - 138) / 128) + (k - 138) % 128=k by omega]; exact hD⟩
      rcases List.mem_cons.1 hp with rfl | hp
      · unfold nodes
        rw [if_neg (by omega),if_neg (by omega),if_pos rfl]
        exact (any_iff _ _).2 ⟨(k - 138) / 128,by omega,ht⟩
      · rcases List.mem_cons.1 hp with rfl | hp
        · unfold nodes
          rw [if_neg (by omega),if_neg (by omega),if_neg (by omega),show 16524 + (k - 138) / 128 - 16524=(k - 138) / 128 by omega]
          exact ht
        · rw [List.mem_singleton] at hp
          rw [hp]; exact hself
theorem path_self (k:Nat):k ∈ path k:=by
  unfold path
  split
  · simp
  · split <;> simp
theorem path_leaf {j k:Nat}(hj:j < 16522)(h:j ∈ path k):j=k:=by
  unfold path at h
  by_cases h1:k < 10
  · rw [if_pos h1] at h; simpa using h
  · rw [if_neg h1] at h
    by_cases h2:k < 138
    · rw [if_pos h2] at h; simp at h; omega
    · rw [if_neg h2] at h; simp at h; omega
theorem path_lt {k p:Nat}(hk:k < 16522)(h:p ∈ path k):p < 16652:=by
  unfold path at h
  by_cases h1:k < 10
  · rw [if_pos h1] at h; simp at h; omega
  · rw [if_neg h1] at h
    by_cases h2:k < 138
    · rw [if_pos h2] at h; simp at h; omega
    · rw [if_neg h2] at h; simp at h; omega
structure FsIn (n:Nat)(V:Nat → List UInt8)(X:Nat → Ino)(L:Nat → Nat → Nat)(Q:Nat → Pl):Prop where
  tree:Tree0 n V X L
  live:∀ f,f < 3 → Live L f
  ino:∀ f,f < 3 → InoAt V n (f + 2) (X f)
  kind:∀ f,f < 3 → (X f).kind=1 ∧ (X f).links=1 ∧ (X f).size=(Q f).size
  has:∀ f,f < 3 → ∀ k,(Q f).B k=if k < 16522 ∧ L f k ≠ 0 then some (V (L f k)) else none
  ok:∀ f,f < 3 → (Q f).Ok
def takes3 (Q:Nat → Pl):Nat:=(Q 0).takes + (Q 1).takes + (Q 2).takes
section
variable {n:Nat}{V V2 V3:Nat → List UInt8}{X X2 X3:Nat → Ino}{L L2 L3:Nat → Nat → Nat}{Q:Nat → Pl}{f k:Nat}{B:Nat → Option (List UInt8)}
theorem takes_of (h:Tree0 n V X L)(hl:Live L f){P:Pl}(hP:∀ k,P.B k=if k < 16522 ∧ L f k ≠ 0 then some (V (L f k)) else none):cntP (pres L f) 16652=P.takes:=by
  rw [h.takes_eq hl]
  refine takes_congr (fun k hk => bool_ext ?_)
  rw [pres_iff]
  show _ ↔ (P.B k).isSome=true
  rw [hP]
  by_cases e:L f k=0
  · rw [if_neg (fun h => h.2 e)]; exact ⟨fun h => absurd e h,fun h => by cases h⟩
  · rw [if_pos ⟨hk,e⟩]; exact ⟨fun _ => rfl,fun _ => e⟩
theorem FsIn.total (h:FsIn n V X L Q):total L=takes3 Q:=by
  unfold Fs.total takes3
  rw [takes_of h.tree (h.live 0 (by omega)) (h.has 0 (by omega)),takes_of h.tree (h.live 1 (by omega)) (h.has 1 (by omega)),takes_of h.tree (h.live 2 (by omega)) (h.has 2 (by omega))]
theorem FsIn.free (h:FsIn n V X L Q)(hn:Disk n):freeIn V n (Gp.ino n - 98) + takes3 Q + dat n=n:=by
  rw [← h.total]; exact h.tree.room hn
theorem FsIn.blk (h:FsIn n V X L Q)(hf:f < 3){k:Nat}(hk:k < 16522):(Q f).blk k=if L f k=0 then blank else V (L f k):=by
  unfold Pl.blk
  rw [h.has f hf]
  by_cases e:L f k=0
  · rw [if_neg (fun h => h.2 e),if_pos e]; rfl
  · rw [if_pos ⟨hk,e⟩,if_neg e]; rfl
theorem inoAt_same {x:Ino}{i:Nat}(h:InoAt V n i x)(hV:V2 (Gp.ino n + i / 8)=V (Gp.ino n + i / 8)):InoAt V2 n i x:=⟨by rw [hV]; exact h.1,h.2⟩
theorem inoAt_put {x:Ino}{i:Nat}(hlen:(V (Gp.ino n + i / 8)).length=512)(hx:x.Ok):InoAt (upd V (Gp.ino n + i / 8) (spliced (V (Gp.ino n + i / 8)) (i % 8 * 64) (encN x 12))) n i x:=by
  refine ⟨?_,hx⟩
  rw [upd_same]
  have:=sl_same (V (Gp.ino n + i / 8)) (i % 8 * 64) (encN x 12) (by rw [encN_len _ _ (Nat.le_refl _),hlen]; omega)
  rw [encN_len _ _ (Nat.le_refl _)] at this
  rw [this]
  exact encN_rec x hx
theorem inoAt_other {x y:Ino}{i j:Nat}(hlen:(V (Gp.ino n + i / 8)).length=512)(h:InoAt V n j y)(hij:i ≠ j):InoAt (upd V (Gp.ino n + i / 8) (spliced (V (Gp.ino n + i / 8)) (i % 8 * 64) (encN x 12))) n j y:=by
  by_cases e:j / 8=i / 8
  · refine ⟨?_,h.2⟩
    rw [e,upd_same,sl_other _ _ _ (by rw [encN_len _ _ (Nat.le_refl _),hlen]; omega) _ _ (by rw [encN_len _ _ (Nat.le_refl _)]; omega),← e]
    exact h.1
  · exact inoAt_same h (upd_other _ _ _ (by omega))
structure Wring (n:Nat)(V:Nat → List UInt8)(X:Nat → Ino)(L:Nat → Nat → Nat)(f:Nat)(V2:Nat → List UInt8)(X2:Nat → Ino)(L2:Nat → Nat → Nat)(B:Nat → Option (List UInt8)):Prop where
  tree:Tree0 n V2 X2 L2
  live:∀ g,g < 3 → Live L2 g
  others:∀ g p,g ≠ f → L2 g p=L g p
  xs:∀ g,g ≠ f → X2 g=X g
  same:(X2 f).kind=(X f).kind ∧ (X2 f).links=(X f).links ∧ (X2 f).size=(X f).size
  has:∀ k,B k=if k < 16522 ∧ L2 f k ≠ 0 then some (V2 (L2 f k)) else none
  old:∀ g k,g ≠ f → k < 16522 → L g k ≠ 0 → V2 (L g k)=V (L g k)
  meta_:∀ i,Gp.ino n ≤ i → i < dat n → V2 i=V i
theorem FsIn.wring (h:FsIn n V X L Q)(hf:f < 3):Wring n V X L f V X L (Q f).B :=
  ⟨h.tree,h.live,fun _ _ _ => rfl,fun _ _ => rfl,⟨rfl,rfl,rfl⟩,h.has f hf,fun _ _ _ _ _ => rfl,fun _ _ _ => rfl⟩
theorem Wring.step (h:Wring n V X L f V2 X2 L2 B)(hn:Disk n)(hf:f < 3)(hk:k < 16522)(hg:Grew n V2 X2 L2 V3 X3 L3 f k)(ht:Tree0 n V3 X3 L3)(hall:∀ p,p ∈ path k → L3 f p ≠ 0){l:List UInt8}(hl:l.length=512) :
    Wring n V X L f (upd V3 (L3 f k) l) X3 L3 (fun j => if j=k then some l else B j) ∧ V3 (L3 f k)=(B k).getD blank:=by
  have hk3:L3 f k ≠ 0:=hall k (path_self k)
  obtain ⟨_,_,i3,i4⟩:=ht.inn f k hk3
  refine ⟨⟨ht.data hn hk hk3 hl,fun g hg3 => ?_,fun g p e => (hg.others g p e).trans (h.others g p e),fun g e => (hg.xs g e).trans (h.xs g e),⟨hg.same.1.trans h.same.1,hg.same.2.1.trans h.same.2.1,hg.same.2.2.trans h.same.2.2⟩,fun j => ?_,fun g j e hj hne => ?_,fun i h1 h2 => ?_⟩,?_⟩
  · by_cases e:g=f
    · subst e; exact hg.live hk (h.live g hg3) hall
    · exact hg.live_other e (h.live g hg3)
  · by_cases e:j=k
    · subst e
      rw [if_pos rfl,if_pos ⟨hk,hk3⟩,upd_same]
    · rw [if_neg e,h.has j]
      by_cases hj:j < 16522
      · by_cases hz:L2 f j=0
        · rw [if_neg (fun h => h.2 hz)]
          by_cases hz3:L3 f j=0
          · rw [if_neg (fun h => h.2 hz3)]
          · rcases hg.new j hz3 with e2 | e2
            · exact absurd hz e2
            · exact absurd (path_leaf hj e2) e
        · have e3:=hg.keep j hz
          rw [if_pos ⟨hj,hz⟩,if_pos ⟨hj,by rw [e3]; exact hz⟩,e3,upd_other _ _ _ (fun e4 => e (ht.inj f j f k (by rw [e3]; exact hz) (by rw [e3]; exact e4)).2),hg.data f j hj hz]
      · rw [if_neg (fun h => hj h.1),if_neg (fun h => hj h.1)]
  · have h2:L2 g j=L g j:=h.others g j e
    have h3:L3 g j=L g j:=(hg.others g j e).trans h2
    rw [upd_other _ _ _ (fun e4 => e (ht.inj g j f k (by rw [h3]; exact hne) (by rw [h3]; exact e4)).1),← h.old g j e hj hne,← h2,hg.data g j hj (by rw [h2]; exact hne)]
  · rw [upd_other _ _ _ (by omega),hg.meta_ i h1 h2,h.meta_ i h1 h2]
  · rw [h.has k]
    by_cases hz:L2 f k=0
    · rw [if_neg (fun h => h.2 hz),hg.blank hz hk3]; rfl
    · rw [if_pos ⟨hk,hz⟩,hg.keep k hz,hg.data f k hk hz]; rfl
theorem Wring.done (h:Wring n V X L f V2 X2 L2 B)(h0:FsIn n V X L Q)(hn:Disk n)(hf:f < 3){sz:Nat}(hok:(Pl.mk B sz).Ok)(hi:Gp.ino n + (f + 2) / 8 < n)(hd:Gp.ino n + (f + 2) / 8 < dat n)(hxo:(Ino.mk (X2 f).kind (X2 f).links sz (X2 f).num).Ok) :
    FsIn n (upd V2 (Gp.ino n + (f + 2) / 8) (spliced (V2 (Gp.ino n + (f + 2) / 8)) ((f + 2) % 8 * 64) (encN ⟨(X2 f).kind,(X2 f).links,sz,(X2 f).num⟩ 12))) (updX X2 f ⟨(X2 f).kind,(X2 f).links,sz,(X2 f).num⟩) L2 (fun g => if g=f then ⟨B,sz⟩ else Q g):=by
  have hlen:=h.tree.len _ hi
  have hV:∀ g k,L2 g k ≠ 0 → upd V2 (Gp.ino n + (f + 2) / 8) (spliced (V2 (Gp.ino n + (f + 2) / 8)) ((f + 2) % 8 * 64) (encN ⟨(X2 f).kind,(X2 f).links,sz,(X2 f).num⟩ 12)) (L2 g k)=V2 (L2 g k):=fun g k hne => by
    obtain ⟨_,_,i3,_⟩:=h.tree.inn g k hne
    exact upd_other _ _ _ (by omega)
  refine ⟨?_,h.live,fun g hg => ?_,fun g hg => ?_,fun g hg k => ?_,fun g hg => ?_⟩
  · have h1:=h.tree.meta_ hn (i:=Gp.ino n + (f + 2) / 8) (by omega) hd (l:=spliced (V2 (Gp.ino n + (f + 2) / 8)) ((f + 2) % 8 * 64) (encN ⟨(X2 f).kind,(X2 f).links,sz,(X2 f).num⟩ 12)) (by rw [spliced_length _ _ _ (by rw [encN_len _ _ (Nat.le_refl _),hlen]; omega)]; exact hlen)
    refine ⟨fun g p hg hp he => ?_,h1.gone,h1.inn,h1.inj,h1.bits,h1.len⟩
    rw [h1.ref g p hg hp he]
    by_cases e:g=f
    · subst e; rw [updX_same]; rfl
    · rw [updX_other _ _ _ e]
  · by_cases e:g=f
    · subst e; rw [updX_same]; exact inoAt_put hlen hxo
    · rw [updX_other _ _ _ e,h.xs g e]
      refine inoAt_other hlen (inoAt_same (h0.ino g hg) (h.meta_ _ (by omega) ?_)) (by omega)
      have:(g + 2) / 8=(f + 2) / 8:=by omega
      omega
  · by_cases e:g=f
    · subst e
      rw [updX_same,if_pos rfl]
      exact ⟨h.same.1.trans (h0.kind g hg).1,h.same.2.1.trans (h0.kind g hg).2.1,rfl⟩
    · rw [updX_other _ _ _ e,if_neg e,h.xs g e]
      exact h0.kind g hg
  · by_cases e:g=f
    · subst e
      rw [if_pos rfl]
      show B k=_
      rw [h.has k]
      by_cases hc:k < 16522 ∧ L2 g k ≠ 0
      · rw [if_pos hc,if_pos hc,hV g k hc.2]
      · rw [if_neg hc,if_neg hc]
    · rw [if_neg e,h0.has g hg k,h.others g k e]
      by_cases hc:k < 16522 ∧ L g k ≠ 0
      · rw [if_pos hc,if_pos hc]
        have h1:=h.others g k e
        rw [← h1,hV g k (by rw [h1]; exact hc.2),h1,h.old g k e hc.1 hc.2]
      · rw [if_neg hc,if_neg hc]
  · by_cases e:g=f
    · subst e; rw [if_pos rfl]; exact hok
    · rw [if_neg e]; exact h0.ok g hg
theorem Wring.full (h:Wring n V X L f V2 X2 L2 B)(h0:FsIn n V X L Q)(hf:f < 3)(hk:k < 16522)(hg:Grew n V2 X2 L2 V3 X3 L3 f k)(htot:Fs.total L3 + dat n=n){p:Nat}(hp:p ∈ path k)(hp0:L3 f p=0){P:Pl}(hP:∀ j,B j ≠ none → P.B j ≠ none)(hPk:P.B k ≠ none) :
    n < takes3 (fun g => if g=f then P else Q g) + dat n:=by
  have hBD:∀ j,j < 16522 → pres L2 f j=true → P.D j=true:=fun j hj e => by
    rw [pres_iff] at e
    show (P.B j).isSome=true
    rw [Option.isSome_iff_ne_none]
    exact hP j (by rw [h.has j,if_pos ⟨hj,e⟩]; exact fun h => by cases h)
  have hDk:P.D k=true:=by show (P.B k).isSome=true; rw [Option.isSome_iff_ne_none]; exact hPk
  have h1:∀ r,r < 16652 → pres L3 f r=true → nodes P.D r=true:=fun r hr e => by
    rw [pres_iff] at e
    rcases hg.new r e with e2 | e2
    · have:=h.tree.nodes_eq (h.live f hf) r hr
      rw [pres_iff.2 e2] at this
      exact nodes_mono hBD r hr this.symm
    · exact path_nodes hk hDk r e2
  have hpl:p < 16652:=path_lt hk hp
  have hlt:cntP (pres L3 f) 16652 < P.takes:=cntP_lt 16652 h1 p hpl (by rw [Bool.eq_false_iff]; intro e; exact pres_iff.1 e hp0) (path_nodes hk hDk p hp)
  have hoth:∀ g,g < 3 → g ≠ f → cntP (pres L3 g) 16652=(Q g).takes:=fun g hg3 e => by
    rw [← takes_of h0.tree (h0.live g hg3) (h0.has g hg3)]
    refine cntP_congr _ (fun j hj => ?_)
    unfold pres
    rw [(hg.others g j e).trans (h.others g j e)]
  unfold Fs.total at htot
  unfold takes3
  have h012:f=0 ∨ f=1 ∨ f=2:=by omega
  rcases h012 with rfl | rfl | rfl
  · rw [hoth 1 (by omega) (by omega),hoth 2 (by omega) (by omega)] at htot
    simp only [if_pos,if_neg (show ¬ (1:Nat)=0 by omega),if_neg (show ¬ (2:Nat)=0 by omega)]
    omega
  · rw [hoth 0 (by omega) (by omega),hoth 2 (by omega) (by omega)] at htot
    simp only [if_pos,if_neg (show ¬ (0:Nat)=1 by omega),if_neg (show ¬ (2:Nat)=1 by omega)]
    omega
  · rw [hoth 0 (by omega) (by omega),hoth 1 (by omega) (by omega)] at htot
    simp only [if_pos,if_neg (show ¬ (0:Nat)=2 by omega),if_neg (show ¬ (1:Nat)=2 by omega)]
    omega
theorem cut_live (h:Tree0 n V X L):Live (Lp L f k (fun _ => true)) f:=fun q h0 h1 hne => by
  rw [Lp_in rfl] at hne
  obtain ⟨s,hs,e⟩:=(h.cutL_tab h0 h1).1 hne
  exact ⟨s,hs,by rw [Lp_in rfl]; exact e⟩
theorem FsIn.cut (h:FsIn n V X L Q)(hn:Disk n)(hf:f < 3)(ht:Tree0 n V2 X2 (Lp L f k (fun _ => true)))(hx:∀ g,g ≠ f → X2 g=X g)(hs:(X2 f).kind=(X f).kind ∧ (X2 f).links=(X f).links ∧ (X2 f).size=(X f).size)
    (hV:∀ i,Gp.ino n ≤ i → (∀ q,16522 ≤ q → L f q ≠ i) → V2 i=V i):Wring n V X L f V2 X2 (Lp L f k (fun _ => true)) (fun j => if j < k then (Q f).B j else none):=by
  have hd:=(geo_facts hn).2.2.2
  have hd3:=(geo_facts hn).2.2.1
  have hkeep:∀ g p,p < 16522 → L g p ≠ 0 → V2 (L g p)=V (L g p):=fun g p hp hne => by
    obtain ⟨_,_,i3,_⟩:=h.tree.inn g p hne
    refine hV _ (by omega) (fun q hq e => ?_)
    have:=(h.tree.inj g p f q hne e.symm).2
    omega
  refine ⟨ht,fun g hg => ?_,fun g p e => Lp_other e,hx,hs,fun j => ?_,fun g j e hj hne => hkeep g j hj hne,fun i h1 h2 => hV i h1 (fun q hq e => ?_)⟩
  · by_cases e:g=f
    · subst e; exact cut_live h.tree
    · intro q h0 h1 hne
      rw [Lp_other e] at hne
      obtain ⟨s,hs,e2⟩:=h.live g hg q h0 h1 hne
      exact ⟨s,hs,by rw [Lp_other e]; exact e2⟩
  · rw [h.has f hf j]
    by_cases hj:j < 16522
    · rw [Lp_in rfl,cutL_index hj]
      by_cases hk:j < k
      · rw [if_pos hk]
        simp only [if_pos hk]
        by_cases hz:L f j=0
        · rw [if_neg (fun h => h.2 hz),if_neg (fun h => h.2 hz)]
        · rw [if_pos ⟨hj,hz⟩,if_pos ⟨hj,hz⟩,hkeep f j hj hz]
      · rw [if_neg hk]
        simp only [if_neg hk]
        rw [if_neg (fun h => h.2 rfl)]
    · by_cases hk:j < k
      · simp only [if_pos hk]; rw [if_neg (fun h => hj h.1),if_neg (fun h => hj h.1)]
      · simp only [if_neg hk]; rw [if_neg (fun h => hj h.1)]
  · by_cases hz:L f q=0
    · rw [hz] at e; omega
    · obtain ⟨_,_,i3,_⟩:=h.tree.inn f q hz
      omega
theorem Wring.put (h:Wring n V X L f V2 X2 L2 B)(hn:Disk n)(hk:k < 16522)(hk2:L2 f k ≠ 0){l:List UInt8}(hl:l.length=512):Wring n V X L f (upd V2 (L2 f k) l) X2 L2 (fun j => if j=k then some l else B j):=by
  obtain ⟨_,_,i3,i4⟩:=h.tree.inn f k hk2
  refine ⟨h.tree.data hn hk hk2 hl,h.live,h.others,h.xs,h.same,fun j => ?_,fun g j e hj hne => ?_,fun i h1 h2 => by rw [upd_other _ _ _ (by omega)]; exact h.meta_ i h1 h2⟩
  · by_cases e:j=k
    · subst e; rw [if_pos rfl,if_pos ⟨hk,hk2⟩,upd_same]
    · rw [if_neg e,h.has j]
      by_cases hc:j < 16522 ∧ L2 f j ≠ 0
      · rw [if_pos hc,if_pos hc,upd_other _ _ _ (fun e4 => e (h.tree.inj f j f k hc.2 e4).2)]
      · rw [if_neg hc,if_neg hc]
  · have h2:=h.others g j e
    rw [upd_other _ _ _ (fun e4 => e (h.tree.inj g j f k (by rw [h2]; exact hne) (by rw [h2]; exact e4)).1)]
    exact h.old g j e hj hne
end
end Go.Proofs.YthkijogloebdoaaGreatDoor.Fs
end
section
set_option maxRecDepth 100000
namespace Go.Proofs.YthkijogloebdoaaGreatDoor
open Go.RowKit Go.Maps Rec Gp Fs
def RwU (w:World)(g:Nat)(l:List UInt8):Prop := ∃ cs,w.heap[g]? = some (.cells cs 5 (0,0)) ∧ l.length ≤ cs.size ∧ ∀ k (h:k < l.length),cs[k]? = some (.int .u8 (n8 l[k]))
section
variable {w w':World}{g:Nat}{l:List UInt8}
theorem RwU.rw (h:RwU w g l):Rw w g l:=by obtain ⟨cs,h1,h2⟩:=h; exact ⟨cs,_,h1,h2⟩
theorem RwU.lt (h:RwU w g l):g < w.heap.size:=h.rw.lt
theorem RwU.cell (h:RwU w g l){k:Nat}(hk:k < l.length):w.cell? ⟨g,k,none⟩=some (.int .u8 (n8 l[k])):=h.rw.cell hk
theorem RwU.free (h:RwU w g l)(k:Nat):w.frozen? ⟨g,k,none⟩=false:=h.rw.free k
theorem RwU.bytes (h:RwU w g l):Bytes w (some ⟨g,0,none⟩) l:=h.rw.bytes
theorem RwU.kept (h:RwU w g l)(hk:w'.heap[g]? = w.heap[g]?):RwU w' g l:=by obtain ⟨cs,h1,h2⟩:=h; exact ⟨cs,hk.trans h1,h2⟩
theorem RwU.below {B:Nat}(h:RwU w g l)(hb:Below B w w')(hg:g < B):RwU w' g l:=h.kept (hb.block g hg)
theorem RwU.later (h:RwU w g l)(hb:Below w.heap.size w w'):RwU w' g l:=h.below hb h.lt
theorem RwU.drew (h:RwU w g l):RwU w.drew g l:=h
theorem RwU.of_is (h:Is w g 5 (u8s l)):RwU w g l:=⟨_,h,by rw [u8s_size]; exact Nat.le_refl _,fun k hk => u8s_at l k hk⟩
theorem RwU.of_mine {base cap:Nat}(h:Mine w base (some ⟨g,0,none⟩) cap l)(hl:l ≠ []):RwU w g l:=by
  obtain ⟨cur,hh,hs,_⟩:=h.row
  refine ⟨cur,hh,hs,fun k hk => ?_⟩
  have:=h.cell hk
  rwa [cell_of_row w g k cur _ (0,0) hh] at this
theorem RwU.put (h:RwU w g l)(k:Nat)(b:UInt8):RwU (w.setCell ⟨g,k,none⟩ (.int .u8 (n8 b))) g (l.set k b):=by
  obtain ⟨cs,hh,hs,hc⟩:=h
  refine ⟨cs.setIfInBounds k (.int .u8 (n8 b)),heap_setCell_same w g k cs _ _ hh,by simpa using hs,fun j hj => ?_⟩
  rw [List.length_set] at hj
  by_cases e:k=j
  · subst e
    simp [show k < cs.size by omega]
  · rw [Array.getElem?_setIfInBounds_ne e,hc j hj]
    simp [e]
theorem RwU.tk (h:RwU w g l):Tk w g [5]:=by obtain ⟨cs,h1,_⟩:=h; exact ⟨_,_,_,h1,by simp⟩
end
structure PM (w:World)(lo hi m:Nat)(B:Nat → Option (List UInt8))(G C:Nat → Nat)(D:DataW Value):Prop where
  own:w.ownsMap Tryz.prog 3 RV m (Maps.size D) D
  m0:lo ≤ m
  m1:m < hi
  keys:∀ x:Int,Maps.has D (.int .i64 x)=true → ∃ i:Nat,x=(i:Int) ∧ i < 16522 ∧ (B i).isSome=true
  no:∀ i,B i=none → Maps.has D (keyD i)=false
  yes:∀ i l,B i=some l → Maps.has D (keyD i)=true ∧ l.length=512 ∧ D.atKey (keyD i) nilD=.held (.slice (some ⟨G i,0,none⟩) 512 (C i)) ∧ lo ≤ G i ∧ G i < hi ∧ RwU w (G i) l ∧ G i ≠ m
  inj:∀ i j,(B i).isSome=true → (B j).isSome=true → G i=G j → i=j
def updB (B:Nat → Option (List UInt8))(i:Nat)(v:Option (List UInt8)):Nat → Option (List UInt8):=fun j => if j=i then v else B j
def upd1 (G:Nat → Nat)(i v:Nat):Nat → Nat:=fun j => if j=i then v else G j
theorem updB_same (B:Nat → Option (List UInt8))(i:Nat)(v:Option (List UInt8)):updB B i v i=v:=if_pos rfl
theorem updB_other (B:Nat → Option (List UInt8))(i:Nat)(v:Option (List UInt8)){j:Nat}(h:j ≠ i):updB B i v j=B j:=if_neg h
theorem upd1_same (G:Nat → Nat)(i v:Nat):upd1 G i v i=v:=if_pos rfl
theorem upd1_other (G:Nat → Nat)(i v:Nat){j:Nat}(h:j ≠ i):upd1 G i v j=G j:=if_neg h
def elV (B:Nat → Option (List UInt8))(G C:Nat → Nat)(i:Nat):Value:=if (B i).isSome=true then .slice (some ⟨G i,0,none⟩) 512 (C i) else .slice none 0 0
theorem keyI {i:Nat}(hi:i ≤ 9223372036854775807):keyOf Tryz.prog 3 (.int .i64 (i:Int))=some (keyD i):=keyOf_int_mk Tryz.underlying3 (wf_i64 _ (by omega) (by omega))
section
variable {w w2:World}{lo hi m lo2 hi2:Nat}{B:Nat → Option (List UInt8)}{G C:Nat → Nat}{D:DataW Value}
theorem PM.agree (h:PM w lo hi m B G C D)(e:∀ k,lo ≤ k → k < hi → w2.heap[k]? = w.heap[k]?):PM w2 lo hi m B G C D :=
  ⟨ownsMap_heap h.own (e m h.m0 h.m1),h.m0,h.m1,h.keys,h.no,fun i l hb => by
    obtain ⟨q1,q2,q3,q4,q5,q6,q7⟩:=h.yes i l hb
    exact ⟨q1,q2,q3,q4,q5,q6.kept (e _ q4 q5),q7⟩,h.inj⟩
theorem PM.wide (h:PM w lo hi m B G C D)(h1:lo2 ≤ lo)(h2:hi ≤ hi2):PM w lo2 hi2 m B G C D :=
  ⟨h.own,Nat.le_trans h1 h.m0,Nat.lt_of_lt_of_le h.m1 h2,h.keys,h.no,fun i l hb => by
    obtain ⟨q1,q2,q3,q4,q5,q6,q7⟩:=h.yes i l hb
    exact ⟨q1,q2,q3,Nat.le_trans h1 q4,Nat.lt_of_lt_of_le q5 h2,q6,q7⟩,h.inj⟩
theorem PM.below {b:Nat}(h:PM w lo hi m B G C D)(hb:Below b w w2)(hhi:hi ≤ b):PM w2 lo hi m B G C D:=h.agree (fun k _ h2 => hb.block k (by omega))
theorem PM.new (w:World)(G C:Nat → Nat):PM (w.alloc (.map #[] 0)) w.heap.size (w.heap.size + 1) w.heap.size (fun _ => none) G C (.map []) :=
  ⟨World.ownsMap_made w _ _ _,Nat.le_refl _,Nat.lt_succ_self _,fun x h => (by simp [Maps.has] at h),fun _ _ => rfl,fun i l h => (by cases h),fun i j h => (by cases h)⟩
theorem PM.cast (h:PM w lo hi m B G C D){B2:Nat → Option (List UInt8)}(e:B2=B):PM w lo hi m B2 G C D:=e ▸ h
theorem PM.look (h:PM w lo hi m B G C D)(i:Nat)(hi9:i ≤ 9223372036854775807)(X:World)(hX:X.heap[m]? = w.heap[m]?) :
    (Instr.lookup 45 (.map (some m)) (.int .i64 (i:Int)) false).run Tryz.prog X=.ok (elV B G C i) X:=by
  obtain ⟨v,ps,hrun,hv⟩:=(ownsMap_heap h.own hX).lookup (int_keyed Tryz.underlying3) Tryz.underlying45 (z:=.slice none 0 0) (by kernel_rfl) (zd:=nilD) (zp := []) rfl (keyI hi9)
  have hv2:DataW.held v=D.atKey (keyD i) nilD:=by
    unfold RV at hv
    injection hv with hv
    exact (Prod.mk.inj hv).1
  rw [hrun]
  congr 1
  unfold elV
  cases hb:B i with
  | none =>
    rw [Maps.atKey_of_not_has (h.no i hb)] at hv2
    unfold nilD at hv2
    injection hv2 with hv2
  | some l =>
    obtain ⟨_,_,q3,_⟩:=h.yes i l hb
    rw [q3] at hv2
    injection hv2 with hv2
theorem PM.len (h:PM w lo hi m B G C D):Maps.size D=cntP (fun i => (B i).isSome) 16522:=by
  obtain ⟨k1,k2,k3⟩:=mem_intKeys h.own
  rw [cntP_length,← k3]
  have hp:(((List.range 16522).filter (fun i => (B i).isSome)).map (fun i:Nat => (i:Int))).Perm (intKeys D):=by
    refine (List.perm_ext_iff_of_nodup ?_ k1).2 (fun x => ?_)
    · refine List.pairwise_map.2 ((List.nodup_range.filter _).imp (fun {p q} hne e => hne (by omega)))
    · rw [k2,List.mem_map]
      constructor
      · rintro ⟨i,hi,rfl⟩
        have hs:=(List.mem_filter.1 hi).2
        cases hb:B i with
        | none => simp [hb] at hs
        | some l => exact (h.yes i l hb).1
      · intro hx
        obtain ⟨i,rfl,h1,h2⟩:=h.keys x hx
        exact ⟨i,List.mem_filter.2 ⟨List.mem_range.2 h1,h2⟩,rfl⟩
  rw [← hp.length_eq,List.length_map]
theorem PM.size_le (h:PM w lo hi m B G C D):Maps.size D ≤ 16522:=by rw [h.len]; exact cntP_le _ _
theorem PM.store (h:PM w lo hi m B G C D)(i:Nat)(hi5:i < 16522)(g c:Nat)(l:List UInt8)(hr:RwU w g l)(hl:l.length=512)(hg:hi ≤ g)(hg2:g < hi2) :
    ∃ w6 D',(Instr.mapUpdate 45 (.map (some m)) (.int .i64 (i:Int)) (.slice (some ⟨g,0,none⟩) 512 c)).run Tryz.prog w=.ok () w6 ∧ PM w6 lo hi2 m (updB B i (some l)) (upd1 G i g) (upd1 C i c) D' ∧ w.grownBy w6 (some m) ∧ w6.heap.size=w.heap.size:=by
  obtain ⟨w6,hrun,hown,hturn⟩:=h.own.store (int_keyed Tryz.underlying3) Tryz.underlying45 (by have:=h.size_le; simp only [maxLen]; omega) (key:=.int .i64 (i:Int)) (val:=.slice (some ⟨g,0,none⟩) 512 c) (kl:=keyD i) (d:=.held (.slice (some ⟨g,0,none⟩) 512 c)) (ps := []) (keyI (by omega)) rfl
  have hne:∀ j:Nat,j ≠ i → keyD j ≠ keyD i:=fun j hj e => hj (by injection e with _ e; omega)
  have hM:=h.own.isMap
  have hgr:=hturn.grown
  have hm1:=h.m1
  have hm0:=h.m0
  have hblk:∀ k,k < w.heap.size → k ≠ m → w6.heap[k]? = w.heap[k]?:=fun k hk e => hgr.block k hk (fun e2 => by injection e2 with e2; exact e e2)
  obtain ⟨es,ck,es',ck',e1,e2⟩:=hturn
  refine ⟨w6,_,hrun,⟨ownsMap_tight hown,hm0,by omega,fun x hx => ?_,fun j hj => ?_,fun j l' hj => ?_,fun p q hp hq e => ?_⟩,hgr,(congrArg (fun x:World => x.heap.size) e2).trans Array.size_setIfInBounds⟩
  · by_cases e:(Lit.int .i64 x)=keyD i
    · exact ⟨i,by injection e with _ e,hi5,by rw [updB_same]; rfl⟩
    · rw [Maps.has_put_other e] at hx
      obtain ⟨j,rfl,q1,q2⟩:=h.keys x hx
      refine ⟨j,rfl,q1,?_⟩
      by_cases ej:j=i
      · rw [ej,updB_same]; rfl
      · rw [updB_other _ _ _ ej]; exact q2
  · by_cases ej:j=i
    · rw [ej,updB_same] at hj; cases hj
    · rw [updB_other _ _ _ ej] at hj
      rw [Maps.has_put_other (hne j ej)]
      exact h.no j hj
  · by_cases ej:j=i
    · subst ej
      rw [updB_same] at hj
      injection hj with hj
      subst hj
      rw [upd1_same,upd1_same]
      exact ⟨Maps.has_put_same (k:=keyD j) hM trivial _,hl,Maps.atKey_put_same (k:=keyD j) hM trivial _ _,by omega,hg2,hr.kept (hblk g hr.lt (by omega)),by omega⟩
    · rw [updB_other _ _ _ ej] at hj
      rw [upd1_other _ _ _ ej,upd1_other _ _ _ ej]
      obtain ⟨q1,q2,q3,q4,q5,q6,q7⟩:=h.yes j l' hj
      exact ⟨by rw [Maps.has_put_other (hne j ej)]; exact q1,q2,by rw [Maps.atKey_put_other (hne j ej)]; exact q3,q4,by omega,q6.kept (hblk _ q6.lt q7),q7⟩
  · have key:∀ a b,a=i → b ≠ i → (updB B i (some l) b).isSome=true → upd1 G i g a=upd1 G i g b → False:=fun a b ha hb hs e => by
      rw [ha,upd1_same,upd1_other _ _ _ hb] at e
      rw [updB_other _ _ _ hb] at hs
      cases hbb:B b with
      | none => rw [hbb] at hs; cases hs
      | some l2 =>
        have:=(h.yes b l2 hbb).2.2.2.2.1
        omega
    by_cases ep:p=i
    · by_cases eq:q=i
      · omega
      · exact (key p q ep eq hq e).elim
    · by_cases eq:q=i
      · exact (key q p eq ep hp e.symm).elim
      · rw [updB_other _ _ _ ep] at hp
        rw [updB_other _ _ _ eq] at hq
        rw [upd1_other _ _ _ ep,upd1_other _ _ _ eq] at e
        exact h.inj p q hp hq e
theorem PM.drop (h:PM w lo hi m B G C D)(i:Nat)(hi9:i ≤ 9223372036854775807)(ty:TypeId) :
    ∃ w6 D',(Builtin.delete_ #[45,3] ty #[.map (some m),.int .i64 (i:Int)]).run Tryz.prog w=.ok (.tuple #[]) w6 ∧ PM w6 lo hi m (updB B i none) G C D' ∧ w.grownBy w6 (some m) ∧ w6.heap.size=w.heap.size:=by
  obtain ⟨w6,hrun,hown,hturn⟩:=h.own.drop (int_keyed Tryz.underlying3) Tryz.underlying45 (keyI hi9) ty
  have hne:∀ j:Nat,j ≠ i → keyD j ≠ keyD i:=fun j hj e => hj (by injection e with _ e; omega)
  have hgr:=hturn.grown
  have hblk:∀ k,k < w.heap.size → k ≠ m → w6.heap[k]? = w.heap[k]?:=fun k hk e => hgr.block k hk (fun e2 => by injection e2 with e2; exact e e2)
  obtain ⟨es,ck,es',ck',e1,e2⟩:=hturn
  have hsome:∀ j,(updB B i none j).isSome=true → j ≠ i ∧ (B j).isSome=true:=fun j hj => by
    by_cases ej:j=i
    · rw [ej,updB_same] at hj; cases hj
    · rw [updB_other _ _ _ ej] at hj; exact ⟨ej,hj⟩
  refine ⟨w6,_,hrun,⟨ownsMap_tight hown,h.m0,h.m1,fun x hx => ?_,fun j hj => ?_,fun j l' hj => ?_,fun p q hp hq e => h.inj p q (hsome p hp).2 (hsome q hq).2 e⟩,hgr,(congrArg (fun x:World => x.heap.size) e2).trans Array.size_setIfInBounds⟩
  · by_cases e:(Lit.int .i64 x)=keyD i
    · rw [e,Maps.has_del_same] at hx; cases hx
    · rw [Maps.has_del_other e] at hx
      obtain ⟨j,rfl,q1,q2⟩:=h.keys x hx
      refine ⟨j,rfl,q1,?_⟩
      by_cases ej:j=i
      · exact absurd (by rw [ej]) e
      · rw [updB_other _ _ _ ej]; exact q2
  · by_cases ej:j=i
    · rw [ej]; exact Maps.has_del_same
    · rw [updB_other _ _ _ ej] at hj
      rw [Maps.has_del_other (hne j ej)]
      exact h.no j hj
  · by_cases ej:j=i
    · rw [ej,updB_same] at hj; cases hj
    · rw [updB_other _ _ _ ej] at hj
      obtain ⟨q1,q2,q3,q4,q5,q6,q7⟩:=h.yes j l' hj
      exact ⟨by rw [Maps.has_del_other (hne j ej)]; exact q1,q2,by rw [Maps.atKey_del_other (hne j ej)]; exact q3,q4,q5,q6.kept (hblk _ q6.lt q7),q7⟩
theorem PM.set (h:PM w lo hi m B G C D)(i k:Nat)(l:List UInt8)(hb:B i=some l)(b:UInt8):PM (w.setCell ⟨G i,k,none⟩ (.int .u8 (n8 b))) lo hi m (updB B i (some (l.set k b))) G C D:=by
  obtain ⟨_,hl,_,_,_,hr,hgm⟩:=h.yes i l hb
  have hs:(B i).isSome=true:=by rw [hb]; rfl
  refine ⟨ownsMap_heap h.own (heap_setCell_other w ⟨G i,k,none⟩ m _ (fun e => hgm e.symm)),h.m0,h.m1,fun x hx => ?_,fun j hj => ?_,fun j l' hj => ?_,fun p q hp hq e => ?_⟩
  · obtain ⟨j,rfl,q1,q2⟩:=h.keys x hx
    refine ⟨j,rfl,q1,?_⟩
    by_cases ej:j=i
    · rw [ej,updB_same]; rfl
    · rw [updB_other _ _ _ ej]; exact q2
  · by_cases ej:j=i
    · rw [ej,updB_same] at hj; cases hj
    · rw [updB_other _ _ _ ej] at hj
      exact h.no j hj
  · by_cases ej:j=i
    · subst ej
      rw [updB_same] at hj
      injection hj with hj
      subst hj
      obtain ⟨q1,q2,q3,q4,q5,q6,q7⟩:=h.yes j l hb
      exact ⟨q1,by rw [List.length_set]; exact q2,q3,q4,q5,q6.put k b,q7⟩
    · rw [updB_other _ _ _ ej] at hj
      obtain ⟨q1,q2,q3,q4,q5,q6,q7⟩:=h.yes j l' hj
      exact ⟨q1,q2,q3,q4,q5,q6.kept (heap_setCell_other w ⟨G i,k,none⟩ (G j) _ (fun e => ej (h.inj j i (by rw [hj]; rfl) hs e))),q7⟩
  · have key:∀ a,(updB B i (some (l.set k b)) a).isSome=true → (B a).isSome=true:=fun a ha => by
      by_cases ea:a=i
      · rw [ea]; exact hs
      · rw [updB_other _ _ _ ea] at ha; exact ha
    exact h.inj p q (key p hp) (key q hq) e
theorem PM.entry (h:PM w lo hi m B G C D){x:Int}{c:Value}{kl:Lit}{y:DataW Value × List MemPlace}(hk:keyOf Tryz.prog 3 (.int .i64 x)=some kl)(hR:RV c=some y)(hat:∀ zd,D.atKey kl zd=y.1) :
    ∃ i l,x=((i:Nat):Int) ∧ kl=keyD i ∧ i < 16522 ∧ B i=some l ∧ c=.slice (some ⟨G i,0,none⟩) 512 (C i):=by
  obtain ⟨x',e1,e2,_⟩:=Maps.keyOf_int_inv Tryz.underlying3 hk
  injection e1 with _ e1
  subst e1
  have hh:=Maps.has_true_of_atKey (D:=D) (k:=kl) (y:=y.1) hat
  rw [e2] at hh
  obtain ⟨i,rfl,h1,h2⟩:=h.keys x hh
  cases hb:B i with
  | none => rw [hb] at h2; cases h2
  | some l =>
    refine ⟨i,l,rfl,e2,h1,hb,?_⟩
    obtain ⟨_,_,q3,_⟩:=h.yes i l hb
    have h3:=hat nilD
    rw [e2] at h3
    unfold RV at hR
    injection hR with hR
    rw [← hR] at h3
    rw [q3] at h3
    injection h3 with h3
    exact h3.symm
end
end Go.Proofs.YthkijogloebdoaaGreatDoor
end
