/-
  WholeFiles, the texts Fpb Png Pnh Fsu Qt Bd Be: lemmas for the proof that three files on one disk are plain rows of bytes. No conditions.
-/
import Derived.Test.YthkijogloebdoaaGreatDoorM15
import Derived.Test.YthkijogloebdoaaGreatDoorM14
import Derived.Test.YthkijogloebdoaaGreatDoorM09
import Derived.RangeFuncNested
import Derived.StillTailTactics
set_option linter.unusedVariables false
set_option linter.unusedSimpArgs false
section
namespace Go.Proofs.YthkijogloebdoaaGreatDoor
open Go.RowKit
set_option maxRecDepth 100000 in
theorem parts_any (off m:Nat)(w:World) :
    Calls Tryz.prog 35 #[.int .i64 (off:Int),.int .i64 (m:Int)] w fun e w' => e=.returned (.func (.func 63) #[] #[.pointer (some ⟨w.heap.size + 1,0,none⟩),.pointer (some ⟨w.heap.size,0,none⟩)]) ∧
      Is w' w.heap.size 3 #[.int .i64 (off:Int)] ∧ Is w' (w.heap.size + 1) 3 #[.int .i64 (m:Int)] ∧ Below w.heap.size w w':=by
  obtain ⟨hb0,i0,i1⟩:=two_new w #[.int .i64 (off:Int)] #[.int .i64 (m:Int)] 3 3
  have HB:=Lib.hid hb0
  have H0:=Lib.hid i0
  have H1:=Lib.hid i1
  clear hb0 i0 i1
  go_enter Tryz.func35,Tryz.ntmps35
  go_wp2_with fail
  go_ret
  exact ⟨rfl,H0.out,H1.out,HB.out⟩
end Go.Proofs.YthkijogloebdoaaGreatDoor
namespace Go.Proofs.YthkijogloebdoaaGreatDoor.Fs
open Rec
def idx {off m:Nat}(pre:List (PartOf off m)):List Nat:=pre.map fun x => off / 512 + x.1
def Pl.wrS (P:Pl)(off:Nat)(s:List UInt8)(I:List Nat)(k:Nat):Option (List UInt8):=if k ∈ I then some (over off s k (P.blk k)) else P.B k
theorem over_over (off:Nat)(s:List UInt8)(k:Nat)(l:List UInt8):over off s k (over off s k l)=over off s k l:=by
  refine List.ext_getElem? (fun j => ?_)
  by_cases hj:j < 512
  · rw [over_at _ _ _ _ _ hj,over_at _ _ _ _ _ hj]
    refine congrArg some ?_
    by_cases c:off ≤ 512 * k + j ∧ 512 * k + j < off + s.length
    · rw [if_pos c,if_pos c]
    · rw [if_neg c,if_neg c,List.getD_eq_getElem?_getD,over_at _ _ _ _ _ hj,if_neg c]; rfl
  · rw [List.getElem?_eq_none (by rw [over_len]; omega),List.getElem?_eq_none (by rw [over_len]; omega)]
theorem over_part {off:Nat}{s:List UInt8}{j:Nat}(hj:j < pMany off s.length)(l:List UInt8)(hl:l.length=512) :
    spliced l (pFrom off j) ((s.drop (pAt off j)).take (pTo off s.length j - pFrom off j))=over off s (off / 512 + j) l:=by
  obtain ⟨f1,f2,f3,f4,f5,f6⟩:=part_facts hj
  have hto:pTo off s.length j=min 512 (pFrom off j + (s.length - pAt off j)):=rfl
  have h0:j ≠ 0 → pFrom off j=0:=fun e => if_neg e
  have h1:j=0 → pAt off j=0:=fun e => if_pos e
  have hml:((s.drop (pAt off j)).take (pTo off s.length j - pFrom off j)).length=pTo off s.length j - pFrom off j:=by
    rw [List.length_take,List.length_drop]; omega
  refine List.ext_getElem? (fun i => ?_)
  rw [spliced_at _ _ _ (by rw [hml,hl]; omega),hml]
  by_cases hi:i < 512
  · rw [over_at _ _ _ _ _ hi]
    by_cases c:pFrom off j ≤ i ∧ i < pFrom off j + (pTo off s.length j - pFrom off j)
    · rw [if_pos c,List.getElem?_take_of_lt (by omega),List.getElem?_drop,if_pos (by omega)]
      rw [show 512 * (off / 512 + j) + i - off=pAt off j + (i - pFrom off j) by omega,List.getD_eq_getElem?_getD,List.getElem?_eq_getElem (by omega)]
      rfl
    · rw [if_neg c,if_neg (by
        by_cases e:j=0
        · have:=h1 e; omega
        · have:=h0 e; omega),List.getD_eq_getElem?_getD,List.getElem?_eq_getElem (by omega)]
      rfl
  · rw [if_neg (by omega),List.getElem?_eq_none (by omega),List.getElem?_eq_none (by rw [over_len]; omega)]
theorem Pl.wrS_step {P:Pl}{off:Nat}{s:List UInt8}(pre:List (PartOf off s.length))(x:PartOf off s.length)(hP:P.Ok) :
    (fun k => if k=off / 512 + x.1 then some (spliced ((P.wrS off s (idx pre) (off / 512 + x.1)).getD blank) (pFrom off x.1) ((s.drop (pAt off x.1)).take (pTo off s.length x.1 - pFrom off x.1))) else P.wrS off s (idx pre) k)=P.wrS off s (idx (pre ++ [x])):=by
  funext k
  have hmem:k ∈ idx (pre ++ [x]) ↔ k ∈ idx pre ∨ k=off / 512 + x.1:=by unfold idx; simp
  by_cases e:k=off / 512 + x.1
  · subst e
    rw [if_pos rfl]
    unfold Pl.wrS
    rw [if_pos (hmem.2 (.inr rfl))]
    by_cases c:off / 512 + x.1 ∈ idx pre
    · rw [if_pos c,Option.getD_some,over_part x.2 _ (over_len _ _ _ _),over_over]
    · rw [if_neg c]
      show some (spliced (P.blk _) _ _)=_
      rw [over_part x.2 _ (hP.blk _)]
  · rw [if_neg e]
    unfold Pl.wrS
    by_cases c:k ∈ idx pre
    · rw [if_pos c,if_pos (hmem.2 (.inl c))]
    · rw [if_neg c,if_neg (fun h => (hmem.1 h).elim c e)]
theorem part_hit {off m k:Nat}:(∃ j,j < pMany off m ∧ k=off / 512 + j) ↔ hit off m k=true:=by
  unfold hit
  rw [decide_eq_true_iff]
  unfold pMany
  by_cases h0:m=0
  · rw [if_pos h0]
    exact ⟨fun ⟨j,hj,_⟩ => by omega,fun h => by omega⟩
  · rw [if_neg h0]
    constructor
    · rintro ⟨j,hj,rfl⟩
      exact ⟨by omega,by omega,by omega⟩
    · rintro ⟨h1,h2,h3⟩
      exact ⟨k - off / 512,by omega,by omega⟩
theorem idx_hit {off m k:Nat}{pre:List (PartOf off m)}(h:k ∈ idx pre):hit off m k=true:=by
  obtain ⟨x,_,rfl⟩:=List.mem_map.1 h
  exact part_hit.1 ⟨x.1,x.2,rfl⟩
theorem Pl.wrS_sub {P:Pl}{off:Nat}{s:List UInt8}{pre:List (PartOf off s.length)}{k:Nat}(h:P.wrS off s (idx pre) k ≠ none):P.wrB off s k ≠ none:=by
  unfold Pl.wrS at h
  unfold Pl.wrB
  by_cases c:k ∈ idx pre
  · rw [if_pos (idx_hit c)]; exact fun e => by cases e
  · rw [if_neg c] at h
    split
    · exact fun e => by cases e
    · exact h
theorem Pl.wrS_all {P:Pl}{off:Nat}{s:List UInt8}{ys:List (PartOf off s.length)}(h:firsts ys=List.range (pMany off s.length)):P.wrS off s (idx ys)=P.wrB off s:=by
  funext k
  have hmem:k ∈ idx ys ↔ hit off s.length k=true:=by
    rw [← part_hit]
    have e:idx ys=(firsts ys).map (fun j => off / 512 + j):=by unfold idx firsts; rw [List.map_map]; rfl
    rw [e,h]
    simp only [List.mem_map,List.mem_range]
    exact ⟨fun ⟨j,h1,h2⟩ => ⟨j,h1,h2.symm⟩,fun ⟨j,h1,h2⟩ => ⟨j,h1,h2.symm⟩⟩
  unfold Pl.wrS Pl.wrB
  by_cases c:k ∈ idx ys
  · rw [if_pos c,if_pos (hmem.1 c)]
  · rw [if_neg c,if_neg (fun h => c (hmem.2 h))]
theorem Pl.wrS_nil {P:Pl}(off:Nat)(s:List UInt8):P.wrS off s []=P.B:=by
  funext k; unfold Pl.wrS; rw [if_neg (by simp)]
theorem pMany_le {off m:Nat}(hm:m ≤ 5000):pMany off m ≤ 11:=by unfold pMany; split <;> omega
end Go.Proofs.YthkijogloebdoaaGreatDoor.Fs
end
section
namespace Go.Proofs.YthkijogloebdoaaGreatDoor.Fs
open Rec Gp
theorem cut_wiped {P:Pl}(h:P.Ok){sz:Nat}{l:List UInt8}(hz:sz % 512 ≠ 0)(hl:P.B (sz / 512)=some l) :
    (fun j => if j=sz / 512 then some (zeroFrom (sz % 512) l) else if j < (sz + 511) / 512 then P.B j else none)=(P.cut sz).B:=by
  funext j
  show _=if sz ≤ 512 * j then none else (P.B j).map (zeroFrom (sz - 512 * j))
  by_cases e:j=sz / 512
  · subst e
    rw [if_pos rfl,if_neg (by omega),hl,show sz - 512 * (sz / 512)=sz % 512 by omega]; rfl
  · rw [if_neg e]
    by_cases c:j < (sz + 511) / 512
    · rw [if_pos c,if_neg (by omega)]
      cases hB:P.B j with
      | none => rfl
      | some b =>
        show some b=some (zeroFrom _ b)
        rw [zeroFrom_all _ _ (by rw [h.len j b hB]; omega)]
    · rw [if_neg c,if_pos (by omega)]
theorem cut_plain {P:Pl}(h:P.Ok){sz:Nat}(hz:sz % 512=0 ∨ P.B (sz / 512)=none) :
    (fun j => if j < (sz + 511) / 512 then P.B j else none)=(P.cut sz).B:=by
  funext j
  show _=if sz ≤ 512 * j then none else (P.B j).map (zeroFrom (sz - 512 * j))
  by_cases c:j < (sz + 511) / 512
  · rw [if_pos c,if_neg (by omega)]
    cases hB:P.B j with
    | none => rfl
    | some b =>
      show some b=some (zeroFrom _ b)
      have hj:j ≠ sz / 512:=by
        rintro rfl
        rcases hz with hz | hz
        · omega
        · rw [hz] at hB; cases hB
      rw [zeroFrom_all _ _ (by rw [h.len j b hB]; omega)]
  · rw [if_neg c,if_pos (by omega)]
theorem border {L:Nat → Nat → Nat}{f k q:Nat}(h0:16522 ≤ q)(h1:q < 16652)(h:∃ s,s < 128 ∧ L f (kid q s) ≠ 0 ∧ cutL L f k (kid q s)=0)(h2:cutL L f k q ≠ 0):q=16522 ∨ q=16523 ∨ q=16524 + (k - 138) / 128:=by
  by_cases e1:q=16522
  · exact .inl e1
  by_cases e2:q=16523
  · exact .inr (.inl e2)
  right; right
  obtain ⟨i,rfl⟩:∃ i,q=16524 + i:=⟨q - 16524,by omega⟩
  obtain ⟨s,hs,g1,g2⟩:=h
  rw [kid_tab (by omega),show 16524 + i - 16524=i by omega] at g1 g2
  have hk:¬ 138 + 128 * i + s < k:=fun e => by
    rw [cutL_index (by omega),if_pos e] at g2; exact g1 g2
  have hn:nodes (keepD L f k) (16524 + i)=true:=by
    unfold cutL at h2
    by_cases c:nodes (keepD L f k) (16524 + i)=true
    · exact c
    · rw [if_neg c] at h2; exact absurd rfl h2
  unfold nodes at hn
  rw [if_neg (by omega),if_neg (by omega),if_neg (by omega),show 16524 + i - 16524=i by omega] at hn
  obtain ⟨s2,hs2,hd⟩:=(any_iff _ _).1 hn
  unfold keepD at hd
  rw [Bool.and_eq_true,decide_eq_true_iff] at hd
  have:=hd.1
  omega
end Go.Proofs.YthkijogloebdoaaGreatDoor.Fs
end
section
namespace Go.Proofs.YthkijogloebdoaaGreatDoor.Fs
open Rec Gp
section
variable {n:Nat}{V V2 V3:Nat → List UInt8}{X X2 X3:Nat → Ino}{L L2 L3:Nat → Nat → Nat}{Q:Nat → Pl}{f k:Nat}{B:Nat → Option (List UInt8)}
theorem num_lt (h:Tree0 n V X L)(hn:Disk n)(hf:f < 3){k:Nat}(hk:k < 12):(X f).num k < 4294967296:=by
  have key:∀ p,p < 16652 → par p=16652 → (X f).num (slot p) < 4294967296:=fun p hp hr => by
    have h1:=h.ref f p hf hp (fun e => e)
    rw [refn_root hr] at h1
    rw [← h1]
    by_cases e:L f p=0
    · omega
    · have:=(h.inn f p e).2.2.2
      have:=(geo_facts hn).2.1
      omega
  by_cases h1:k < 10
  · have:=key k (by omega) (by unfold par; rw [if_pos h1])
    rwa [show slot k=k by unfold slot; rw [if_pos h1]] at this
  · by_cases h2:k=10
    · have:=key 16522 (by omega) (by decide)
      rw [show slot 16522=10 by decide] at this
      rw [h2]; exact this
    · have:=key 16523 (by omega) (by decide)
      rw [show slot 16523=11 by decide] at this
      rw [show k=11 by omega]; exact this
theorem ino_ok (h:Tree0 n V X L)(hn:Disk n)(hf:f < 3){sz:Nat}(hs:sz ≤ 8459264)(hk:(X f).kind=1)(hl:(X f).links=1):(Ino.mk (X f).kind (X f).links sz (X f).num).Ok :=
  ⟨fun k hk => num_lt h hn hf hk,hs,by show (X f).links ≤ 1000; omega,.inr (.inl hk)⟩
theorem Wring.wiped0 {P:Pl}{sz:Nat}(h:Wring n V X L f V2 X2 L2 (fun j => if j < (sz + 511) / 512 then P.B j else none))(hP:P.Ok)(hc:sz % 512=0 ∨ L2 f (sz / 512)=0):Wring n V X L f V2 X2 L2 (P.cut sz).B:=by
  rw [← cut_plain hP (sz:=sz) ?_]
  · exact h
  · by_cases e:sz % 512=0
    · exact .inl e
    · right
      have h1:(if sz / 512 < (sz + 511) / 512 then P.B (sz / 512) else none)=_:=h.has (sz / 512)
      rw [if_pos (by omega),if_neg (fun c => c.2 (hc.resolve_left e))] at h1
      exact h1
theorem Wring.wiped {P:Pl}{sz:Nat}(h:Wring n V X L f V2 X2 L2 (fun j => if j < (sz + 511) / 512 then P.B j else none))(hn:Disk n)(hP:P.Ok)(hz:sz % 512 ≠ 0)(hk:sz / 512 < 16522)(hne:L2 f (sz / 512) ≠ 0) :
    Wring n V X L f (upd V2 (L2 f (sz / 512)) (zeroFrom (sz % 512) (V2 (L2 f (sz / 512))))) X2 L2 (P.cut sz).B:=by
  have hB:P.B (sz / 512)=some (V2 (L2 f (sz / 512))):=by
    have h1:(if sz / 512 < (sz + 511) / 512 then P.B (sz / 512) else none)=_:=h.has (sz / 512)
    rw [if_pos (by omega),if_pos ⟨hk,hne⟩] at h1
    exact h1
  obtain ⟨_,_,_,i4⟩:=h.tree.inn f _ hne
  have h1:=h.put hn hk hne (l:=zeroFrom (sz % 512) (V2 (L2 f (sz / 512)))) (by rw [zeroFrom_len]; exact h.tree.len _ i4)
  rw [← cut_wiped hP hz hB]
  exact h1
theorem FsIn.long (h:FsIn n V X L Q)(hf:f < 3){sz:Nat}(hs:(Q f).size ≤ sz):Wring n V X L f V X L ((Q f).cut sz).B:=by
  rw [Pl.cut_long (h.ok f hf) sz hs]
  exact h.wring hf
theorem FsIn.at {Q2:Nat → Pl}(h:FsIn n V X L Q)(e:∀ g,g < 3 → Q2 g=Q g):FsIn n V X L Q2 :=
  ⟨h.tree,h.live,h.ino,fun g hg => by rw [e g hg]; exact h.kind g hg,fun g hg => by rw [e g hg]; exact h.has g hg,fun g hg => by rw [e g hg]; exact h.ok g hg⟩
def bmL (n:Nat):List Nat:=(List.range (Gp.ino n - 98)).map (98 + ·)
theorem bmL_mem {n k:Nat}(h1:98 ≤ k)(h2:k < Gp.ino n):k ∈ bmL n:=List.mem_map.2 ⟨k - 98,List.mem_range.2 (by omega),by omega⟩
theorem bmL_len {n:Nat}(hn:Disk n):(bmL n).length ≤ 4:=by
  have:=(ino_le hn).2.1
  unfold bmL; rw [List.length_map,List.length_range]; omega
def cutS (n:Nat)(L:Nat → Nat → Nat)(f sz:Nat)(S:List Nat):List Nat:=L f 16522 :: L f 16523 :: L f (16524 + ((sz + 511) / 512 - 138) / 128) :: L f (sz / 512) :: (Gp.ino n + (f + 2) / 8) :: (bmL n ++ S)
theorem cutS_old {S:List Nat}{n f sz:Nat}{L:Nat → Nat → Nat}:∀ i,i ∈ S → i ∈ cutS n L f sz S:=fun i hi => by unfold cutS; simp [hi]
theorem cutS_len {S:List Nat}{n f sz:Nat}{L:Nat → Nat → Nat}(hn:Disk n):(cutS n L f sz S).length ≤ S.length + 9:=by
  have:=bmL_len hn
  unfold cutS; simp; omega
theorem cutS_bm {S:List Nat}{n f sz:Nat}{L:Nat → Nat → Nat}:∀ k,98 ≤ k → k < Gp.ino n → k ∈ cutS n L f sz S:=fun k h1 h2 => by unfold cutS; simp [bmL_mem h1 h2]
theorem cutS_tab {S:List Nat}{n f sz:Nat}{L:Nat → Nat → Nat}:∀ q,16522 ≤ q → q < 16652 → (∃ s,s < 128 ∧ L f (kid q s) ≠ 0 ∧ cutL L f ((sz + 511) / 512) (kid q s)=0) → cutL L f ((sz + 511) / 512) q ≠ 0 → L f q ∈ cutS n L f sz S:=fun q h0 h1 h h2 => by
  unfold cutS
  rcases border h0 h1 h h2 with rfl | rfl | rfl <;> simp
end
end Go.Proofs.YthkijogloebdoaaGreatDoor.Fs
end
section
namespace Go.Proofs.YthkijogloebdoaaGreatDoor
open Go.RowKit Go.Maps
def CellsAt (w:World)(k:Nat):Prop := ∃ cs t f,w.heap[k]? = some (.cells cs t f)
def offC (w:World)(b:Nat)(O:Nat → Prop):Nat → Prop:=fun k => (O k ∧ ¬ Tk w k partT) ∧ (k=b ∨ CellsAt w k)
theorem Hb.cellsAt {w:World}{O:Nat → Prop}{a b:Nat}{A:Addr}{l:List UInt8}(h:Hb w (offP w O) a A l)(hl:l.length=512):Hb w (offC w b O) a A l:=by
  obtain ⟨g,rfl,ho,hb⟩:=h
  refine ⟨g,rfl,⟨ho,?_⟩,hb⟩
  rcases hb with hb | ⟨g',off,cs,t,f,e,hg,hs,_⟩
  · subst hb; simp at hl
  · injection e with e
    injection e with e1 e2
    subst e1
    exact .inr ⟨_,_,_,hg⟩
theorem offC_is {w:World}{O:Nat → Prop}{b g:Nat}{t:TypeId}{cs:Array Value}(h:Is w g t cs)(ho:offP w O g):offC w b O g:=⟨ho,.inr ⟨_,_,_,h⟩⟩
theorem TxnAt.strip2 {c:Cx}{w:World}{O:Nat → Prop}{T:Tn}(h0:TxnAt c w O T):TxnAt c w (offC w c.b O) T:=by
  have h:=h0.strip
  obtain ⟨F,hF,hD⟩:=h.disk
  obtain ⟨Dm,U,uc,ucs,h1,h2,h3,h4,h5,h6⟩:=h.ex
  refine ⟨h.up,h.len,fun k hk => h.lt k hk.1,⟨F,fun k hk => ⟨⟨(hF k hk).1,.inr ?_⟩,(hF k hk).2⟩,hD⟩,offC_is h1 h.own,⟨h.ownb,.inl rfl⟩,h.his,Dm,U,uc,ucs,h1,⟨h2.own,h2.keys,h2.no,fun i l hi => ?_⟩,h3,fun g hg => ?_,h5,fun j hj => ?_⟩
  · obtain ⟨cs2,t2,f2,r1,r2⟩:=(hF k hk).2
    exact ⟨_,_,_,r1⟩
  · obtain ⟨q1,q2,g,c',q3,q4⟩:=h2.yes i l hi
    exact ⟨q1,q2,g,c',q3,q4.cellsAt q2⟩
  · obtain ⟨_,cur,hi⟩:=h3.typed g hg
    exact offC_is hi (h4 g hg)
  · obtain ⟨v,q1,bo,bw,bt,bi,hv,o1,o2,o3,o4,r1,r2,r3,r4⟩:=h6 j hj
    refine ⟨v,q1,bo,bw,bt,bi,hv,offC_is r1 o1,?_,offC_is r2 o3,offC_is r3 o4,r1,r2,r3,?_⟩
    · rcases r4 with ⟨_,r5⟩ | ⟨l,g,c',_,_,r5,_⟩
      · exact offC_is r5 o2
      · exact offC_is r5 o2
    · rcases r4 with r5 | ⟨l,g,c',r6,r7,r5,r8⟩
      · exact .inl r5
      · exact .inr ⟨l,g,c',r6,r7,r5,r8.cellsAt r7⟩
theorem Fr.strip2 {w w2:World}{O O2:Nat → Prop}{b:Nat}(h:Fr w O w2 O2):Fr w O w2 (offC w2 b O2):=⟨h.1,fun k hk => h.2 k hk.1.1⟩
def OwnsC (w:World)(b:Nat)(O:Nat → Prop):Prop := ∀ k,O k → ¬ Tk w k partT ∧ (k=b ∨ CellsAt w k)
theorem ownsC_off (w:World)(b:Nat)(O:Nat → Prop):OwnsC w b (offC w b O):=fun k hk => ⟨hk.1.2,hk.2⟩
theorem OwnsC.from {w w2:World}{b B:Nat}{O O2:Nat → Prop}(h:OwnsC w b O)(hf:Fr w O w2 O2)(hB:b < B):KeepsFrom B w w2 :=
  ⟨hf.1.size,fun k o hk ho hc => (hf.1.block k (by have:=Array.getElem?_eq_some_iff.1 ho; exact this.1) (fun hO => by
    rcases (h k hO).2 with e | ⟨cs,t,f,e⟩
    · omega
    · rw [e] at ho; injection ho with ho; subst ho; cases hc)).trans ho⟩
theorem OwnsC.part {w w2:World}{b:Nat}{O O2:Nat → Prop}(h:OwnsC w b O)(hf:Fr w O w2 O2){g:Nat}{cs:Array Value}(hI:Is w g 97 cs):Is w2 g 97 cs :=
  (hf.1.block g hI.lt (fun hO => (h g hO).1 (tk_of hI (by unfold partT; exact List.mem_singleton.2 rfl)))).trans hI
theorem OwnsC.grown {w w2:World}{b:Nat}{O:Nat → Prop}(h:OwnsC w b O)(hlt:∀ k,O k → k < w.heap.size){row:Option Nat}(hg:w.grownBy w2 row)(hr:∀ r,row=some r → b < r ∧ ∃ o:Obj,w.heap[r]? = some o ∧ o.isCells=false):OwnsC w2 b O:=fun k hk => by
  have hne:k ≠ b → some k ≠ row:=fun hkb e => by
    obtain ⟨_,o,ho,hc⟩:=hr k e.symm
    rcases (h k hk).2 with e2 | ⟨cs,t,f,e2⟩
    · exact hkb e2
    · rw [e2] at ho; injection ho with ho; subst ho; cases hc
  by_cases hkb:k=b
  · subst hkb
    have e:=hg.block k (hlt k hk) (fun e => by have:=(hr k e.symm).1; omega)
    exact ⟨fun ht => (h k hk).1 (ht.same e.symm),.inl rfl⟩
  · have e:=hg.block k (hlt k hk) (hne hkb)
    refine ⟨fun ht => (h k hk).1 (ht.same e.symm),.inr ?_⟩
    obtain ⟨cs,t,f,e2⟩:=(h k hk).2.resolve_left hkb
    exact ⟨cs,t,f,e.trans e2⟩
end Go.Proofs.YthkijogloebdoaaGreatDoor
end
section
namespace Go.Proofs.YthkijogloebdoaaGreatDoor
open Go.RowKit Go.Shelf
section
variable {P:Program}{ops:Array Oper}{r n:Nat}{Q:Exit → Act → World → Prop}
theorem op_in {o:Oper}{a:Act}{w:World}{K K':Act → World → Prop}(hd:∀ c,o.op ≠ .defer c)(hK:∀ a w,K a w → K' a w)(h:o.wp P a w K Q):o.wpIn (Fence.wide.inRound r) n P a w K' Q:=by
  refine ⟨fun f _ => trivial,?_⟩
  unfold Oper.wp at h
  rw [Oper.semAt_eq _ _ _ hd]
  generalize (execOp a.eval o).run P w=q at *
  cases q with
  | ok x w' =>
    cases x <;> simp only [Oper.upon] at h <;> simp only [Oper.uponIn]
    case value u => exact hK _ _ h
    case skip => exact hK _ _ h
    case defer d => exact hK _ _ h
    case enter f args =>
      refine ⟨(fun hf => by cases hf),(CallsIn.inRound r (callsIn_wide.2 h)).mono fun e w'' he => ?_⟩
      cases e with
      | returned v => exact hK _ _ he
      | panicked c => exact he
      | outgrown => exact he
    case row row args =>
      refine ⟨(fun hf => by cases hf),fun c cs _ => ?_⟩
      obtain ⟨v,w'',h1,h2⟩:=h c cs
      exact ⟨v,w'',hK _ _ h1,stepsIn_wide.2 h2⟩
  | halt x w' => cases x <;> simp only [Oper.upon] at h <;> simp only [Oper.uponIn] <;> exact h
theorem any_wp_in (hdf:noDefers ops=true)(hno:¬ LetsOut Q):∀ (fuel:Nat)(listed:Array Bool)(a:Act)(w:World),
    wpAny P .any ops Q fuel listed a w → wpAnyIn (Fence.wide.inRound r) n P .any ops Q fuel listed a w
  | 0,_,_,_,h => h
  | fuel + 1,_,_,_,h => ⟨h.1,fun i hi => by
      have hh:=h.2 i hi
      unfold wpOp at hh
      unfold wpOpIn
      split
      · rename_i ho
        simp only [ho] at hh
        exact any_wp_in hdf hno fuel _ _ _ hh
      · rename_i o ho
        simp only [ho] at hh
        split
        · rename_i hwt
          simp only [hwt,if_true] at hh
          rcases hh with hh | hh
          · exact op_in (noDefers_at hdf ho) (fun a' w' => any_wp_in hdf hno fuel _ a' w') hh
          · exact absurd hh.2 hno
        · rename_i hwt
          simp only [hwt] at hh
          exact ⟨fun f _ => trivial,any_wp_in hdf hno fuel _ _ _ hh⟩⟩
end
theorem still_tail_round {P:Program}{id r m:Nat}{Q:Exit → Act → World → Prop}{a:Act}{w:World}{l:List Oper}(n:Nat)(hm:P.follows .mixedOrders=true)(hB:Region.lexTailB .any l.toArray n=true)(hdf:noDefers l.toArray=true)(hno:¬ LetsOut Q)
    (h:wpStill P l.toArray { w with drawn:=w.drawn + 1 } (fun a' => wpList P l.toArray Q (l.drop n) a' { w with drawn:=w.drawn + 1 }) (l.take n) a):(Code.region id l.toArray true).wpIn (Fence.wide.inRound r) m P Q a w:=by
  simp only [Region.lexTailB,Bool.and_eq_true,decide_eq_true_eq] at hB
  obtain ⟨⟨⟨⟨hsel,hn⟩,hs⟩,hc⟩,hlex⟩:=hB
  have hn':n < l.length:=by simpa using hn
  have htl:(l.take n).length=n:=by simp; omega
  have hdl:(l.drop n).length=l.toArray.size - n:=by simp
  have inv0:HeadInv .any l.toArray n (Array.replicate l.toArray.size false) :=
    ⟨by simp,fun j oj _ hl => (by rw [getD_replicate_false] at hl; cases hl),fun t _ ht => getD_in (by simpa using ht) (getD_replicate_false _ _)⟩
  have H:=wpAnyL_lex (md:=.any) (g:=l.toArray.size - n) hsel hs hc hn (l.take n) 0 _ a (fun j hj => by
    have hj':j < n:=by rw [htl] at hj; exact hj
    simp [hj']) (by simpa using htl) inv0 (by rw [htl]; exact hlex) h
  refine wpIn_region_any hm (any_wp_in hdf hno _ _ _ _ ?_)
  have key:=wpAny_of_head (Q':=Q) (g:=l.toArray.size - n) (fun listed a' hL => by
    have h2:=wpAny_of_seq (md:=.any) (Q':=Q) (l.drop n) n listed a' { w with drawn:=w.drawn + 1 } (fun j => by simp [List.getElem?_drop]) (by rw [hdl]; exact hL.1) hL.2
    rwa [hdl] at h2) _ _ _ H
  rw [htl,show n + (l.toArray.size - n)=l.toArray.size by omega] at key
  exact key
end Go.Proofs.YthkijogloebdoaaGreatDoor
end
section
namespace Go.Proofs.YthkijogloebdoaaGreatDoor.Fs
open Rec Gp
structure Hole (n:Nat)(V:Nat → List UInt8)(X:Nat → Ino)(L:Nat → Nat → Nat)(V2:Nat → List UInt8)(X2:Nat → Ino)(f p q:Nat):Prop where
  tree:Tree0 n V2 X2 (updL L f p q)
  q0:dat n ≤ q
  q1:q < n
  no:∀ g r,L g r ≠ q
  xs:∀ g,g ≠ f → X2 g=X g
  same:(X2 f).kind=(X f).kind ∧ (X2 f).links=(X f).links ∧ (X2 f).size=(X f).size
  rest:∀ i,ino n ≤ i → i ≠ q → (par p=16652 ∨ i ≠ L f (par p)) → V2 i=V i
  blank:V2 q=Fs.blank
theorem nm_zero (a:Nat):nm nil512 a 4=0:=by
  unfold nm sl
  have:∀ l:List UInt8,(∀ b ∈ l,b=0) → le l=0:=fun l => by
    induction l with
    | nil => intro _; rfl
    | cons b r ih => intro h; unfold le; rw [ih (fun x hx => h x (.tail _ hx)),h b (.head _)]; rfl
  exact this _ (fun b hb => List.eq_of_mem_replicate (List.mem_of_mem_drop (List.mem_of_mem_take hb)))
theorem hole_root {n:Nat}{V:Nat → List UInt8}{X:Nat → Ino}{L:Nat → Nat → Nat}(h:Tree0 n V X L)(hn:Disk n){q:Nat}(hq1:dat n ≤ q)(hq2:q < n)(hbit:Bt.bit (V (98 + q / 4096)) (q % 4096)=false){f p:Nat}(hf:f < 3)(hp:p < 16652)(h0:L f p=0)(hr:par p=16652) :
    Hole n V X L (upd (upd V (98 + q / 4096) (Bt.putL (V (98 + q / 4096)) ((q % 4096:Nat):Int) true)) q nil512) (updX X f ((X f).set (slot p) q)) f p q:=by
  have hbm:=bm_lt hn hq2
  refine ⟨h.take_root hn hq1 hq2 hbit hf hp h0 nil512_len (fun s hs => nm_zero _) hr,hq1,hq2,(h.take hn hq1 hq2 hbit hf hp h0 nil512_len (fun s hs => nm_zero _)).1,fun g hg => updX_other _ _ _ hg,?_,fun i h1 h2 h3 => ?_,upd_same _ _ _⟩
  · rw [updX_same]; exact ⟨rfl,rfl,rfl⟩
  · rw [upd_other _ _ _ h2,upd_other _ _ _ (by omega)]
theorem hole_tab {n:Nat}{V:Nat → List UInt8}{X:Nat → Ino}{L:Nat → Nat → Nat}(h:Tree0 n V X L)(hn:Disk n){q a:Nat}(hq1:dat n ≤ q)(hq2:q < n)(hbit:Bt.bit (V (98 + q / 4096)) (q % 4096)=false){f p:Nat}(hf:f < 3)(hp:p < 16652)(h0:L f p=0)(hr:par p ≠ 16652)(ha:L f (par p)=a)(ha0:a ≠ 0) :
    Hole n V X L (upd (upd (upd V (98 + q / 4096) (Bt.putL (V (98 + q / 4096)) ((q % 4096:Nat):Int) true)) q nil512) a (spliced (V a) (4 * slot p) (les q 4))) X f p q:=by
  have hbm:=bm_lt hn hq2
  have hno:=(h.take hn hq1 hq2 hbit hf hp h0 nil512_len (fun s hs => nm_zero _)).1
  subst ha
  refine ⟨h.take_tab hn hq1 hq2 hbit hf hp h0 nil512_len (fun s hs => nm_zero _) hr ha0,hq1,hq2,hno,fun g hg => rfl,⟨rfl,rfl,rfl⟩,fun i h1 h2 h3 => ?_,?_⟩
  · rw [upd_other _ _ _ (h3.resolve_left hr),upd_other _ _ _ h2,upd_other _ _ _ (by omega)]
  · rw [upd_other _ _ _ (fun e => hno _ _ e.symm),upd_same]; rfl
end Go.Proofs.YthkijogloebdoaaGreatDoor.Fs
namespace Go.Proofs.YthkijogloebdoaaGreatDoor
open Go.RowKit Go.Maps Rec Gp Fs
structure GuardB (w:World)(ob tb mb t m:Nat):Prop where
  o:Is w ob 25 #[.int .i64 0]
  t:Is w tb 36 #[.pointer (some ⟨t,0,none⟩)]
  m:Is w mb 3 #[.int .i64 (m:Int)]
abbrev guardV (ob tb mb:Nat):Value:=.func (.func 98) #[] #[.pointer (some ⟨ob,0,none⟩),.pointer (some ⟨tb,0,none⟩),.pointer (some ⟨mb,0,none⟩)]
theorem GuardB.same {w w2:World}{ob tb mb t m:Nat}(h:GuardB w ob tb mb t m)(e:∀ k,k=ob ∨ k=tb ∨ k=mb → w2.heap[k]? = w.heap[k]?):GuardB w2 ob tb mb t m :=
  ⟨(e _ (.inl rfl)).trans h.o,(e _ (.inr (.inl rfl))).trans h.t,(e _ (.inr (.inr rfl))).trans h.m⟩
set_option maxRecDepth 100000 in
theorem guard_any (c:Cx)(w:World)(O:Nat → Prop)(T:Tn)(h:TxnAt c w O T) :
    Calls Tryz.prog 64 #[.pointer (some ⟨c.t,0,none⟩)] w fun e w' => (∃ ob tb mb,e=.returned (guardV ob tb mb) ∧ GuardB w' ob tb mb c.t T.H.length ∧ w.heap.size ≤ ob ∧ w.heap.size ≤ tb ∧ w.heap.size ≤ mb) ∧ Below w.heap.size w w':=by
  obtain ⟨hb0,i0⟩:=one_new w #[.pointer (some ⟨c.t,0,none⟩)] 36
  obtain ⟨W,hW⟩:∃ W,w.alloc (.cells #[.pointer (some ⟨c.t,0,none⟩)] 36)=W:=⟨_,rfl⟩
  rw [hW] at hb0 i0
  have HB0:=Lib.hid hb0
  have HI0:=Lib.hid i0
  have c0:W.cell? ⟨w.heap.size,0,none⟩=some (.pointer (some ⟨c.t,0,none⟩)):=i0.cell 0
  have HM:=Lib.hid (tmark_any c W O T (h.later hb0))
  obtain ⟨t,ht⟩:∃ t,c.t=t:=⟨_,rfl⟩
  obtain ⟨m,hm⟩:∃ m,T.H.length=m:=⟨_,rfl⟩
  rw [ht,hm] at HM
  rw [hm]
  rw [ht] at hW c0 HI0 ⊢
  have hw0:w.heap.size < W.heap.size:=i0.lt
  clear h hb0 i0 ht hm
  go_enter Tryz.func64,Tryz.ntmps64
  go_wp2_with (
    go_at_call 60
    refine HM.out.mono ?_
    rintro e w1 ⟨rfl,rfl⟩)
  obtain ⟨hb1,i1,i2⟩:=two_new W #[.int .i64 (m:Int)] #[.int .i64 0] 3 25
  go_ret
  exact ⟨⟨W.heap.size + 1,w.heap.size,W.heap.size,rfl,⟨i2,HI0.out.below hb1 hw0,i1⟩,by omega,Nat.le_refl _,by omega⟩,HB0.out.trans (hb1.mono (by omega))⟩
set_option maxRecDepth 100000 in
theorem guard1_ok (w:World)(ob tb mb t m:Nat)(h:GuardB w ob tb mb t m):Calls Tryz.prog 98 #[.int .i64 0,.pointer (some ⟨ob,0,none⟩),.pointer (some ⟨tb,0,none⟩),.pointer (some ⟨mb,0,none⟩)] w fun e w' => e=.returned (.tuple #[]) ∧ w=w':=by
  go_enter Tryz.func98,Tryz.ntmps98
  go_wp2_with fail
  go_end0
  exact ⟨rfl,rfl⟩
set_option maxRecDepth 100000 in
theorem guard1_err (c:Cx)(w:World)(O:Nat → Prop)(T:Tn)(he:TxnAt c w O T)(hn:c.N ≤ 1000000)(ob tb mb m:Nat)(h:GuardB w ob tb mb c.t m)(hm:m ≤ T.H.length)(hT:T.H.length ≤ 1000000)(e0:Int)(h0:e0 ≠ 0) :
    Calls Tryz.prog 98 #[.int .i64 e0,.pointer (some ⟨ob,0,none⟩),.pointer (some ⟨tb,0,none⟩),.pointer (some ⟨mb,0,none⟩)] w fun e w' => e=.returned (.tuple #[]) ∧ TxnAt c w' O (T.back m) ∧ Fr w O w' O:=by
  have c0:w.cell? ⟨ob,0,none⟩=some (.int .i64 0):=h.o.cell 0
  have c1:w.cell? ⟨tb,0,none⟩=some (.pointer (some ⟨c.t,0,none⟩)):=h.t.cell 0
  have c2:w.cell? ⟨mb,0,none⟩=some (.int .i64 (m:Int)):=h.m.cell 0
  have hne:(e0 != 0)=true:=by rw [bne_iff_ne]; exact h0
  have HB:=Lib.hid (tback_any c w O T he m hm (by omega) hn)
  obtain ⟨t,ht⟩:∃ t,c.t=t:=⟨_,rfl⟩
  rw [ht] at HB c1
  clear h he hn hm hT h0 ht
  go_enter Tryz.func98,Tryz.ntmps98
  go_wp2_with (
    go_at_call 62
    refine HB.out.mono ?_
    rintro e w1 ⟨rfl,hT,hF⟩
    have HT:=Lib.hid hT
    have HF:=Lib.hid hF
    clear hT hF)
  go_end0
  exact ⟨rfl,HT.out,HF.out⟩
structure HoleB (w:World)(tb gb fb t n F:Nat):Prop where
  t:Is w tb 36 #[.pointer (some ⟨t,0,none⟩)]
  g:Is w gb 31 (geoL n)
  f:Is w fb 140 #[.pointer (some ⟨F,0,none⟩)]
theorem HoleB.same {w w2:World}{tb gb fb t n F:Nat}(h:HoleB w tb gb fb t n F)(e:∀ k,k=tb ∨ k=gb ∨ k=fb → w2.heap[k]? = w.heap[k]?):HoleB w2 tb gb fb t n F :=
  ⟨(e _ (.inl rfl)).trans h.t,(e _ (.inr (.inl rfl))).trans h.g,(e _ (.inr (.inr rfl))).trans h.f⟩
def Holed (c:Cx)(w:World)(O:Nat → Prop)(T:Tn)(n:Nat)(X:Nat → Ino)(L:Nat → Nat → Nat)(f p F B:Nat)(S:List Nat)(e:Ending)(w':World):Prop :=
  (e=.returned (.tuple #[.int .i64 0,.int .i64 90]) ∧ total L + dat n=n ∧ TxnAt c w' O T ∧ FrX (fun k => k=F ∨ B ≤ k) w O w' O ∧ FileAt w' F c.t n (X f)) ∨
  (∃ (q:Nat) (O':Nat → Prop) (T':Tn) (X':Nat → Ino),e=.returned (.tuple #[.int .i64 (q:Int),.int .i64 0]) ∧ TxnAt c w' O' T' ∧ FrX (fun k => k=F ∨ B ≤ k) w O w' O' ∧ FileAt w' F c.t n (X' f) ∧ Hole n (T.view c.D) X L (T'.view c.D) X' f p q ∧ T'.Cov (q :: S) ∧ Tn.Ext T T' ∧ T'.H.length ≤ T.H.length + 3)
set_option maxRecDepth 100000 in
set_option maxHeartbeats 1600000 in
theorem add2_any (c:Cx)(w:World)(O:Nat → Prop)(T:Tn)(n:Nat)(he:Env c w O T n)(X:Nat → Ino)(L:Nat → Nat → Nat)(h:Tree0 n (T.view c.D) X L)(f p F B a tb gb fb:Nat)(hf:f < 3)(hp:p < 16652)(h0:L f p=0)(hF:FileAt w F c.t n (X f))
    (hpar:par p ≠ 16652 → L f (par p)=a ∧ a ≠ 0)(sl:Value)(hsl:(par p=16652 ∧ sl=.slice none 0 0) ∨ (par p ≠ 16652 ∧ ∃ g cp,sl=.slice (some ⟨g,0,none⟩) 512 cp ∧ Rw w g (T.view c.D a) ∧ B ≤ g ∧ ¬ O g))
    (hB:HoleB w tb gb fb c.t n F)(bt:tb < B)(bg:gb < B)(bf:fb < B)(bF:F < B)(bw:0 < B)(ot:¬ O tb)(og:¬ O gb)(of:¬ O fb)(oF:¬ O F)(nF:F ≠ tb ∧ F ≠ gb ∧ F ≠ fb ∧ F ≠ 0)
    (S:List Nat)(hS:T.Cov S)(hbm:∀ k,98 ≤ k → k < ino n → k ∈ S)(haS:par p ≠ 16652 → a ∈ S)(h96:S.length + 1 ≤ 96)(hT:T.H.length + 3 ≤ 1000000) :
    Calls Tryz.prog 67 #[stepV p,.int .i64 (a:Int),sl,.pointer (some ⟨tb,0,none⟩),.pointer (some ⟨gb,0,none⟩),.pointer (some ⟨fb,0,none⟩)] w (Holed c w O T n X L f p F B S):=by
  obtain ⟨s0,hs0⟩:∃ s0,wh p=s0:=⟨_,rfl⟩
  obtain ⟨s1,hs1⟩:∃ s1,pl p=s1:=⟨_,rfl⟩
  have HST:=Lib.hid (show stepV p=.agg #[.int .i64 (s0:Int),.int .i64 (s1:Int)] by unfold stepV; rw [hs0,hs1])
  obtain ⟨hb0,i0⟩:=one_new w #[.int .i64 (s0:Int),.int .i64 (s1:Int)] 145
  obtain ⟨W,hW⟩:∃ W,w.alloc (.cells #[.int .i64 (s0:Int),.int .i64 (s1:Int)] 145)=W:=⟨_,rfl⟩
  rw [hW] at hb0 i0
  have HB0:=Lib.hid hb0
  have HI0:=Lib.hid i0
  have HE0:=Lib.hid (he.later hb0)
  have HF0:=Lib.hid (hF.below hb0 hF.lt)
  have HBX:=Lib.hid (hB.same (fun k hk => hb0.block k (by rcases hk with rfl | rfl | rfl; exact hB.t.lt; exact hB.g.lt; exact hB.f.lt)))
  have ct:W.cell? ⟨tb,0,none⟩=some (.pointer (some ⟨c.t,0,none⟩)):=HBX.out.t.cell 0
  have cg0:W.cell? ⟨gb,0,none⟩=some (.int .i64 (n:Int)):=HBX.out.g.cell 0
  have cg1:W.cell? ⟨gb,1,none⟩=some (.int .i64 98):=HBX.out.g.cell 1
  have cg2:W.cell? ⟨gb,2,none⟩=some (.int .i64 (ino n:Int)):=HBX.out.g.cell 2
  have cg3:W.cell? ⟨gb,3,none⟩=some (.int .i64 (dat n:Int)):=HBX.out.g.cell 3
  have cg4:W.cell? ⟨gb,4,none⟩=some (.int .i64 (cnt n:Int)):=HBX.out.g.cell 4
  have HTK:=Lib.hid (stake_any c W O T HE0.out.tx n he.hn he.hN S hS hbm h96 (by omega))
  have HSL:=Lib.hid hsl
  have HPAR:=Lib.hid hpar
  have HH:=Lib.hid h
  have HHE:=Lib.hid he
  have HS:=Lib.hid hS
  have HAS:=Lib.hid haS
  have HBM:=Lib.hid hbm
  have HNF:=Lib.hid nF
  have hsv:∃ A la ca,sl=.slice A la ca:=by
    rcases hsl with ⟨_,e⟩ | ⟨_,g,cp,e,_⟩
    · exact ⟨_,_,_,e⟩
    · exact ⟨_,_,_,e⟩
  obtain ⟨A,la,ca,rfl⟩:=hsv
  obtain ⟨t,ht⟩:∃ t,c.t=t:=⟨_,rfl⟩
  rw [ht] at HTK ct
  have HTT:=Lib.hid ht
  have l1:=HBX.out.t.lt
  have l2:=HBX.out.g.lt
  have l3:=HBX.out.f.lt
  have l4:=HF0.out.lt
  rw [HST.out]
  clear i0 hb0 hs0 hs1 hsl hpar h he hS haS hbm hF hB nF ht
  unfold Holed
  by_cases hr:par p=16652
  · have HR:=Lib.hid hr
    obtain ⟨rfl,rfl,rfl⟩:A=none ∧ la=0 ∧ ca=0:=by
      rcases HSL.out with ⟨_,e⟩ | ⟨h,_⟩
      · injection e with e1 e2 e3; exact ⟨e1,e2,e3⟩
      · exact absurd hr h
    clear hr
    go_enter Tryz.func67,Tryz.ntmps67
    go_wp2_with fail
    go_at_call 68
    refine HTK.out.mono ?_
    rintro e w1 (⟨rfl,hall,hT1,hF1⟩ | ⟨q,rfl,hq1,hq2,hq3,O1,hT1,hF1⟩)
    · have HALL:=Lib.hid hall
      have HT1:=Lib.hid hT1
      have HF1:=Lib.hid hF1
      clear hall hT1 hF1
      go_wp2_with fail
      refine bodyPost_ret (v:=.tuple #[.int .i64 0,.int .i64 90]) (by simp [results,Tryz.results67,go_sem]) rfl ?_
      exact .inl ⟨rfl,HH.out.full HHE.out.hn HALL.out,HT1.out,(FrX.of_below HB0.out).trans (FrX.of_fr HF1.out),Is.fr HF0.out HF1.out oF⟩
    · have HQ:=Lib.hid hq3
      have HT1:=Lib.hid hT1
      have HF1:=Lib.hid hF1
      have cf:w1.cell? ⟨fb,0,none⟩=some (.pointer (some ⟨F,0,none⟩)):=(Is.fr HBX.out.f HF1.out of).cell 0
      have J0:=Lib.hid (Is.fr HI0.out HF1.out (fun o => by have:=HHE.out.tx.lt _ o; omega))
      have d0:w1.cell? ⟨w.heap.size,0,none⟩=some (.int .i64 (s0:Int)):=J0.out.cell 0
      have d1:w1.cell? ⟨w.heap.size,1,none⟩=some (.int .i64 (s1:Int)):=J0.out.cell 1
      clear hq3 hT1 hF1
      go_wp2_with (
        go_at_call 69
        rw [show (Value.agg #[.int .i64 (s0:Int),.int .i64 (s1:Int)])=stepV p from HST.out.symm]
        refine (set_root _ t n (X f) p F a q none 0 0 hp (by rw [← HTT.out]; exact Is.fr HF0.out HF1.out oF) HR.out).mono ?_
        rintro e w2 ⟨rfl,hF2,hK2⟩
        have HF2:=Lib.hid hF2
        have HK2:=Lib.hid hK2
        clear hF2 hK2)
      refine bodyPost_ret (v:=.tuple #[.int .i64 (q:Int),.int .i64 0]) (by simp [results,Tryz.results67,go_sem]) rfl ?_
      have hk98:98 + q / 4096 < ino n:=bm_lt HHE.out.hn hq2
      have hho:=hole_root HH.out HHE.out.hn hq1 hq2 HQ.out hf hp h0 HR.out
      have hv:(((T.put (98 + q / 4096) (Bt.putL (T.view c.D (98 + q / 4096)) ((q % 4096:Nat):Int) true)).put q nil512).view c.D)=upd (upd (T.view c.D) (98 + q / 4096) (Bt.putL (T.view c.D (98 + q / 4096)) ((q % 4096:Nat):Int) true)) q nil512:=by rw [view_upd,view_upd]
      have hc1:(T.put (98 + q / 4096) (Bt.putL (T.view c.D (98 + q / 4096)) ((q % 4096:Nat):Int) true)).Cov S:=HS.out.put (HBM.out _ (by omega) hk98) _
      refine .inr ⟨q,O1,_,updX X f ((X f).set (slot p) q),rfl,HT1.out.keep1 HK2.out (fun o => ?_),?_,?_,by rw [hv]; exact hho,(hc1.mono (fun i hi => .tail _ hi)).put (.head _) _,((Tn.Ext.refl T).put _ _).put _ _,by rw [Tn.put_len,Tn.put_len]; omega⟩
      · exact HF1.out.out l4 oF o
      · exact ((FrX.of_below HB0.out).trans (FrX.of_fr HF1.out)).trans (FrX.of_keeps (HK2.out.mono (fun i e => .inl e)))
      · rw [updX_same,HTT.out]; exact HF2.out
  · have HR:=Lib.hid hr
    obtain ⟨g,cp,hval,hg,hgB,hgO⟩:∃ g cp,(Value.slice A la ca)=.slice (some ⟨g,0,none⟩) 512 cp ∧ Rw w g (T.view c.D a) ∧ B ≤ g ∧ ¬ O g:=by
      rcases HSL.out with ⟨e,_⟩ | ⟨_,h⟩
      · exact absurd e hr
      · exact h
    obtain ⟨rfl,rfl,rfl⟩:A=some ⟨g,0,none⟩ ∧ la=512 ∧ ca=cp:=by injection hval with e1 e2 e3; exact ⟨e1,e2,e3⟩
    obtain ⟨pa1,pa2⟩:=HPAR.out hr
    have HG:=Lib.hid (hg.later HB0.out)
    have hgl:=hg.lt
    have HGO:=Lib.hid hgO
    clear hr hg hgO hval HSL
    go_enter Tryz.func67,Tryz.ntmps67
    go_wp2_with fail
    go_at_call 68
    refine HTK.out.mono ?_
    rintro e w1 (⟨rfl,hall,hT1,hF1⟩ | ⟨q,rfl,hq1,hq2,hq3,O1,hT1,hF1⟩)
    · have HALL:=Lib.hid hall
      have HT1:=Lib.hid hT1
      have HF1:=Lib.hid hF1
      clear hall hT1 hF1
      go_wp2_with fail
      refine bodyPost_ret (v:=.tuple #[.int .i64 0,.int .i64 90]) (by simp [results,Tryz.results67,go_sem]) rfl ?_
      exact .inl ⟨rfl,HH.out.full HHE.out.hn HALL.out,HT1.out,(FrX.of_below HB0.out).trans (FrX.of_fr HF1.out),Is.fr HF0.out HF1.out oF⟩
    · have HQ:=Lib.hid hq3
      have HT1:=Lib.hid hT1
      have HF1:=Lib.hid hF1
      have cf:w1.cell? ⟨fb,0,none⟩=some (.pointer (some ⟨F,0,none⟩)):=(Is.fr HBX.out.f HF1.out of).cell 0
      have J0:=Lib.hid (Is.fr HI0.out HF1.out (fun o => by have:=HHE.out.tx.lt _ o; omega))
      have d0:w1.cell? ⟨w.heap.size,0,none⟩=some (.int .i64 (s0:Int)):=J0.out.cell 0
      have d1:w1.cell? ⟨w.heap.size,1,none⟩=some (.int .i64 (s1:Int)):=J0.out.cell 1
      have hk98:98 + q / 4096 < ino n:=bm_lt HHE.out.hn hq2
      have hc1:(T.put (98 + q / 4096) (Bt.putL (T.view c.D (98 + q / 4096)) ((q % 4096:Nat):Int) true)).Cov S:=HS.out.put (HBM.out _ (by omega) hk98) _
      have HC2:=Lib.hid (show ((T.put (98 + q / 4096) (Bt.putL (T.view c.D (98 + q / 4096)) ((q % 4096:Nat):Int) true)).put q nil512).Cov (q :: S) from (hc1.mono (fun i hi => .tail _ hi)).put (.head _) _)
      have HX2:=Lib.hid (show Tn.Ext T ((T.put (98 + q / 4096) (Bt.putL (T.view c.D (98 + q / 4096)) ((q % 4096:Nat):Int) true)).put q nil512) from ((Tn.Ext.refl T).put _ _).put _ _)
      have HL2:=Lib.hid (show ((T.put (98 + q / 4096) (Bt.putL (T.view c.D (98 + q / 4096)) ((q % 4096:Nat):Int) true)).put q nil512).H.length=T.H.length + 2 by rw [Tn.put_len,Tn.put_len])
      have HV2:=Lib.hid (show (((T.put (98 + q / 4096) (Bt.putL (T.view c.D (98 + q / 4096)) ((q % 4096:Nat):Int) true)).put q nil512).view c.D)=upd (upd (T.view c.D) (98 + q / 4096) (Bt.putL (T.view c.D (98 + q / 4096)) ((q % 4096:Nat):Int) true)) q nil512 by rw [view_upd,view_upd])
      obtain ⟨T2,hT2⟩:∃ T2,((T.put (98 + q / 4096) (Bt.putL (T.view c.D (98 + q / 4096)) ((q % 4096:Nat):Int) true)).put q nil512)=T2:=⟨_,rfl⟩
      rw [hT2] at HT1 HC2 HX2 HL2 HV2
      have hE1:=HE0.out.fr HT1.out HF1.out
      have hqn:=(geo_facts HHE.out.hn).2.1
      have hai:=(HH.out.inn f (par p) (by rw [pa1]; exact pa2))
      rw [pa1] at hai
      have hST:=set_tab c w1 O1 T2 n hE1 (X f) (T.view c.D a) p F a q g ca hp (Is.fr HF0.out HF1.out oF) HR.out (by have:=dat_pos n; omega) hai.2.2.2 (Rw.fr HG.out HF1.out HGO.out) (HH.out.len a hai.2.2.2) (HF1.out.out (by have:=HB0.out.size; omega) HGO.out) (by omega) (by omega) (by omega) (q :: S) HC2.out (.tail _ (HAS.out HR.out)) (by simpa using h96) (by rw [HL2.out]; omega)
      rw [HST.out] at hST
      have HST2:=Lib.hid hST
      clear hq3 hT1 hF1 hk98 hc1 hT2 hE1 hST hai
      go_wp2_with (
        go_at_call 69
        refine HST2.out.mono ?_
        rintro e w2 ⟨rfl,O2,hT3,hF3⟩
        have HT3:=Lib.hid hT3
        have HF3:=Lib.hid hF3
        clear hT3 hF3)
      refine bodyPost_ret (v:=.tuple #[.int .i64 (q:Int),.int .i64 0]) (by simp [results,Tryz.results67,go_sem]) rfl ?_
      have hho:=hole_tab HH.out HHE.out.hn hq1 hq2 HQ.out hf hp h0 HR.out pa1 pa2
      refine .inr ⟨q,O2,_,X,rfl,HT3.out,?_,?_,?_,HC2.out.put (.tail _ (HAS.out HR.out)) _,HX2.out.put _ _,by rw [Tn.put_len,HL2.out]; omega⟩
      · exact ((FrX.of_below HB0.out).trans (FrX.of_fr HF1.out)).trans (HF3.out.mono (fun i e => .inr (by rw [show i=g from e]; exact hgB)))
      · exact Is.frX (Is.fr HF0.out HF1.out oF) HF3.out (HF1.out.out l4 oF) (by omega)
      · rw [view_upd,HV2.out]; exact hho
end Go.Proofs.YthkijogloebdoaaGreatDoor
end
section
namespace Go.Proofs.YthkijogloebdoaaGreatDoor
open Go.RowKit Go.Maps Rec Gp Fs
structure AddSt (c:Cx)(w1:World)(O:Nat → Prop)(T:Tn)(n:Nat)(X:Nat → Ino)(L:Nat → Nat → Nat)(f F k:Nat)(S:List Nat)(j a:Nat)(wr:World)(Oj:Nat → Prop)(Tj:Tn)(Xj:Nat → Ino)(Lj:Nat → Nat → Nat)(Sj:List Nat):Prop where
  env:Env c wr Oj Tj n
  tree:Tree0 n (Tj.view c.D) Xj Lj
  fr:FrX (fun k => k=F ∨ w1.heap.size ≤ k) w1 O wr Oj
  file:FileAt wr F c.t n (Xj f)
  grew:Grew n (T.view c.D) X L (Tj.view c.D) Xj Lj f k
  at_:∀ i,i + 1=j → Lj f ((path k)[i]?.getD 0)=a ∧ a ≠ 0
  done:∀ i,i < j → Lj f ((path k)[i]?.getD 0) ≠ 0
  cov:Tj.Cov Sj
  sub:∀ i,i ∈ S → i ∈ Sj
  pS:∀ p,p ∈ path k → Lj f p ≠ 0 → Lj f p ∈ Sj
  room:Sj.length + absent (Lj f) (path k) ≤ S.length + absent (L f) (path k)
  ext:Tn.Ext T Tj
  len:Tj.H.length ≤ T.H.length + 3 * j
section
variable {c:Cx}{w1 wr w2:World}{O Oj O2:Nat → Prop}{T Tj T2:Tn}{n:Nat}{X Xj X2:Nat → Ino}{L Lj:Nat → Nat → Nat}{f F k j a:Nat}{S Sj:List Nat}
theorem AddSt.later (h:AddSt c w1 O T n X L f F k S j a wr Oj Tj Xj Lj Sj)(hb:Below wr.heap.size wr w2):AddSt c w1 O T n X L f F k S j a w2 Oj Tj Xj Lj Sj :=
  ⟨h.env.later hb,h.tree,h.fr.trans (FrX.of_below hb),Is.below h.file hb (Is.lt h.file),h.grew,h.at_,h.done,h.cov,h.sub,h.pS,h.room,h.ext,h.len⟩
theorem AddSt.next (h:AddSt c w1 O T n X L f F k S j a wr Oj Tj Xj Lj Sj)(hj:j < (path k).length)(h0:Lj f (path k)[j] ≠ 0):AddSt c w1 O T n X L f F k S (j + 1) (Lj f (path k)[j]) wr Oj Tj Xj Lj Sj :=
  ⟨h.env,h.tree,h.fr,h.file,h.grew,fun i hi => by
      obtain rfl:i=j:=by omega
      rw [List.getElem?_eq_getElem hj,Option.getD_some]; exact ⟨rfl,h0⟩,fun i hi => by
      rcases Nat.lt_or_ge i j with h1 | h1
      · exact h.done i h1
      · obtain rfl:i=j:=by omega
        rw [List.getElem?_eq_getElem hj,Option.getD_some]; exact h0,h.cov,h.sub,h.pS,h.room,h.ext,by have:=h.len; omega⟩
theorem AddSt.fill (h:AddSt c w1 O T n X L f F k S j a wr Oj Tj Xj Lj Sj)(hf:f < 3)(hk:k < 16522)(hj:j < (path k).length){q:Nat}(h0:Lj f (path k)[j]=0)(hpar:par (path k)[j] ≠ 16652 → Lj f (par (path k)[j]) ≠ 0)
    (ht:TxnAt c w2 O2 T2)(hF:FrX (fun k => k=F ∨ w1.heap.size ≤ k) wr Oj w2 O2)(hw:¬ (0=F ∨ w1.heap.size ≤ 0))(hfile:FileAt w2 F c.t n (X2 f))(hh:Hole n (Tj.view c.D) Xj Lj (T2.view c.D) X2 f (path k)[j] q)
    (hcov:T2.Cov (q :: Sj))(hext:Tn.Ext Tj T2)(hlen:T2.H.length ≤ Tj.H.length + 3):AddSt c w1 O T n X L f F k S (j + 1) q w2 O2 T2 X2 (updL Lj f (path k)[j] q) (q :: Sj):=by
  have hq:q ≠ 0:=by have:=hh.q0; have:=dat_pos n; omega
  have hm:(path k)[j] ∈ path k:=List.getElem_mem hj
  have hg:=h.grew.step h.env.hn h.tree hk hm h0 hh.no hh.q0 hh.xs hh.same hh.rest hh.blank (path_facts hk j hj).1 hpar
  have hoth:∀ r,r ≠ (path k)[j] → updL Lj f (path k)[j] q f r=Lj f r:=fun r hr => updL_other _ _ _ _ (fun e => hr e.2)
  refine ⟨h.env.frX ht hF hw,hh.tree,h.fr.trans hF,hfile,hg,fun i hi => ?_,fun i hi => ?_,hcov,fun i hi => .tail _ (h.sub i hi),fun p hp hp0 => ?_,?_,h.ext.trans hext,by have:=h.len; omega⟩
  · obtain rfl:i=j:=by omega
    rw [List.getElem?_eq_getElem hj,Option.getD_some,updL_same]; exact ⟨rfl,hq⟩
  · rcases Nat.lt_or_ge i j with h1 | h1
    · have h2:=h.done i h1
      rw [List.getElem?_eq_getElem (by omega),Option.getD_some] at h2 ⊢
      rw [hoth _ (fun e => by rw [e] at h2; exact h2 h0)]; exact h2
    · obtain rfl:i=j:=by omega
      rw [List.getElem?_eq_getElem hj,Option.getD_some,updL_same]; exact hq
  · by_cases e:p=(path k)[j]
    · rw [e,updL_same]; exact .head _
    · rw [hoth p e] at hp0 ⊢; exact .tail _ (h.pS p hp hp0)
  · have:=absent_upd (l:=Lj f) (l2:=updL Lj f (path k)[j] q f) h0 (by rw [updL_same]; exact hq) hoth (path k) (path_nodup hk) hm
    have:=h.room
    rw [List.length_cons]; omega
end
def Walked (c:Cx)(w:World)(O:Nat → Prop)(T:Tn)(n:Nat)(X:Nat → Ino)(L:Nat → Nat → Nat)(f F k:Nat)(S:List Nat)(e:Ending)(w':World):Prop :=
  (∃ (O':Nat → Prop) (T':Tn) (X':Nat → Ino) (L':Nat → Nat → Nat),e=.returned (.tuple #[.int .i64 0,.int .i64 90]) ∧ TxnAt c w' O' T' ∧ FrX (fun k => k=F ∨ w.heap.size ≤ k) w O w' O' ∧ Tn.Ext T T' ∧ T'.H.length ≤ T.H.length + 9 ∧ FileAt w' F c.t n (X' f) ∧
      Grew n (T.view c.D) X L (T'.view c.D) X' L' f k ∧ total L' + dat n=n ∧ ∃ p,p ∈ path k ∧ L' f p=0) ∨
  (∃ (O':Nat → Prop) (T':Tn) (X':Nat → Ino) (L':Nat → Nat → Nat) (S':List Nat),e=.returned (.tuple #[.int .i64 (L' f k:Int),.int .i64 0]) ∧ TxnAt c w' O' T' ∧ FrX (fun k => k=F ∨ w.heap.size ≤ k) w O w' O' ∧ Tn.Ext T T' ∧ T'.H.length ≤ T.H.length + 9 ∧ FileAt w' F c.t n (X' f) ∧
      Tree0 n (T'.view c.D) X' L' ∧ Grew n (T.view c.D) X L (T'.view c.D) X' L' f k ∧ (∀ p,p ∈ path k → L' f p ≠ 0) ∧ T'.Cov S' ∧ (∀ i,i ∈ S → i ∈ S') ∧ L' f k ∈ S' ∧ S'.length ≤ S.length + absent (L f) (path k))
theorem path_last {k:Nat}(hk:k < 16522):k ∈ path k:=by
  unfold path; split
  · exact List.mem_singleton.2 rfl
  · split
    · exact .tail _ (.head _)
    · exact .tail _ (.tail _ (.head _))
set_option maxRecDepth 100000 in
set_option maxHeartbeats 1600000 in
theorem walkA_any (c:Cx)(w:World)(O:Nat → Prop)(T:Tn)(n:Nat)(he:Env c w O T n)(X:Nat → Ino)(L:Nat → Nat → Nat)(h:Tree0 n (T.view c.D) X L)(f F k tb gb fb:Nat)(hf:f < 3)(hk:k < 16522)(hF:FileAt w F c.t n (X f))
    (hB:HoleB w tb gb fb c.t n F)(ot:¬ O tb)(og:¬ O gb)(of:¬ O fb)(oF:¬ O F)(nF:F ≠ tb ∧ F ≠ gb ∧ F ≠ fb ∧ F ≠ 0)
    (S:List Nat)(hS:T.Cov S)(hbm:∀ k,98 ≤ k → k < ino n → k ∈ S)(hpS:∀ p,p ∈ path k → L f p ≠ 0 → L f p ∈ S)(h96:S.length + absent (L f) (path k) ≤ 96)(hT:T.H.length + 12 ≤ 1000000) :
    Calls Tryz.prog 66 #[.pointer (some ⟨F,0,none⟩),.int .i64 (k:Int),.func (.func 67) #[] #[.pointer (some ⟨tb,0,none⟩),.pointer (some ⟨gb,0,none⟩),.pointer (some ⟨fb,0,none⟩)]] w (Walked c w O T n X L f F k S):=by
  have HWAY:=Lib.hid (way_any k hk w)
  obtain ⟨m,hm⟩:∃ m,(path k).length=m:=⟨_,rfl⟩
  obtain ⟨pl1,pl3⟩:=path_len k
  rw [hm] at HWAY pl1 pl3
  have HM:=Lib.hid hm
  have HE:=Lib.hid he
  have HH:=Lib.hid h
  have HF:=Lib.hid hF
  have HB:=Lib.hid hB
  have HS:=Lib.hid hS
  have HBM:=Lib.hid hbm
  have HPS:=Lib.hid hpS
  have hFl:=hF.lt
  have hwl:=he.wd.lt
  have hbl:=hB.t.lt
  have hgl:=hB.g.lt
  have hfl:=hB.f.lt
  clear he h hF hm hB hS hbm hpS
  go_enter Tryz.func66,Tryz.ntmps66
  go_wp2
  go_step3
  go_wp2
  go_step3
  go_wp2_with (go_at_call 99; refine HWAY.out.mono ?_; rintro e w1 ⟨⟨g,rfl,hg,hgs⟩,hb1⟩; have HG:=Lib.hid hg; have HB1:=Lib.hid hb1; have HE1:=Lib.hid (HE.out.later hb1); have HF1:=Lib.hid (HF.out.below hb1 HF.out.lt); clear hg hb1)
  have hs1:=HB1.out.size
  have HBB:=Lib.hid (HB.out.same (fun k hk => HB1.out.block k (by rcases hk with rfl | rfl | rfl; exact hbl; exact hgl; exact hfl)))
  go_loopw [8,18] (fun va vi wr => ∃ j a:Nat,j ≤ m ∧ va=.int .i64 (a:Int) ∧ vi=.int .i64 (j:Int) ∧ ∃ (Oj:Nat → Prop) (Tj:Tn) (Xj:Nat → Ino) (Lj:Nat → Nat → Nat) (Sj:List Nat),AddSt c w1 O T n X L f F k S j a wr Oj Tj Xj Lj Sj) (fun _ vi _ => m - (intOf vi).toNat)
  case atStart => exact ⟨0,0,Nat.zero_le _,rfl,rfl,O,T,X,L,S,⟨HE1.out,HH.out,FrX.of_below (Below.refl _ _),HF1.out,Grew.refl _ _ _ _ _ _,fun i hi => by omega,fun i hi => by omega,HS.out,fun i hi => hi,HPS.out,Nat.le_refl _,Tn.Ext.refl T,by omega⟩⟩
  case round =>
    obtain ⟨j,a,hj,rfl,rfl,Oj,Tj,Xj,Lj,Sj,hst⟩:=hrel
    have HST:=Lib.hid hst
    by_cases hjm:j < m
    · have hjl:j < (path k).length:=by rw [HM.out]; exact hjm
      obtain ⟨q1,q2,q3,q4,q5⟩:=path_facts hk j hjl
      obtain ⟨p,hp⟩:∃ p,(path k)[j]=p:=⟨_,rfl⟩
      rw [hp] at q1 q2 q3 q4 q5
      obtain ⟨st1,st2⟩:=steps_at k j hjl
      rw [hp] at st1 st2
      have HP:=Lib.hid hp
      obtain ⟨v,hv⟩:∃ v,Lj f p=v:=⟨_,rfl⟩
      have hl:refn (Tj.view c.D) (Xj f) (Lj f) p=v:=by rw [← hv]; exact (hst.tree.ref f p hf q1 (fun e => e)).symm
      have hpar:par p ≠ 16652 → Lj f (par p)=a ∧ a ≠ 0 ∧ a < n:=fun hr => by
        obtain ⟨i,rfl⟩:∃ i,j=i + 1:=⟨j - 1,by have:j ≠ 0:=fun e => hr (q2 e); omega⟩
        have h1:=hst.at_ i rfl
        have h2:=q3 i rfl
        rw [List.getElem?_eq_getElem (by omega),Option.getD_some,← h2] at h1
        exact ⟨h1.1,h1.2,by rw [← h1.1]; exact (hst.tree.inn _ _ (by rw [h1.1]; exact h1.2)).2.2.2⟩
      have hgO:¬ O g:=fun o => by have:=HE.out.tx.lt g o; omega
      have hgn:¬ (g=F ∨ w1.heap.size ≤ g):=fun e => by have:=HG.out.lt; omega
      have HGr:=Lib.hid (Is.frX HG.out hst.fr hgO hgn)
      have cg0:wr.cell? ⟨g,j * 2,none⟩=some (.int .i64 (wh p:Int)):=(HGr.out.cell _).trans st1
      have cg1:wr.cell? ⟨g,j * 2 + 1,none⟩=some (.int .i64 (pl p:Int)):=(HGr.out.cell _).trans st2
      have HN:=Lib.hid (fun w he hF => number_any c w Oj Tj n he (Xj f) (Lj f) p F a v q1 hF hl hpar)
      obtain ⟨s0,hs0⟩:∃ s0,wh p=s0:=⟨_,rfl⟩
      obtain ⟨s1,hs1⟩:∃ s1,pl p=s1:=⟨_,rfl⟩
      have HSV:=Lib.hid (show stepV p=.agg #[.int .i64 (s0:Int),.int .i64 (s1:Int)] by unfold stepV; rw [hs0,hs1])
      unfold stepV at HN
      rw [hs0,hs1] at HN
      rw [hs0] at cg0
      rw [hs1] at cg1
      have hlt:=HGr.out.lt
      have HPM:=Lib.hid (fun hr:par p ≠ 16652 => show par p ∈ path k by
        obtain ⟨i,rfl⟩:∃ i,j=i + 1:=⟨j - 1,by have:j ≠ 0:=fun e => hr (q2 e); omega⟩
        rw [q3 i rfl]; exact List.getElem_mem _)
      have HV:=Lib.hid hv
      have HPAR:=Lib.hid hpar
      have HQ1:=Lib.hid q1
      have HALL:=below_new wr (.cells #[.int .i64 (s0:Int),.int .i64 (s1:Int)] 145)
      have HSTA:=Lib.hid (hst.later HALL)
      clear q1 q2 q3 q4 q5 st1 st2 hp hl hpar hs0 hs1 hv hst hgn
      by_cases hv0:v=0
      · have hvb:((v:Int) == 0)=true:=by rw [beq_iff_eq]; omega
        have HV0:=Lib.hid hv0
        clear hv0
        go_wp2_with (
          go_at_call 100
          refine (HN.out _ HSTA.out.env HSTA.out.file).mono ?_
          rintro e w2 ⟨⟨sl,rfl,hbk⟩,hb2⟩
          have HBK:=Lib.hid hbk
          have HST2:=Lib.hid (HSTA.out.later hb2)
          have C10:=Lib.hid ((one_new wr #[.int .i64 (s0:Int),.int .i64 (s1:Int)] 145).2.below hb2 (Is.new _ _ _).lt)
          have d0:w2.cell? ⟨wr.heap.size,0,none⟩=some (.int .i64 (s0:Int)):=C10.out.cell 0
          have d1:w2.cell? ⟨wr.heap.size,1,none⟩=some (.int .i64 (s1:Int)):=C10.out.cell 1
          clear hbk hb2)
        go_at_call 67
        rw [show (Value.agg #[.int .i64 (s0:Int),.int .i64 (s1:Int)])=stepV p from HSV.out.symm]
        have hsl:(par p=16652 ∧ sl=.slice none 0 0) ∨ (par p ≠ 16652 ∧ ∃ g cp,sl=.slice (some ⟨g,0,none⟩) 512 cp ∧ Rw w2 g (Tj.view c.D a) ∧ w1.heap.size ≤ g ∧ ¬ Oj g):=by
          rcases HBK.out with h | ⟨h1,g',cp,h2,h3,h4⟩
          · exact .inl h
          · have hws:=HALL.size
            have hw1:=HST.out.fr.size
            exact .inr ⟨h1,g',cp,h2,h3,by omega,fun o => by have:=HST.out.env.tx.lt g' o; omega⟩
        have hab:=absent_upd (l:=Lj f) (l2:=updL Lj f p 1 f) (p:=p) (by rw [HV.out]; exact HV0.out) (by rw [updL_same]; decide) (fun r hr => updL_other _ _ _ _ (fun e => hr e.2)) (path k) (path_nodup hk) (by rw [← HP.out]; exact List.getElem_mem hjl)
        have hroom:=HST.out.room
        have hlenj:=HST.out.len
        refine (add2_any c w2 Oj Tj n HST2.out.env Xj Lj HST2.out.tree f p F w1.heap.size a tb gb fb hf HQ1.out (HV.out.trans HV0.out) HST2.out.file (fun hr => ⟨(HPAR.out hr).1,(HPAR.out hr).2.1⟩) sl hsl
          (HBB.out.same (fun k hk => HST2.out.fr.block (by rcases hk with rfl | rfl | rfl; omega; omega; omega) (by rcases hk with rfl | rfl | rfl; exact ot; exact og; exact of) (fun e => by rcases hk with rfl | rfl | rfl <;> rcases e with e | e <;> omega)))
          (by omega) (by omega) (by omega) (by omega) (by omega) (HST2.out.fr.out (by omega) ot) (HST2.out.fr.out (by omega) og) (HST2.out.fr.out (by omega) of) (HST2.out.fr.out (by omega) oF) nF Sj HST2.out.cov (fun i h1 h2 => HST2.out.sub i (HBM.out i h1 h2))
          (fun hr => by rw [← (HPAR.out hr).1]; exact HST2.out.pS _ (HPM.out hr) (by rw [(HPAR.out hr).1]; exact (HPAR.out hr).2.1)) (by omega) (by omega)).mono ?_
        rintro e w3 (⟨rfl,hfull,hT3,hF3,hFl3⟩ | ⟨q,O3,T3,X3,rfl,hT3,hF3,hFl3,hho,hcv,hex,hln⟩)
        · go_wp2_with fail
          rw [Exit.noGoto_ret]
          refine bodyPost_ret (v:=.tuple #[.int .i64 0,.int .i64 90]) (by simp [results,Tryz.results66,go_sem]) rfl ?_
          exact .inl ⟨Oj,Tj,Xj,Lj,rfl,hT3,(FrX.of_below HB1.out).trans ((HST2.out.fr.trans hF3).mono (fun i e => e.imp id (fun h => by omega))),HST2.out.ext,by omega,hFl3,HST2.out.grew,hfull,p,by rw [← HP.out]; exact List.getElem_mem hjl,HV.out.trans HV0.out⟩
        · have hqd:=dat_pos n
          have hqb:((q:Int) == 0)=false:=by have:=hho.q0; rw [beq_eq_false_iff_ne]; omega
          have hst3:=HST2.out.fill hf hk hjl (q:=q) (by rw [HP.out,HV.out]; exact HV0.out) (by rw [HP.out]; exact fun hr => by rw [(HPAR.out hr).1]; exact (HPAR.out hr).2.1) hT3 hF3 (by omega) hFl3 (by rw [HP.out]; exact hho) hcv hex hln
          have HST3:=Lib.hid hst3
          have HFL3:=Lib.hid hFl3
          have hq0:=hho.q0
          have hq1:=hho.q1
          clear hst3 hFl3 hho hcv hex hln hT3 hF3
          go_wp2_with (
            go_at_call 101
            refine (look_any _ F c.t n (X3 f) q HFL3.out hq0 hq1).mono ?_
            rintro e w4 ⟨rfl,rfl⟩)
          case roundEnd =>
          exact ⟨⟨j + 1,q,by omega,rfl,by go_num,_,_,_,_,_,HST3.out⟩,by simp [intOf]; omega⟩
      · have hvb:((v:Int) == 0)=false:=by rw [beq_eq_false_iff_ne]; omega
        have hvi:=(HSTA.out.tree.inn f p (by rw [HV.out]; exact hv0))
        rw [HV.out] at hvi
        have hvd:=hvi.2.2
        clear hvi
        go_wp2_with (first
          | (go_at_call 100
             refine (HN.out _ HSTA.out.env HSTA.out.file).mono ?_
             rintro e w2 ⟨⟨sl,rfl,hbk⟩,hb2⟩
             have HST2:=Lib.hid (HSTA.out.later hb2)
             clear hbk hb2)
          | (go_at_call 101
             refine (look_any _ F c.t n (Xj f) v HST2.out.file hvd.1 hvd.2).mono ?_
             rintro e w3 ⟨rfl,rfl⟩))
        case roundEnd =>
        have hnx:=HST2.out.next hjl (by rw [HP.out,HV.out]; exact hv0)
        rw [HP.out,HV.out] at hnx
        exact ⟨⟨j + 1,v,by omega,rfl,by go_num,_,_,_,_,_,hnx⟩,by simp [intOf]; omega⟩
    · clear hst
      go_wp2_with fail
      obtain rfl:j=m:=by omega
      rw [Exit.noGoto_ret]
      have hjl:j - 1 < (path k).length:=by rw [HM.out]; omega
      have h1:=HST.out.at_ (j - 1) (by omega)
      rw [List.getElem?_eq_getElem hjl,Option.getD_some,(path_facts hk (j - 1) hjl).2.2.2.1 (by rw [HM.out]; omega)] at h1
      refine bodyPost_ret (v:=.tuple #[.int .i64 (a:Int),.int .i64 0]) (by simp [results,Tryz.results66,go_sem]) rfl ?_
      have hroom:=HST.out.room
      have hlenj:=HST.out.len
      refine .inr ⟨Oj,Tj,Xj,Lj,Sj,by rw [h1.1],HST.out.env.tx,(FrX.of_below HB1.out).trans (HST.out.fr.mono (fun i e => e.imp id (fun h => by omega))),HST.out.ext,by omega,HST.out.file,HST.out.tree,HST.out.grew,fun p hp => ?_,HST.out.cov,HST.out.sub,HST.out.pS _ (path_last hk) (by rw [h1.1]; exact h1.2),by omega⟩
      obtain ⟨i,hi,rfl⟩:=List.getElem_of_mem hp
      have h2:=HST.out.done i (by have:=HM.out; omega)
      rwa [List.getElem?_eq_getElem hi,Option.getD_some] at h2
end Go.Proofs.YthkijogloebdoaaGreatDoor
end
