/-
  WholeFiles, the texts Dm Dw Num Row3 QDw2 QDw3: lemmas for the proof that three files on one disk are plain rows of bytes. No conditions.
-/
import Derived.Test.YthkijogloebdoaaGreatDoorM02
import Derived.Test.YthkijogloebdoaaGreatDoorM01
import Derived.Deep.MidRow
import Derived.Deep.AppendLies
import Derived.Maps.AppendAt
import Derived.OwnWalk
import Derived.Laws.OwnMore
import Derived.Deep.RegionLaw
set_option linter.unusedVariables false
set_option linter.unusedSimpArgs false
section
namespace Go.Proofs.YthkijogloebdoaaGreatDoor
open Go.RowKit
def Tk (w:World)(k:Nat)(Ts:List TypeId):Prop := ∃ cs t f,w.heap[k]? = some (.cells cs t f) ∧ t ∈ Ts
structure KT (a:Option Nat)(base:Nat)(Ts:List TypeId)(w w':World):Prop where
  os:w'.os=w.os
  tape:w'.tape=w.tape
  output:w'.output=w.output
  size:w.heap.size ≤ w'.heap.size
  block:∀ k,k < w.heap.size → (k < base ∨ (some k ≠ a ∧ ¬ Tk w k Ts)) → w'.heap[k]? = w.heap[k]?
section
variable {a:Option Nat}{base:Nat}{Ts Us:List TypeId}{w w2 w3:World}
theorem KT.refl (a:Option Nat)(base:Nat)(Ts:List TypeId)(w:World):KT a base Ts w w:=⟨rfl,rfl,rfl,Nat.le_refl _,fun _ _ _ => rfl⟩
theorem KT.trans (h:KT a base Ts w w2)(k:KT a base Ts w2 w3):KT a base Ts w w3:=by
  refine ⟨k.os.trans h.os,k.tape.trans h.tape,k.output.trans h.output,Nat.le_trans h.size k.size,fun i hi hs => ?_⟩
  have e:=h.block i hi hs
  refine (k.block i (Nat.lt_of_lt_of_le hi h.size) ?_).trans e
  rcases hs with hs | ⟨h1,h2⟩
  · exact .inl hs
  · exact .inr ⟨h1,fun ⟨cs,t,f,ht,hm⟩ => h2 ⟨cs,t,f,by rw [← e]; exact ht,hm⟩⟩
theorem KT.of_below {B:Nat}(h:Below B w w2)(hB:w.heap.size ≤ B):KT a base Ts w w2:=⟨h.os,h.tape,h.output,h.size,fun i hi _ => h.block i (by omega)⟩
theorem KT.below (h:KT a base Ts w w2)(hb:base ≤ w.heap.size):Below base w w2:=⟨h.os,h.tape,h.output,h.size,fun i hi => h.block i (by omega) (.inl hi)⟩
theorem KT.mono (h:KT a base Ts w w2)(hs:∀ t,t ∈ Ts → t ∈ Us):KT a base Us w w2 :=
  ⟨h.os,h.tape,h.output,h.size,fun i hi hk => h.block i hi (hk.imp id (fun ⟨h1,h2⟩ => ⟨h1,fun ⟨cs,t,f,ht,hm⟩ => h2 ⟨cs,t,f,ht,hs t hm⟩⟩))⟩
theorem KT.base_le {b:Nat}(h:KT a base Ts w w2)(hb:b ≤ base):KT a b Ts w w2 :=
  ⟨h.os,h.tape,h.output,h.size,fun i hi hk => h.block i hi (hk.imp (fun h1 => by omega) id)⟩
theorem KT.drew (w:World):KT a base Ts w w.drew:=⟨rfl,rfl,rfl,Nat.le_refl _,fun _ _ _ => rfl⟩
theorem KT.drewN (w:World)(n:Nat):KT a base Ts w (w.drewN n):=⟨rfl,rfl,rfl,Nat.le_refl _,fun _ _ _ => rfl⟩
theorem KT.setCell {g i:Nat}{t:TypeId}{cs:Array Value}(h:Is w g t cs)(hg:base ≤ g)(ht:some g=a ∨ t ∈ Ts)(u:Value):KT a base Ts w (w.setCell ⟨g,i,none⟩ u):=by
  refine ⟨rfl,rfl,rfl,by rw [World.size_setCell]; exact Nat.le_refl _,fun k hk hs => heap_setCell_other w ⟨g,i,none⟩ k u (fun e => ?_)⟩
  have e:k=g:=e
  subst e
  rcases hs with hs | ⟨h1,h2⟩
  · omega
  · rcases ht with ht | ht
    · exact h1 ht
    · exact h2 ⟨_,_,_,h,ht⟩
theorem Is.kt {g:Nat}{t:TypeId}{cs:Array Value}(h:Is w g t cs)(k:KT a base Ts w w2)(hg:g < base ∨ (some g ≠ a ∧ t ∉ Ts)):Is w2 g t cs:=by
  refine (k.block g h.lt (hg.imp id fun ⟨h1,h2⟩ => ⟨h1,fun ⟨cs',t',f',ht,hm⟩ => h2 ?_⟩)).trans h
  rw [show w.heap[g]? = _ from h] at ht
  injection ht with ht
  injection ht with _ ht
  rw [ht]; exact hm
end
def Own (w:World)(base:Nat)(t:TypeId)(k:Nat)(A:Option Addr)(n cap:Nat)(cs:List Value):Prop:=w.ownsRow base t k (.slice A n cap) n cs
section
variable {w w2:World}{a:Option Nat}{base k n cap:Nat}{t:TypeId}{A B:Option Addr}{cs:List Value}{Ts:List TypeId}
theorem Own.nil (w:World)(base:Nat)(t:TypeId)(k:Nat):Own w base t k none 0 0 []:=⟨by simp,.inl ⟨rfl,rfl⟩⟩
theorem Own.kept (h:Own w base t k A n cap cs)(hk:∀ g,Of A g → w2.heap[g]? = w.heap[g]?):Own w2 base t k A n cap cs:=by
  refine ⟨h.1,?_⟩
  rcases h.2 with h2 | ⟨g,cap',cur,hv,hg,hh,r⟩
  · exact .inl h2
  · refine .inr ⟨g,cap',cur,hv,hg,?_,r⟩
    injection hv with hA
    rw [hk g hA]; exact hh
theorem Own.typed (h:Own w base t k A n cap cs)(g:Nat)(hg:Of A g):base ≤ g ∧ ∃ cur,Is w g t cur:=by
  rcases h.2 with ⟨hv,_⟩ | ⟨g',cap',cur,hv,hb,hh,_⟩
  · injection hv with hA; unfold Of at hg; rw [hA] at hg; cases hg
  · injection hv with hA
    unfold Of at hg
    rw [hA] at hg
    injection hg with hg
    injection hg with hg
    subst hg
    exact ⟨hb,cur,hh⟩
theorem Own.lt (h:Own w base t k A n cap cs)(g:Nat)(hg:Of A g):g < w.heap.size:=by obtain ⟨_,cur,hi⟩:=h.typed g hg; exact hi.lt
theorem Own.ge (h:Own w base t k A n cap cs)(g:Nat)(hg:Of A g):base ≤ g:=(h.typed g hg).1
theorem Own.keeps {S:Nat → Prop}(h:Own w base t k A n cap cs)(q:Keeps S w w2)(hn:∀ i,Of A i → ¬ S i):Own w2 base t k A n cap cs:=h.kept fun g hg => q.block g (h.lt g hg) (hn g hg)
theorem Own.later (h:Own w base t k A n cap cs)(hb:Below w.heap.size w w2):Own w2 base t k A n cap cs:=h.kept fun g hg => hb.block g (h.lt g hg)
theorem Own.kt (h:Own w base t k A n cap cs){b:Nat}(q:KT a b Ts w w2)(ht:t ∉ Ts)(ha:∀ g,Of A g → some g ≠ a):Own w2 base t k A n cap cs:=h.kept fun g hg => by
  obtain ⟨_,cur,hi⟩:=h.typed g hg
  exact (hi.kt q (.inr ⟨ha g hg,ht⟩)).trans hi.symm
theorem Own.shape (h:Own w base t k A n cap cs):A=none ∨ ∃ g,A=some ⟨g,0,none⟩:=by
  rcases h.2 with ⟨hv,_⟩ | ⟨g,cap',cur,hv,_⟩
  · injection hv with hA; exact .inl hA
  · injection hv with hA; exact .inr ⟨g,hA⟩
theorem Own.cap_le (h:Own w base t k A n cap cs):n ≤ cap ∧ cap ≤ maxLen:=by
  rcases h.2 with ⟨hv,h0⟩ | ⟨g,cap',cur,hv,_,_,h1,h2,_⟩
  · injection hv with _ _ hc; subst hc; rw [h0]; exact ⟨Nat.le_refl _,Nat.zero_le _⟩
  · injection hv with _ _ hc; subst hc; exact ⟨h1,h2⟩
theorem Own.form (h:Own w base t k A n cap cs)(hn:0 < n):∃ g,A=some ⟨g,0,none⟩ ∧ base ≤ g ∧ g < w.heap.size:=by
  obtain ⟨g,c,hv,hb,hlt⟩:=World.ownsRow.form h hn
  injection hv with hA
  exact ⟨g,hA,hb,hlt⟩
theorem Own.cell {g:Nat}(h:Own w base t k (some ⟨g,0,none⟩) n cap cs)(j:Nat)(hj:j < n * k):w.cell? ⟨g,j,none⟩=cs[j]?:=World.ownsRow.cellAt h j hj
theorem Own.free {g:Nat}(h:Own w base t k (some ⟨g,0,none⟩) n cap cs)(j:Nat):w.frozen? ⟨g,j,none⟩=false:=World.ownsRow.frozenAt h j
theorem Own.put {g:Nat}(h:Own w base t k (some ⟨g,0,none⟩) n cap cs)(j:Nat)(u:Value):Own (w.setCell ⟨g,j,none⟩ u) base t k (some ⟨g,0,none⟩) n cap (cs.set j u):=(World.ownsRow.stored h j u).1
theorem Own.range {g:Nat}(h:Own w base t k (some ⟨g,0,none⟩) n cap cs)(o:Nat)(vs:List Value)(hv:∀ j v,vs[j]? = some v → cs[o + j]? = some v):w.rangeAt g o vs:=fun j v hj => by
  have hc:=hv j v hj
  have hl:o + j < cs.length:=(List.getElem?_eq_some_iff.1 hc).1
  rw [h.cell (o + j) (by rw [← h.1]; exact hl),hc]
theorem Own.there {g:Nat}(h:Own w base t k (some ⟨g,0,none⟩) n cap cs)(o m:Nat)(hm:o + m ≤ n * k):w.there g o m:=fun j hj =>
  ⟨by rw [h.cell (o + j) (by omega),List.getElem?_eq_getElem (by rw [h.1]; omega)]; rfl,h.free _⟩
def setList (cs:List Value)(o:Nat):List Value → List Value
  | [] => cs
  | v :: r => setList (cs.set o v) (o + 1) r
theorem Own.puts {g:Nat}(vs:List Value):∀ {w:World}{cs:List Value}(o:Nat),Own w base t k (some ⟨g,0,none⟩) n cap cs → Own (w.setCells g o vs) base t k (some ⟨g,0,none⟩) n cap (setList cs o vs):=by
  induction vs with
  | nil => intro w cs o h; exact h
  | cons v r ih => intro w cs o h; rw [World.setCells]; exact ih (o + 1) (h.put o v)
theorem heap_setCells_other (g:Nat)(vs:List Value):∀ (w:World)(o i:Nat),i ≠ g → (w.setCells g o vs).heap[i]? = w.heap[i]?:=by
  induction vs with
  | nil => intro w o i _; rfl
  | cons v r ih => intro w o i h; rw [World.setCells,ih _ _ _ h]; exact heap_setCell_other w ⟨g,o,none⟩ i v (by show i ≠ g; exact h)
theorem setCells_same (g:Nat)(vs:List Value):∀ (w:World)(o:Nat),(w.setCells g o vs).os=w.os ∧ (w.setCells g o vs).tape=w.tape ∧ (w.setCells g o vs).output=w.output ∧ (w.setCells g o vs).heap.size=w.heap.size:=by
  induction vs with
  | nil => intro w o; exact ⟨rfl,rfl,rfl,rfl⟩
  | cons v r ih =>
    intro w o
    rw [World.setCells]
    obtain ⟨h1,h2,h3,h4⟩:=ih (w.setCell ⟨g,o,none⟩ v) (o + 1)
    exact ⟨h1,h2,h3,by rw [h4,World.size_setCell]⟩
theorem KT.setCells {g o:Nat}{cs':Array Value}(h:Is w g t cs')(hg:base ≤ g)(ht:some g=a ∨ t ∈ Ts)(vs:List Value):KT a base Ts w (w.setCells g o vs):=by
  obtain ⟨h1,h2,h3,h4⟩:=setCells_same g vs w o
  refine ⟨h1,h2,h3,by rw [h4]; exact Nat.le_refl _,fun i hk hs => heap_setCells_other g vs w o i (fun e => ?_)⟩
  subst e
  rcases hs with hs | ⟨h5,h6⟩
  · omega
  · rcases ht with ht | ht
    · exact h5 ht
    · exact h6 ⟨_,_,_,h,ht⟩
theorem KT.of_grown {b:Nat}(h:Own w base t k A n cap cs)(hb:b ≤ base)(ht:t ∈ Ts)(hg:w.grownBy w2 (Value.slice A n cap).ownBlock):KT a b Ts w w2:=by
  refine ⟨hg.os,hg.tape,hg.output,hg.size,fun i hi hs => hg.block i hi fun e => ?_⟩
  rcases h.shape with rfl | ⟨g,rfl⟩
  · cases e
  · injection e with e
    have e:i=g:=e
    subst e
    obtain ⟨h1,cur,h2⟩:=h.typed i rfl
    rcases hs with hs | ⟨_,h6⟩
    · omega
    · exact h6 ⟨_,_,_,h2,ht⟩
end
theorem setList_eq (vs:List Value):∀ (cs:List Value)(o:Nat),o + vs.length ≤ cs.length → setList cs o vs=cs.take o ++ vs ++ cs.drop (o + vs.length):=by
  induction vs with
  | nil => intro cs o h; show cs=_; rw [List.append_nil,List.length_nil,Nat.add_zero,List.take_append_drop]
  | cons v r ih =>
    intro cs o h
    simp only [List.length_cons] at h ⊢
    show setList (cs.set o v) (o + 1) r=_
    rw [ih _ _ (by rw [List.length_set]; omega),List.take_add_one,List.getElem?_set_self (by omega),List.take_set_of_le (Nat.le_refl o),List.drop_set_of_lt (by omega),show o + 1 + r.length=o + (r.length + 1) by omega]
    simp
end Go.Proofs.YthkijogloebdoaaGreatDoor
namespace Go.Proofs.YthkijogloebdoaaGreatDoor
structure Dk where
  lasts:List (List UInt8)
  pend:List (Nat × List UInt8)
  left:Nat
  keep:List Bool
  down:Bool
  n:Nat
namespace Dk
def puts (l:List (List UInt8))(p:List (Nat × List UInt8)):List (List UInt8):=p.foldl (fun l x => l.set x.1 x.2) l
def kept (l:List (List UInt8))(p:List (Nat × List UInt8))(keep:List Bool):Nat → List (List UInt8)
  | 0 => l
  | k + 1 => if h:k < p.length then (if keep.getD k false=true then (kept l p keep k).set p[k].1 p[k].2 else kept l p keep k) else kept l p keep k
def cut (D:Dk)(keep:List Bool):Dk := { D with lasts:=kept D.lasts D.pend keep (min keep.length D.pend.length),pend := [],keep := [],left:=0,down:=true }
def write (D:Dk)(i:Nat)(b:List UInt8):Dk :=
  if D.left=1 then ({ D with pend:=D.pend ++ [(i,b)],n:=D.n + 1 }:Dk).cut D.keep else { D with pend:=D.pend ++ [(i,b)],left:=D.left - 1,n:=D.n + 1 }
def flush (D:Dk):Dk:=if D.left=1 then D.cut D.keep else { D with lasts:=puts D.lasts D.pend,pend := [],left:=D.left - 1,n:=D.n + 1 }
def err (D:Dk):Int:=if D.left=1 then 30 else 0
def read (D:Dk)(i:Nat):List UInt8:=D.pend.foldl (fun b x => if x.1=i then x.2 else b) (D.lasts.getD i [])
def Ok (D:Dk):Prop:=1 ≤ D.lasts.length ∧ D.lasts.length ≤ 16384 ∧ (∀ b ∈ D.lasts,b.length=512) ∧ (∀ x ∈ D.pend,x.1 < D.lasts.length ∧ x.2.length=512) ∧ D.pend.length ≤ D.n ∧ D.left ≤ 9223372036854775807 ∧ D.keep.length ≤ 9223372036854775807
theorem puts_snoc (l:List (List UInt8))(p:List (Nat × List UInt8))(x:Nat × List UInt8):puts l (p ++ [x])=(puts l p).set x.1 x.2:=by unfold puts; rw [List.foldl_append]; rfl
theorem puts_length (p:List (Nat × List UInt8)):∀ l:List (List UInt8),(puts l p).length=l.length:=by
  induction p with
  | nil => intro l; rfl
  | cons x p ih => intro l; show (puts (l.set x.1 x.2) p).length=_; rw [ih]; simp
theorem kept_length (l:List (List UInt8))(p:List (Nat × List UInt8))(keep:List Bool)(k:Nat):(kept l p keep k).length=l.length:=by
  induction k with
  | zero => rfl
  | succ k ih =>
    unfold kept
    split
    · split
      · rw [List.length_set,ih]
      · exact ih
    · exact ih
theorem set_512 {l:List (List UInt8)}(h:∀ b ∈ l,b.length=512){i:Nat}{b:List UInt8}(hb:b.length=512):∀ c ∈ l.set i b,c.length=512:=fun c hc => by
  rcases List.mem_or_eq_of_mem_set hc with h1 | h1
  · exact h c h1
  · rw [h1]; exact hb
theorem puts_512 (p:List (Nat × List UInt8)):∀ l:List (List UInt8),(∀ b ∈ l,b.length=512) → (∀ x ∈ p,x.2.length=512) → ∀ b ∈ puts l p,b.length=512:=by
  induction p with
  | nil => intro l h _; exact h
  | cons x p ih => intro l h hp; exact ih _ (set_512 h (hp x (List.mem_cons_self ..))) (fun y hy => hp y (List.mem_cons_of_mem _ hy))
theorem kept_512 (l:List (List UInt8))(p:List (Nat × List UInt8))(keep:List Bool)(h:∀ b ∈ l,b.length=512)(hp:∀ x ∈ p,x.2.length=512)(k:Nat):∀ b ∈ kept l p keep k,b.length=512:=by
  induction k with
  | zero => exact h
  | succ k ih =>
    unfold kept
    split
    · split
      · exact set_512 ih (hp _ (List.getElem_mem _))
      · exact ih
    · exact ih
theorem kept_yes {l:List (List UInt8)}{p:List (Nat × List UInt8)}{keep:List Bool}{k:Nat}(h:k < p.length)(hk:keep.getD k false=true):kept l p keep (k + 1)=(kept l p keep k).set p[k].1 p[k].2:=by
  rw [kept,dif_pos h,if_pos hk]
theorem kept_no {l:List (List UInt8)}{p:List (Nat × List UInt8)}{keep:List Bool}{k:Nat}(hk:keep.getD k false=false):kept l p keep (k + 1)=kept l p keep k:=by
  rw [kept]; split
  · rw [if_neg (by rw [hk]; decide)]
  · rfl
theorem Ok.cut {D:Dk}(h:D.Ok)(keep:List Bool):(D.cut keep).Ok:=by
  obtain ⟨h1,h2,h3,h4,h5,h6⟩:=h
  refine ⟨?_,?_,kept_512 _ _ _ h3 (fun x hx => (h4 x hx).2) _,(fun x hx => by cases hx),Nat.zero_le _,(by show 0 ≤ 9223372036854775807; decide),(by show 0 ≤ 9223372036854775807; decide)⟩
  · show 1 ≤ (kept _ _ _ _).length; rw [kept_length]; exact h1
  · show (kept _ _ _ _).length ≤ _; rw [kept_length]; exact h2
theorem Ok.pended {D:Dk}(h:D.Ok){i:Nat}{b:List UInt8}(hi:i < D.lasts.length)(hb:b.length=512):({ D with pend:=D.pend ++ [(i,b)],n:=D.n + 1 }:Dk).Ok:=by
  obtain ⟨h1,h2,h3,h4,h5,h6⟩:=h
  refine ⟨h1,h2,h3,fun x hx => ?_,?_,h6⟩
  · rcases List.mem_append.1 hx with hx | hx
    · exact h4 x hx
    · simp at hx; subst hx; exact ⟨hi,hb⟩
  · show (D.pend ++ [(i,b)]).length ≤ D.n + 1; simp; exact h5
theorem read_length {D:Dk}(h:D.Ok){i:Nat}(hi:i < D.lasts.length):(D.read i).length=512:=by
  obtain ⟨h1,h2,h3,h4,h5,h6⟩:=h
  unfold read
  have key:∀ (p:List (Nat × List UInt8)) (b:List UInt8),b.length=512 → (∀ x ∈ p,x.2.length=512) → (p.foldl (fun b x => if x.1=i then x.2 else b) b).length=512:=by
    intro p
    induction p with
    | nil => intro b hb _; exact hb
    | cons x p ih =>
      intro b hb hp
      refine ih _ ?_ (fun y hy => hp y (List.mem_cons_of_mem _ hy))
      show (if x.1=i then x.2 else b).length=512
      split
      · exact hp x (List.mem_cons_self ..)
      · exact hb
  refine key _ _ ?_ (fun x hx => (h4 x hx).2)
  rw [List.getD_eq_getElem?_getD,List.getElem?_eq_getElem hi]
  exact h3 _ (List.getElem_mem hi)
end Dk
end Go.Proofs.YthkijogloebdoaaGreatDoor
namespace Go.Proofs.YthkijogloebdoaaGreatDoor
open Go.RowKit
theorem flat_length {α:Type}(f : α → List Value)(m:Nat)(l:List α)(h:∀ x ∈ l,(f x).length=m):(l.flatMap f).length=l.length * m:=by
  induction l with
  | nil => simp
  | cons x l ih =>
    rw [List.flatMap_cons,List.length_append,h x (List.mem_cons_self ..),ih (fun y hy => h y (List.mem_cons_of_mem _ hy)),List.length_cons,Nat.succ_mul]
    omega
theorem flat_at {α:Type}(f : α → List Value)(m:Nat)(l:List α)(h:∀ x ∈ l,(f x).length=m)(k:Nat)(hk:k < l.length)(j:Nat)(hj:j < m):(l.flatMap f)[k * m + j]? = (f l[k])[j]?:=by
  induction l generalizing k with
  | nil => simp at hk
  | cons x l ih =>
    have hx:=h x (List.mem_cons_self ..)
    rw [List.flatMap_cons]
    cases k with
    | zero => rw [List.getElem?_append_left (by omega)]; simp
    | succ k =>
      rw [List.getElem?_append_right (by rw [hx,Nat.succ_mul]; omega),hx,show (k + 1) * m + j - m=k * m + j by rw [Nat.succ_mul]; omega]
      exact ih (fun y hy => h y (List.mem_cons_of_mem _ hy)) k (by simpa using hk)
theorem flat_take {α:Type}(f : α → List Value)(m:Nat)(l:List α)(h:∀ x ∈ l,(f x).length=m)(k:Nat)(hk:k ≤ l.length):(l.flatMap f).take (k * m)=(l.take k).flatMap f ∧ (l.flatMap f).drop (k * m)=(l.drop k).flatMap f:=by
  have e:l.flatMap f=(l.take k).flatMap f ++ (l.drop k).flatMap f:=by rw [← List.flatMap_append,List.take_append_drop]
  have hl:((l.take k).flatMap f).length=k * m:=by rw [flat_length f m _ (fun x hx => h x (List.mem_of_mem_take hx)),List.length_take,Nat.min_eq_left hk]
  constructor
  · rw [e,List.take_append_of_le_length (by omega),List.take_of_length_le (by omega)]
  · rw [e,← hl,List.drop_left]
theorem flat_set {α:Type}(f : α → List Value)(m:Nat)(l:List α)(h:∀ x ∈ l,(f x).length=m)(k:Nat)(hk:k < l.length)(b : α)(hb:(f b).length=m):setList (l.flatMap f) (k * m) (f b)=(l.set k b).flatMap f:=by
  have hkm:k * m + m ≤ l.length * m:=by rw [← Nat.succ_mul]; exact Nat.mul_le_mul_right _ hk
  rw [setList_eq _ _ _ (by rw [flat_length f m l h,hb]; exact hkm),hb,(flat_take f m l h k (by omega)).1,show k * m + m=(k + 1) * m by rw [Nat.succ_mul],(flat_take f m l h (k + 1) hk).2,
    List.set_eq_take_append_cons_drop,if_pos hk,List.flatMap_append,List.flatMap_cons,List.append_assoc]
def secC (L:List (List UInt8)):List Value:=L.flatMap cellsOf8
def penCell (x:Nat × List UInt8):List Value:=Value.int .i64 (x.1:Int) :: cellsOf8 x.2
def penC (p:List (Nat × List UInt8)):List Value:=p.flatMap penCell
theorem cell8_512 {L:List (List UInt8)}(h:∀ b ∈ L,b.length=512):∀ b ∈ L,(cellsOf8 b).length=512:=fun b hb => by rw [cellsOf8_length]; exact h b hb
theorem pen_513 {p:List (Nat × List UInt8)}(h:∀ x ∈ p,x.2.length=512):∀ x ∈ p,(penCell x).length=513:=fun x hx => by simp [penCell,cellsOf8_length,h x hx]
def KeepAt (w:World)(base:Nat)(K:Option Addr)(l:List Bool):Prop :=
  l=[] ∨ ∃ b off,K=some ⟨b,off,none⟩ ∧ (b < base ∨ Tk w b [4]) ∧ ∀ k (h:k < l.length),w.cell? ⟨b,off + k,none⟩=some (.bool l[k])
def diskT:List TypeId := [70,189,225]
def DiskAt (w:World)(base a d:Nat)(D:Dk):Prop :=
  D.Ok ∧ base ≤ d ∧ ∃ (cA:Nat) (P:Option Addr) (cp:Nat) (K:Option Addr) (ck:Nat) (wr fl:Int) (T:Option Addr) (tn ct:Nat) (tc:List Value),
    Is w d 70 #[.slice (some ⟨a,0,none⟩) D.lasts.length cA,.slice P D.pend.length cp,.int .i64 (D.left:Int),.slice K D.keep.length ck,.bool D.down,.int .i64 wr,.int .i64 fl,.slice T tn ct] ∧
    Own w base 72 512 (some ⟨a,0,none⟩) D.lasts.length cA (secC D.lasts) ∧ Own w base 189 513 P D.pend.length cp (penC D.pend) ∧ KeepAt w base K D.keep ∧
    Own w base 225 3 T tn ct tc ∧ tn ≤ D.n
section
variable {w w2:World}{base a d:Nat}{D:Dk}{Ts:List TypeId}
theorem KeepAt.kt {K:Option Addr}{l:List Bool}{s:Option Nat}(h:KeepAt w base K l)(k:KT s base Ts w w2)(ht:4 ∉ Ts)(hs:∀ b,s=some b → ¬ Tk w b [4]):KeepAt w2 base K l:=by
  rcases h with h | ⟨b,off,rfl,hb,hc⟩
  · exact .inl h
  · by_cases hl:l=[]
    · exact .inl hl
    have hlt:b < w.heap.size:=block_lt_of_cell (hc 0 (List.length_pos_iff.2 hl))
    have e:w2.heap[b]? = w.heap[b]?:=k.block b hlt (hb.imp id fun ⟨cs,t,f,h1,h2⟩ => by
      refine ⟨fun e => hs b e.symm ⟨cs,t,f,h1,h2⟩,fun ⟨cs',t',f',h3,h4⟩ => ?_⟩
      rw [h1] at h3
      injection h3 with h3
      injection h3 with _ h3
      simp at h2
      rw [← h3,h2] at h4
      exact ht h4)
    refine .inr ⟨b,off,rfl,hb.imp id fun ⟨cs,t,f,h1,h2⟩ => ⟨cs,t,f,e.trans h1,h2⟩,fun i hi => ?_⟩
    exact (World.cell?_of_block (a:=⟨b,off + i,none⟩) e).trans (hc i hi)
theorem DiskAt.kt (h:DiskAt w base a d D){s:Option Nat}(k:KT s base Ts w w2)(h1:70 ∉ Ts)(h2:72 ∉ Ts)(h3:189 ∉ Ts)(h4:4 ∉ Ts)(h5:225 ∉ Ts)
    (hs:∀ b,s=some b → ¬ Tk w b [70,72,189,4,225]):DiskAt w2 base a d D:=by
  obtain ⟨hO,hd,cA,P,cp,K,ck,wr,fl,T,tn,ct,tc,hI,hA,hP,hK,hT,hn⟩:=h
  have ne:∀ g t,(∃ cur,Is w g t cur) → t ∈ [70,72,189,4,225] → some g ≠ s:=fun g t ⟨cur,hi⟩ hm e => hs g e.symm ⟨_,_,_,hi,hm⟩
  exact ⟨hO,hd,cA,P,cp,K,ck,wr,fl,T,tn,ct,tc,hI.kt k (.inr ⟨ne d _ ⟨_,hI⟩ (by simp),h1⟩),hA.kt k h2 (fun g hg => ne g _ (hA.typed g hg).2 (by simp)),hP.kt k h3 (fun g hg => ne g _ (hP.typed g hg).2 (by simp)),
    hK.kt k h4 (fun b e ⟨cs,t,f,q1,q2⟩ => hs b e ⟨cs,t,f,q1,by simp at q2; rw [q2]; simp⟩),hT.kt k h5 (fun g hg => ne g _ (hT.typed g hg).2 (by simp)),hn⟩
theorem DiskAt.later (h:DiskAt w base a d D)(hb:Below w.heap.size w w2):DiskAt w2 base a d D :=
  h.kt (Ts := []) (s:=none) (KT.of_below hb (Nat.le_refl _)) (by simp) (by simp) (by simp) (by simp) (by simp) (fun b e => by cases e)
end
end Go.Proofs.YthkijogloebdoaaGreatDoor
end
section
namespace Go.Proofs.YthkijogloebdoaaGreatDoor
open Go.RowKit
structure Dcells (w:World)(a d:Nat)(D:Dk)(cA:Nat)(P:Option Addr)(cp:Nat)(K:Option Addr)(ck:Nat)(wr fl:Int)(T:Option Addr)(tn ct:Nat):Prop where
  c0:w.cell? ⟨d,0,none⟩=some (.slice (some ⟨a,0,none⟩) D.lasts.length cA)
  c1:w.cell? ⟨d,1,none⟩=some (.slice P D.pend.length cp)
  c2:w.cell? ⟨d,2,none⟩=some (.int .i64 (D.left:Int))
  c3:w.cell? ⟨d,3,none⟩=some (.slice K D.keep.length ck)
  c4:w.cell? ⟨d,4,none⟩=some (.bool D.down)
  c5:w.cell? ⟨d,5,none⟩=some (.int .i64 wr)
  c6:w.cell? ⟨d,6,none⟩=some (.int .i64 fl)
  c7:w.cell? ⟨d,7,none⟩=some (.slice T tn ct)
theorem dcells {w:World}{a d:Nat}{D:Dk}{cA:Nat}{P:Option Addr}{cp:Nat}{K:Option Addr}{ck:Nat}{wr fl:Int}{T:Option Addr}{tn ct:Nat}
    (h:Is w d 70 #[.slice (some ⟨a,0,none⟩) D.lasts.length cA,.slice P D.pend.length cp,.int .i64 (D.left:Int),.slice K D.keep.length ck,.bool D.down,.int .i64 wr,.int .i64 fl,.slice T tn ct]):Dcells w a d D cA P cp K ck wr fl T tn ct :=
  ⟨h.cell 0,h.cell 1,h.cell 2,h.cell 3,h.cell 4,h.cell 5,h.cell 6,h.cell 7⟩
theorem blocks_any (base a d:Nat)(D:Dk)(w:World)(h:DiskAt w base a d D) :
    Calls Tryz.prog 70 #[.pointer (some ⟨d,0,none⟩)] w fun e w' => e=.returned (.int .i64 (D.lasts.length:Int)) ∧ w=w':=by
  obtain ⟨hO,hd,cA,P,cp,K,ck,wr,fl,T,tn,ct,tc,hI,hA,hP,hK,hT,hn⟩:=h
  have c0:=(dcells hI).c0
  clear hO hA hP hK hT hn hI
  go_enter Tryz.func70,Tryz.ntmps70
  go_wp2_with fail
  go_ret
  exact ⟨rfl,rfl⟩
theorem down_any (base a d:Nat)(D:Dk)(w:World)(h:DiskAt w base a d D) :
    Calls Tryz.prog 83 #[.pointer (some ⟨d,0,none⟩)] w fun e w' => e=.returned (.bool D.down) ∧ w=w':=by
  obtain ⟨hO,hd,cA,P,cp,K,ck,wr,fl,T,tn,ct,tc,hI,hA,hP,hK,hT,hn⟩:=h
  have c4:=(dcells hI).c4
  clear hO hA hP hK hT hn hI
  generalize D.down=dn at c4 ⊢
  go_enter Tryz.func83,Tryz.ntmps83
  go_wp2_with fail
  go_ret
  exact ⟨rfl,rfl⟩
theorem dhas_any (base a d:Nat)(D:Dk)(i:Int)(w:World)(h:DiskAt w base a d D) :
    Calls Tryz.prog 108 #[.pointer (some ⟨d,0,none⟩),.int .i64 i] w fun e w' => e=.returned (.bool (decide (0 ≤ i ∧ i < D.lasts.length))) ∧ w=w':=by
  obtain ⟨hO,hd,cA,P,cp,K,ck,wr,fl,T,tn,ct,tc,hI,hA,hP,hK,hT,hn⟩:=h
  have c0:=(dcells hI).c0
  clear hO hA hP hK hT hn hI
  generalize D.lasts.length=n at c0 ⊢
  by_cases h0:0 ≤ i
  · by_cases h1:i < n
    · rw [decide_eq_true ⟨h0,h1⟩]
      go_enter Tryz.func108,Tryz.ntmps108
      go_wp2_with fail
      go_ret
      exact ⟨rfl,rfl⟩
    · rw [decide_eq_false (fun h => h1 h.2)]
      have h2:(n:Int) ≤ i:=by omega
      clear h1
      go_enter Tryz.func108,Tryz.ntmps108
      go_wp2_with fail
      go_ret
      exact ⟨ret_bool (decide_eq_false (by omega)),rfl⟩
  · rw [decide_eq_false (fun h => h0 h.1)]
    have h2:i < 0:=by omega
    clear h0
    go_enter Tryz.func108,Tryz.ntmps108
    go_wp2_with fail
    go_ret
    exact ⟨rfl,rfl⟩
theorem infoSec:(Tryz.prog.info? 72).map (·.size)=some 512:=by kernel_rfl
theorem infoPen:(Tryz.prog.info? 189).map (·.size)=some 513:=by kernel_rfl
def Dk.readTo (D:Dk)(i k:Nat):List UInt8:=(D.pend.take k).foldl (fun b x => if x.1=i then x.2 else b) (D.lasts.getD i [])
theorem Dk.readTo_all (D:Dk)(i:Nat):D.readTo i D.pend.length=D.read i:=by unfold Dk.readTo Dk.read; rw [List.take_length]
theorem Dk.readTo_succ (D:Dk)(i k:Nat)(h:k < D.pend.length):D.readTo i (k + 1)=if D.pend[k].1=i then D.pend[k].2 else D.readTo i k:=by
  unfold Dk.readTo
  rw [take_snoc D.pend k h,List.foldl_append]
  rfl
theorem Dk.readTo_length {D:Dk}(h:D.Ok){i:Nat}(hi:i < D.lasts.length)(k:Nat):(D.readTo i k).length=512:=by
  have:=Dk.read_length (D := { D with pend:=D.pend.take k }) (i:=i) ⟨h.1,h.2.1,h.2.2.1,fun x hx => h.2.2.2.1 x (List.mem_of_mem_take hx),by have:=h.2.2.2.2.1; show (D.pend.take k).length ≤ D.n; rw [List.length_take]; omega,h.2.2.2.2.2⟩ hi
  exact this
theorem u8s_512 {b:List UInt8}(h:(cellsOf8 b).length=512):(u8s b).size=512:=by rw [u8s_size,← cellsOf8_length]; exact h
theorem penCell_one (x:Nat × List UInt8):∀ v ∈ penCell x,v.oneCell'=true:=fun v hv => by
  unfold penCell at hv
  rcases List.mem_cons.1 hv with h | h
  · rw [h]; rfl
  · exact cellsOf8_one _ v h
theorem u8s_one (b:List UInt8):(u8s b).all (·.oneCell')=true:=all_oneCell_toArray (cellsOf8_one b)
set_option maxHeartbeats 1600000 in
theorem dread_ok (base a d:Nat)(D:Dk)(i:Nat)(w:World)(h:DiskAt w base a d D)(hdn:D.down=false)(hi:i < D.lasts.length) :
    Calls Tryz.prog 72 #[.pointer (some ⟨d,0,none⟩),.int .i64 (i:Int)] w fun e w' => (∃ g,e=.returned (.tuple #[.slice (some ⟨g,0,none⟩) 512 512,.int .i64 0]) ∧ w.heap.size ≤ g ∧ Is w' g 72 (u8s (D.read i))) ∧ Below w.heap.size w w':=by
  have HD:=Lib.hid h
  obtain ⟨hO,hd,cA,P,cp,K,ck,wr,fl,T,tn,ct,tc,hI,hA,hP,hK,hT,hn⟩:=h
  obtain ⟨c0,c1,c2,c3,c4,c5,c6,c7⟩:=dcells hI
  rw [hdn] at c4
  have hi0:(0:Int) ≤ (i:Int):=by omega
  have hi1:(i:Int) < (D.lasts.length:Int):=by omega
  have HO:=Lib.hid hO
  have HIx:=Lib.hid hi
  have HP:=Lib.hid hP
  have HA:=Lib.hid hA
  have HI:=Lib.hid hI
  have hN:D.lasts.length ≤ 16384:=hO.2.1
  have hrange:w.rangeAt a (i * 512) (cellsOf8 (D.lasts.getD i [])):=HA.out.range _ _ fun j v hv => by
    have hj:=(List.getElem?_eq_some_iff.1 hv).1
    have hl:(D.lasts.getD i []).length=512:=Dk.readTo_length HO.out HIx.out 0
    rw [cellsOf8_length,hl] at hj
    show (D.lasts.flatMap cellsOf8)[i * 512 + j]? = some v
    rw [flat_at cellsOf8 512 D.lasts (cell8_512 HO.out.2.2.1) i HIx.out j hj,← hv,List.getD_eq_getElem?_getD,List.getElem?_eq_getElem HIx.out]
    rfl
  obtain ⟨b0,hb0⟩:∃ b0,D.lasts.getD i []=b0:=⟨_,rfl⟩
  have HB0:=Lib.hid (show D.readTo i 0=b0 from hb0)
  rw [hb0] at hrange
  have hl0:(cellsOf8 b0).length=512:=by rw [cellsOf8_length,← hb0]; exact Dk.readTo_length HO.out HIx.out 0
  have HL0:=Lib.hid hl0
  have HR:=Lib.hid hrange
  clear hO hA hP hK hT hn hI hi hdn c2 c3 c5 c6 c7 hrange hl0 hb0
  go_enter Tryz.func72,Tryz.ntmps72
  go_wp2_with (first
    | (go_at_call 108; refine (dhas_any base a d D i _ HD.out).mono ?_; rintro e w' ⟨rfl,rfl⟩; rw [decide_eq_true ⟨hi0,hi1⟩])
    | (refine wpList_load_mid rfl 72 (.tmp 24) (by rfl) a (i * 512) (by rfl) _ _ HR.out Tryz.underlying72 rfl (by rw [HL0.out]; exact infoSec) ?_)
    | (refine wpList_store_row rfl 72 (.tmp 6) (.tmp 25) rfl w.heap.size (u8s b0) rfl rfl 72 _ (Is.new w _ _) (by rw [u8s_512 HL0.out]; exact infoSec) (by rw [u8s_512 HL0.out]; exact Tryz.zeroCells72_size) (u8s_one b0) ?_
       have hI1:=(Is.new w 72 Tryz.zeroCells72).row (u8s b0)
       have hB1:=below_setRow (below_new w (.cells Tryz.zeroCells72 72)) (Nat.le_refl _) (u8s b0)
       generalize (World.setRow (w.alloc (.cells Tryz.zeroCells72 72)) w.heap.size (u8s b0))=w1 at hI1 hB1 ⊢
       have c1':w1.cell? ⟨d,1,none⟩=some (.slice P D.pend.length cp):=(hB1.cell (p:=⟨d,1,none⟩) (block_lt_of_cell c1)).trans c1
       have HB1:=Lib.hid hB1
       have HI1:=Lib.hid hI1
       clear hI1 hB1))
  have hP0:D.pend.length ≤ 9223372036854775807:=by have:=HP.out.cap_le; simp only [maxLen] at this; omega
  go_loopw [31] (fun i' wr => ∃ k:Nat,k ≤ D.pend.length ∧ i'=.int .i64 k ∧ Is wr w.heap.size 72 (u8s (D.readTo i k)) ∧ Below w.heap.size w wr) (fun i' _ => D.pend.length - (intOf i').toNat)
  case atStart => exact ⟨0,Nat.zero_le _,rfl,by rw [HB0.out]; exact HI1.out,HB1.out⟩
  case round =>
    obtain ⟨k,hk,rfl,hIr,hBr⟩:=hrel
    have HIr:=Lib.hid hIr
    have HBr:=Lib.hid hBr
    have hBs:=hBr.size
    clear hIr hBr
    by_cases hlt:k < D.pend.length
    · have hk0:(k:Int) < (D.pend.length:Int):=by omega
      have hk1:(0:Int) ≤ (k:Int):=by omega
      obtain ⟨gp,hgp,_,_⟩:=HP.out.form (by omega)
      subst hgp
      have hPr:=HP.out.later HBr.out
      obtain ⟨xi,hxi⟩:∃ xi,D.pend[k].1=xi:=⟨_,rfl⟩
      obtain ⟨xb,hxb⟩:∃ xb,D.pend[k].2=xb:=⟨_,rfl⟩
      have hx512:xb.length=512:=by rw [← hxb]; exact (HO.out.2.2.2.1 _ (List.getElem_mem hlt)).2
      have hpc:penCell D.pend[k]=penCell (xi,xb):=by rw [← hxi,← hxb]
      have hl513:(penCell D.pend[k]).length=513:=by rw [hpc]; simp [penCell,cellsOf8_length,hx512]
      have hrg:wr.rangeAt gp (k * 513) (penCell D.pend[k]):=hPr.range _ _ fun j v hv => by
        have hj:=(List.getElem?_eq_some_iff.1 hv).1
        rw [hl513] at hj
        show (D.pend.flatMap penCell)[k * 513 + j]? = some v
        rw [flat_at penCell 513 D.pend (pen_513 fun x hx => (HO.out.2.2.2.1 x hx).2) k hlt j hj]
        exact hv
      rw [hpc] at hrg hl513
      have harm:∀ w8,Is w8 wr.heap.size 189 (penCell (xi,xb)).toArray → Below wr.heap.size wr w8 → w8.cell? ⟨wr.heap.size,0,none⟩=some (.int .i64 (xi:Int)) ∧ w8.rangeAt wr.heap.size 1 (cellsOf8 xb) ∧ Below w.heap.size w w8 ∧ Is w8 w.heap.size 72 (u8s (D.readTo i k)):=fun w8 h1 h2 =>
        ⟨h1.cell 0,(fun j v hv => by rw [h1.cell (1 + j)]; simp [penCell,Nat.add_comm 1 j]; exact hv),HBr.out.trans (h2.mono hBs),HIr.out.below h2 HIr.out.lt⟩
      have h1c:(penCell (xi,xb)).toArray.all (·.oneCell')=true:=all_oneCell_toArray (penCell_one (xi,xb))
      obtain ⟨pc,hpe⟩:∃ pc,penCell (xi,xb)=pc:=⟨_,rfl⟩
      rw [hpe] at hrg hl513 harm h1c
      have H1C:=Lib.hid h1c
      have HARM:=Lib.hid harm
      have HRG:=Lib.hid hrg
      have HL:=Lib.hid hl513
      have HRT:=Lib.hid (D.readTo_succ i k hlt)
      rw [hxi,hxb] at HRT
      have HX:=Lib.hid hx512
      clear hrg hl513 hPr hxi hxb hpc hx512 hlt hpe harm h1c
      by_cases hxe:xi=i
      · subst hxe
        rw [if_pos rfl] at HRT
        go_wp2_with (first
          | (refine wpList_load_mid rfl 189 (.tmp 33) (by rfl) gp (k * 513) (by rfl) _ _ HRG.out Tryz.underlying189 rfl (by rw [HL.out]; exact infoPen) ?_)
          | (refine wpList_store_row rfl 189 (.tmp 8) (.tmp 34) rfl wr.heap.size pc.toArray (by rfl) (by rfl) 189 _ (Is.new wr _ _) (by rw [List.size_toArray,HL.out]; exact infoPen) (Tryz.zeroCells189_size.trans (show 513=pc.toArray.size by rw [List.size_toArray,HL.out])) H1C.out ?_
             obtain ⟨q1,q2,q3,q4⟩:=HARM.out _ ((Is.new wr 189 Tryz.zeroCells189).row pc.toArray) (below_setRow (below_new wr (.cells Tryz.zeroCells189 189)) (Nat.le_refl _) pc.toArray)
             generalize (World.setRow (wr.alloc (.cells Tryz.zeroCells189 189)) wr.heap.size pc.toArray)=w8 at q1 q2 q3 q4 ⊢
             have Q2:=Lib.hid q2
             have Q3:=Lib.hid q3
             have Q4:=Lib.hid q4
             clear q2 q3 q4)
          | (refine wpList_load_mid rfl 72 (.tmp 39) (by rfl) wr.heap.size 1 (by rfl) _ _ Q2.out Tryz.underlying72 rfl (by rw [cellsOf8_length,HX.out]; exact infoSec) ?_)
          | (refine wpList_store_row rfl 72 (.tmp 6) (.tmp 40) rfl w.heap.size (u8s xb) (by rfl) (by rfl) 72 _ Q4.out (by rw [u8s_size,HX.out]; exact infoSec) (by rw [u8s_size,u8s_size,HX.out]; exact Dk.readTo_length HO.out HIx.out k) (u8s_one xb) ?_))
        go_roundw
        case rel => exact ⟨k + 1,by omega,by go_num,by rw [HRT.out]; exact Q4.out.row (u8s xb),below_setRow Q3.out (Nat.le_refl _) (u8s xb)⟩
        case measure => simp [intOf]; omega
      · rw [if_neg hxe] at HRT
        have hxf:((xi:Int) == (i:Int))=false:=by rw [beq_eq_false_iff_ne]; omega
        clear hxe
        go_wp2_with (first
          | (refine wpList_load_mid rfl 189 (.tmp 33) (by rfl) gp (k * 513) (by rfl) _ _ HRG.out Tryz.underlying189 rfl (by rw [HL.out]; exact infoPen) ?_)
          | (refine wpList_store_row rfl 189 (.tmp 8) (.tmp 34) rfl wr.heap.size pc.toArray (by rfl) (by rfl) 189 _ (Is.new wr _ _) (by rw [List.size_toArray,HL.out]; exact infoPen) (Tryz.zeroCells189_size.trans (show 513=pc.toArray.size by rw [List.size_toArray,HL.out])) H1C.out ?_
             obtain ⟨q1,q2,q3,q4⟩:=HARM.out _ ((Is.new wr 189 Tryz.zeroCells189).row pc.toArray) (below_setRow (below_new wr (.cells Tryz.zeroCells189 189)) (Nat.le_refl _) pc.toArray)
             generalize (World.setRow (wr.alloc (.cells Tryz.zeroCells189 189)) wr.heap.size pc.toArray)=w8 at q1 q2 q3 q4 ⊢
             have Q3:=Lib.hid q3
             have Q4:=Lib.hid q4
             clear q2 q3 q4))
        go_roundw
        case rel => exact ⟨k + 1,by omega,by go_num,by rw [HRT.out]; exact Q4.out,Q3.out⟩
        case measure => simp [intOf]; omega
    · obtain rfl:k=D.pend.length:=by omega
      go_wp2_with fail
      go_ret2
      exact ⟨⟨w.heap.size,rfl,Nat.le_refl _,by rw [← Dk.readTo_all]; exact HIr.out⟩,HBr.out⟩
end Go.Proofs.YthkijogloebdoaaGreatDoor
end
section
namespace Go.Proofs.YthkijogloebdoaaGreatDoor
open Go.RowKit
theorem infoNum:(Tryz.prog.info? 3).map (fun i => (i.zero,i.size,i.bytes))=some (some (.int .i64 0),1,8):=by kernel_rfl
def numCells (ts:List Int):List Value:=ts.map fun s => Value.int .i64 s
def Nums (w:World)(base:Nat)(A:Option Addr)(cap:Nat)(ts:List Int):Prop:=w.ownsRow base 3 1 (.slice A ts.length cap) ts.length (numCells ts)
section
variable {w w' w2:World}{S:Nat → Prop}{base cap:Nat}{A B:Option Addr}{ts:List Int}
theorem Nums.nil (w:World)(base:Nat):Nums w base none 0 []:=⟨rfl,.inl ⟨rfl,rfl⟩⟩
theorem Nums.kept (h:Nums w base A cap ts)(hk:∀ g,Of A g → w'.heap[g]? = w.heap[g]?):Nums w' base A cap ts:=by
  refine ⟨h.1,?_⟩
  rcases h.2 with h2 | ⟨g,cap',cur,hv,hg,hh,r⟩
  · exact .inl h2
  · refine .inr ⟨g,cap',cur,hv,hg,?_,r⟩
    injection hv with hA
    rw [hk g hA]; exact hh
theorem Nums.lt (h:Nums w base A cap ts)(g:Nat)(hg:Of A g):g < w.heap.size:=by
  rcases h.2 with ⟨hv,_⟩ | ⟨g',cap',cur,hv,_,hh,_⟩
  · injection hv with hA; unfold Of at hg; rw [hA] at hg; cases hg
  · injection hv with hA
    unfold Of at hg
    rw [hA] at hg
    injection hg with hg
    injection hg with hg
    subst hg
    exact Is.lt hh
theorem Nums.ge (h:Nums w base A cap ts)(g:Nat)(hg:Of A g):base ≤ g:=by
  rcases h.2 with ⟨hv,_⟩ | ⟨g',cap',cur,hv,hb,hh,_⟩
  · injection hv with hA; unfold Of at hg; rw [hA] at hg; cases hg
  · injection hv with hA
    unfold Of at hg
    rw [hA] at hg
    injection hg with hg
    injection hg with hg
    subst hg
    exact hb
theorem Nums.keeps (h:Nums w base A cap ts)(k:Keeps S w w2)(hn:∀ i,Of A i → ¬ S i):Nums w2 base A cap ts:=h.kept fun g hg => k.block g (h.lt g hg) (hn g hg)
theorem Nums.later (h:Nums w base A cap ts)(hb:Below w.heap.size w w2):Nums w2 base A cap ts:=h.kept fun g hg => hb.block g (h.lt g hg)
theorem Nums.shape (h:Nums w base A cap ts):A=none ∨ ∃ g,A=some ⟨g,0,none⟩:=by
  rcases h.2 with ⟨hv,_⟩ | ⟨g,cap',cur,hv,_⟩
  · injection hv with hA; exact .inl hA
  · injection hv with hA; exact .inr ⟨g,hA⟩
theorem Nums.cell (h:Nums w base A cap ts){k:Nat}(hk:k < ts.length):∃ g,A=some ⟨g,0,none⟩ ∧ w.cell? ⟨g,k,none⟩=some (.int .i64 ts[k]):=by
  rcases h.2 with ⟨_,h0⟩ | ⟨g,cap',cur,hv,_⟩
  · omega
  · injection hv with hA
    subst hA
    refine ⟨g,rfl,?_⟩
    rw [World.ownsRow.cellAt h k (by omega)]
    simp [numCells,hk]
end
theorem nums_of_own {w:World}{base:Nat}{v:Value}{ts:List Int}(h:w.ownsRow base 3 1 v ts.length (numCells ts)):∃ A cap,v=.slice A ts.length cap ∧ Nums w base A cap ts:=by
  rcases h.2 with ⟨hv,h0⟩ | ⟨g,cap,cur,hv,_⟩
  · have:ts=[]:=List.eq_nil_of_length_eq_zero h0
    subst this
    exact ⟨none,0,hv,by subst hv; exact h⟩
  · exact ⟨_,cap,hv,by subst hv; exact h⟩
set_option maxRecDepth 100000 in
theorem wpList_append_num {ops:Array Oper}{rest:List Oper}{o:Oper}{a:Act}{w:World}{Q:Exit → Act → World → Prop}(hgd:o.guard=none)(s x:Operand)
    (ho:o.op=.call { callee:=.builtin .append,args := #[s,x],argTypes := #[39,39] })
    (base:Nat)(A:Option Addr)(cap:Nat)(ts:List Int)(hs:a.eval s=.slice A ts.length cap)(hown:Nums w base A cap ts)
    (g c:Nat)(news:Int)(hx:a.eval x=.slice (some ⟨g,0,none⟩) 1 c)(hnews:w.cell? ⟨g,0,none⟩=some (.int .i64 news))
    (hbytes:(ts.length + 1) * 8 ≤ 140737488355328)(hbase:base ≤ w.heap.size)
    (h:∀ A' cap' w',Nums w' base A' cap' (ts ++ [news]) → Keeps (Of A) w w' → (∀ i,Of A' i → Of A i ∨ i=w.heap.size) → wpList Tryz.prog ops Q rest (a.put o.dst (.slice A' (ts ++ [news]).length cap')) w') :
    wpList Tryz.prog ops Q (o :: rest) a w:=by
  obtain ⟨i0,hi,hz0,hz1,hz2⟩:=info_parts infoNum
  refine wpList_append_own_at w hgd s x 39 ho base 3 i0 (.int .i64 0) 1 8 Tryz.underlying39 hi hz0 hz1 hz2 rfl (by decide) _ ts.length (numCells ts) hs hown ⟨g,0,none⟩ 1 c [.int .i64 news] hx rfl ?_ ?_
    (by simp only [maxLen]; omega) hbytes hbase ?_
  · intro j u hu
    cases j with
    | zero =>
      simp at hu
      subst hu
      exact hnews
    | succ j => simp at hu
  · intro u hu
    simp at hu
    subst hu
    rfl
  · intro v' w' hown' hg _ hat
    have e:numCells ts ++ [Value.int .i64 news]=numCells (ts ++ [news]):=by simp [numCells]
    have e2:ts.length + 1=(ts ++ [news]).length:=by simp
    rw [e,e2] at hown'
    obtain ⟨A',cap',rfl,hm⟩:=nums_of_own hown'
    refine h A' cap' w' hm (Keeps.of_grown hown.shape hg) ?_
    intro i hi2
    unfold Of at hi2
    subst hi2
    rcases hat with ha | ha
    · left
      rcases hown.shape with hA | ⟨g',hA⟩
      · subst hA; cases ha
      · subst hA
        injection ha with ha
        have ha:i=g':=ha
        subst ha; rfl
    · right
      injection ha
end Go.Proofs.YthkijogloebdoaaGreatDoor
end
section
namespace Go.Proofs.YthkijogloebdoaaGreatDoor
open Go.RowKit
theorem wpList_make_u8 {ops:Array Oper}{rest:List Oper}{o:Oper}{a:Act}{w:World}{Q:Exit → Act → World → Prop}(hgd:o.guard=none)(l c:Operand)(ho:o.op=.makeSlice 28 l c)
    (base n:Nat)(hl:a.eval l=.int .i64 (n:Int))(hc:a.eval c=.int .i64 (n:Int))(hn:n ≤ 140737488355328)(hb:base ≤ w.heap.size)
    (h:∀ w',Mine w' base (some ⟨w.heap.size,0,none⟩) n (List.replicate n 0) → w.grownBy w' none → wpList Tryz.prog ops Q rest (a.put o.dst (.slice (some ⟨w.heap.size,0,none⟩) n n)) w') :
    wpList Tryz.prog ops Q (o :: rest) a w:=by
  obtain ⟨i0,hi,hz0,hz1,hz2⟩:=info_parts infoU8
  refine wpList_make_full w hgd l c 28 ho base 5 i0 (.int .u8 0) 1 Tryz.underlying28 hi hz0 hz1 .i64 .i64 n n n hl hc rfl rfl (by rw [hz2]; omega) (by simp only [maxLen]; omega) hb ?_
  intro w' ho hg
  refine h w' ?_ hg
  have e:(madeCells (Value.int .u8 0).cells (n * 1)).toList=cellsOf8 (List.replicate n 0):=by
    rw [Nat.mul_one]
    refine (toList_madeCells_one _ _).trans ?_
    unfold cellsOf8; rw [List.map_replicate]; rfl
  rw [e] at ho
  unfold Mine
  rw [List.length_replicate]
  exact ho
theorem str_any (w:World)(A:Option Addr)(cap:Nat)(l:List UInt8)(h:Bytes w A l)(len:Nat)(hl:l.length=len):(convert 28 9 (.slice A len cap)).run Tryz.prog w=.ok (.string ⟨l.toArray⟩) w:=by
  subst hl
  cases A with
  | none =>
    have:l=[]:=by rcases h with rfl | ⟨b,off,hb,_⟩; exact rfl; cases hb
    subst this
    exact run_convert_bytes_nil (P:=Tryz.prog) w 28 5 Tryz.underlying28 Tryz.underlying5 0 cap 9 Tryz.underlying9
  | some a => exact run_convert_bytes_back w 28 9 5 a cap l Tryz.underlying28 Tryz.underlying5 Tryz.underlying9 (fun j hj => h.cells j _ (cellsOf8_at l j hj))
theorem grown_below_none {w w':World}{B:Nat}(hb:B ≤ w.heap.size)(hg:w.grownBy w' none):Below B w w':=(Below.refl _ _).grown hg hb (by intro k hk; cases hk)
end Go.Proofs.YthkijogloebdoaaGreatDoor
end
section
namespace Go.Proofs.YthkijogloebdoaaGreatDoor
open Go.RowKit
theorem pen_range {w:World}{base gp cp k:Nat}{D:Dk}(hO:D.Ok)(hP:Own w base 189 513 (some ⟨gp,0,none⟩) D.pend.length cp (penC D.pend))(hlt:k < D.pend.length):w.rangeAt gp (k * 513) (penCell D.pend[k]) ∧ (penCell D.pend[k]).length=513:=by
  have hl:(penCell D.pend[k]).length=513:=by simp [penCell,cellsOf8_length,(hO.2.2.2.1 _ (List.getElem_mem hlt)).2]
  refine ⟨hP.range _ _ fun j v hv => ?_,hl⟩
  have hj:=(List.getElem?_eq_some_iff.1 hv).1
  rw [hl] at hj
  show (D.pend.flatMap penCell)[k * 513 + j]? = some v
  rw [flat_at penCell 513 D.pend (pen_513 fun x hx => (hO.2.2.2.1 x hx).2) k hlt j hj]
  exact hv
theorem flat_len (L:List (List UInt8))(h:∀ b ∈ L,b.length=512):L.flatten.length=L.length * 512:=by
  induction L with
  | nil => rfl
  | cons x L ih => rw [List.flatten_cons,List.length_append,h x (List.mem_cons_self ..),ih (fun b hb => h b (List.mem_cons_of_mem _ hb)),List.length_cons]; omega
end Go.Proofs.YthkijogloebdoaaGreatDoor
end
section
namespace Go.Proofs.YthkijogloebdoaaGreatDoor
open Go.RowKit
def zero512:List UInt8:=List.replicate 512 0
def secZero:Value:=.agg (Array.replicate 512 (.int .u8 0))
theorem infoSecZ:(Tryz.prog.info? 72).map (fun i => (i.zero,i.size,i.bytes))=some (some secZero,512,512):=by kernel_rfl
def newDk (n:Nat):Dk := { lasts:=List.replicate n zero512,pend := [],left:=0,keep := [],down:=false,n:=0 }
theorem cells8_zero:cellsOf8 zero512=List.replicate 512 (.int .u8 0):=by unfold cellsOf8 zero512; rw [List.map_replicate]; rfl
theorem secC_zero (n:Nat):secC (List.replicate n zero512)=List.replicate (n * 512) (.int .u8 0):=by
  rw [List.eq_replicate_iff]
  constructor
  · unfold secC; rw [flat_length cellsOf8 512 _ (fun b hb => by rw [(List.mem_replicate.1 hb).2,cells8_zero,List.length_replicate]),List.length_replicate]
  · intro v hv
    obtain ⟨b,hb,hv⟩:=List.mem_flatMap.1 hv
    rw [(List.mem_replicate.1 hb).2,cells8_zero] at hv
    exact (List.mem_replicate.1 hv).2
theorem made_zero (n:Nat):(madeCells secZero.cells (n * 512)).toList=secC (List.replicate n zero512):=by
  rw [secC_zero,List.eq_replicate_iff]
  constructor
  · rw [Array.length_toList,size_madeCells]
  · intro v hv
    rw [Array.mem_toList_iff] at hv
    unfold madeCells at hv
    obtain ⟨i,hi,hv⟩:=Array.mem_map.1 hv
    have hsz:secZero.cells.size=512:=by show (Array.replicate 512 (Value.int .u8 0)).size=512; exact Array.size_replicate
    rw [← hv,hsz]
    show (Array.replicate 512 (Value.int .u8 0))[i % 512]! = _
    have hlt:i % 512 < 512:=Nat.mod_lt _ (by decide)
    rw [getElem!_pos (Array.replicate 512 (Value.int .u8 0)) (i % 512) (by rw [Array.size_replicate]; exact hlt),Array.getElem_replicate]
theorem newDk_ok (n:Nat)(h1:1 ≤ n)(h2:n ≤ 16384):(newDk n).Ok :=
  ⟨by show 1 ≤ (List.replicate n zero512).length; simpa using h1,by show (List.replicate n zero512).length ≤ 16384; simpa using h2,fun b hb => by rw [(List.mem_replicate.1 hb).2]; unfold zero512; exact List.length_replicate,(fun x hx => by cases hx),Nat.le_refl _,by show 0 ≤ 9223372036854775807; decide,by show 0 ≤ 9223372036854775807; decide⟩
set_option maxHeartbeats 800000 in
set_option maxRecDepth 100000 in
theorem dnew_any (n:Nat)(h1:1 ≤ n)(h2:n ≤ 16384)(w:World) :
    Calls Tryz.prog 24 #[.int .i64 (n:Int)] w fun e w' => (∃ a d,e=.returned (.tuple #[.pointer (some ⟨d,0,none⟩),.int .i64 0]) ∧ DiskAt w' w.heap.size a d (newDk n)) ∧ Below w.heap.size w w':=by
  obtain ⟨i0,hi,hz0,hz1,hz2⟩:=info_parts infoSecZ
  have hd1:decide (16384 < (n:Int))=false:=decide_eq_false (by omega)
  have Hi:=Lib.hid hi
  have Hz0:=Lib.hid hz0
  have Hz1:=Lib.hid hz1
  have Hz2:=Lib.hid hz2
  clear hi hz0 hz1 hz2
  go_enter Tryz.func24,Tryz.ntmps24
  go_wp2_with (refine wpList_make_full w rfl (.tmp 10) (.tmp 10) 65 (by rfl) w.heap.size 72 i0 secZero 512 Tryz.underlying65 Hi.out Hz0.out Hz1.out .i64 .i64 _ _ n (by rfl) (by rfl) rfl rfl (by rw [Hz2.out]; omega) (by simp only [maxLen]; omega) (Nat.le_refl _) ?_; intro w1 ho1 hg1; have hb1:=grown_below_none (Nat.le_refl w.heap.size) hg1; have HO1:=Lib.hid ho1; have HB1:=Lib.hid hb1; clear hb1 ho1 hg1)
  have hs1:=HB1.out.size
  have hI:=Is.new w1 70 #[.slice (some ⟨w.heap.size,0,none⟩) n n,.slice none 0 0,.int .i64 0,.slice none 0 0,.bool false,.int .i64 0,.int .i64 0,.slice none 0 0]
  have hO:Own w1 w.heap.size 72 512 (some ⟨w.heap.size,0,none⟩) n n (secC (List.replicate n zero512)):=by rw [← made_zero]; exact HO1.out
  have hlen:(newDk n).lasts.length=n:=List.length_replicate
  have hfin:DiskAt (w1.alloc (.cells #[.slice (some ⟨w.heap.size,0,none⟩) n n,.slice none 0 0,.int .i64 0,.slice none 0 0,.bool false,.int .i64 0,.int .i64 0,.slice none 0 0] 70)) w.heap.size w.heap.size w1.heap.size (newDk n):=by
    refine ⟨newDk_ok n h1 h2,hs1,n,none,0,none,0,0,0,none,0,0,[],?_,?_,Own.nil _ _ _ _,.inl rfl,Own.nil _ _ _ _,Nat.le_refl _⟩
    · rw [hlen]; exact hI
    · rw [hlen]; exact hO.later (below_new w1 _)
  have HF:=Lib.hid hfin
  have HFB:=Lib.hid (HB1.out.alloc hs1 (.cells #[.slice (some ⟨w.heap.size,0,none⟩) n n,.slice none 0 0,.int .i64 0,.slice none 0 0,.bool false,.int .i64 0,.int .i64 0,.slice none 0 0] 70))
  clear hI hO hfin
  go_ret2
  exact ⟨⟨w.heap.size,w1.heap.size,rfl,HF.out⟩,HFB.out⟩
theorem Own.splice {w:World}{base k n cap g:Nat}{t:TypeId}{cs:List Value}(h:Own w base t k (some ⟨g,0,none⟩) n cap cs)(vs:List Value)(o:Nat)(hfit:o + vs.length ≤ n * k) :
    ∃ cur:Array Value,w.heap[g]? = some (.cells cur t (0,0)) ∧ o + vs.length ≤ cur.size ∧ Own (w.setRow g (cur.toList.take o ++ vs ++ cur.toList.drop (o + vs.length)).toArray) base t k (some ⟨g,0,none⟩) n cap (setList cs o vs):=by
  have hl:=h.1
  rcases h.2 with ⟨hv,_⟩ | ⟨g',cap',cur,hv,hg,hh,h1,h2,hsz,htk⟩
  · cases hv
  injection hv with hA _ hc
  injection hA with hA
  injection hA with hA
  subst hA
  subst hc
  have hnk:n * k ≤ cur.size:=by rw [hsz]; exact Nat.mul_le_mul_right _ h1
  have hcl:cur.toList.length=cur.size:=Array.length_toList
  refine ⟨cur,hh,by omega,?_⟩
  refine ⟨by rw [setList_eq _ _ _ (by omega)]; simp; omega,.inr ⟨g,cap,_,rfl,hg,setRow_heap w g cur _ t (0,0) hh,h1,h2,by simp; omega,?_⟩⟩
  rw [setList_eq _ _ _ (by omega),← htk]
  have e1:(cur.toList.take (n * k)).take o=cur.toList.take o:=by rw [List.take_take,Nat.min_eq_left (by omega)]
  have e2:(cur.toList.take (n * k)).drop (o + vs.length)=(cur.toList.drop (o + vs.length)).take (n * k - (o + vs.length)):=by rw [List.drop_take]
  rw [e1,e2]
  have e3:(cur.toList.take o ++ vs).length=o + vs.length:=by simp; omega
  rw [List.take_append,List.take_of_length_le (by omega),e3]
theorem step_copy_sec {ops:Array Oper}{o:Oper}{a:Act}{w:World}{K:Act → World → Prop}{Q:Exit → Act → World → Prop}{E:Prop}(hgd:o.guard=none)(d s:Operand)
    (ho:o.op=.call { callee:=.builtin .copy,args := #[d,s],argTypes := #[28,28] })
    (base g N cap:Nat)(L:List (List UInt8))(hm:Own w base 72 512 (some ⟨g,0,none⟩) N cap (secC L))(hL:∀ b ∈ L,b.length=512)(hLN:L.length=N)(i:Nat)(hi:i < N)
    (dCap:Nat)(hd:a.eval d=.slice (some ⟨g,i * 512,none⟩) 512 dCap)(sp:Option Addr)(sLen sCap:Nat)(src b:List UInt8)(hs:a.eval s=.slice sp sLen sCap)(hsl:src.length=sLen)(hb:Bytes w sp src)(hle:512 ≤ sLen)(hbs:src.take 512=b)
    (h:∀ w',Own w' base 72 512 (some ⟨g,0,none⟩) N cap (secC (L.set i b)) → (∃ cs,w'=w.setRow g cs) → K (a.put o.dst (goInt 512)) w') :
    if Region.wanted o (yielded ops a.tmps)=true then Oper.wp Tryz.prog o a w K Q else E:=by
  have h512:b.length=512:=by rw [← hbs,List.length_take]; omega
  have hfit:i * 512 + (cellsOf8 b).length ≤ N * 512:=by rw [cellsOf8_length,h512]; omega
  obtain ⟨cur,hh,hsz,hown⟩:=hm.splice (cellsOf8 b) (i * 512) hfit
  have e:setList (secC L) (i * 512) (cellsOf8 b)=secC (L.set i b):=flat_set cellsOf8 512 L (cell8_512 hL) i (by omega) b (by rw [cellsOf8_length]; exact h512)
  rw [e] at hown
  rcases hb with rfl | ⟨sb,so,rfl,hc⟩
  · simp at hsl; omega
  have hb2:Bytes w (some ⟨sb,so,none⟩) b:=by rw [← hbs]; exact (show Bytes w (some ⟨sb,so,none⟩) src from .inr ⟨sb,so,rfl,hc⟩).take _
  have hrun:=run_copy_row (P:=Tryz.prog) w 28 28 o.type 5 g (i * 512) 512 dCap ⟨sb,so,none⟩ sLen sCap cur 72 (cellsOf8 b) Tryz.underlying28 sizeU8 hh
    (by rw [cellsOf8_length,h512]; exact (Nat.min_eq_right hle).symm) hb2.cells hsz (cellsOf8_one _)
  rw [cellsOf8_length,h512] at hrun
  rw [cellsOf8_length,h512] at hown
  refine step_pass hgd (by simp [execOp,ho,resolve,invoke,builtin,hd,hs,hrun,Result.andThen]) (h _ hown ⟨_,rfl⟩)
def openDk (L:List (List UInt8)):Dk := { lasts:=L,pend := [],left:=0,keep := [],down:=false,n:=0 }
theorem flat_drop (L:List (List UInt8))(h:∀ b ∈ L,b.length=512)(k:Nat)(hk:k < L.length):(L.flatten.drop (k * 512)).take 512=L[k]:=by
  have e:L.flatten=(L.take k).flatten ++ (L[k] ++ (L.drop (k + 1)).flatten):=by
    have h1:L=L.take k ++ (L[k] :: L.drop (k + 1)):=by rw [← List.drop_eq_getElem_cons hk,List.take_append_drop]
    conv => lhs; rw [h1]
    rw [List.flatten_append,List.flatten_cons]
  have hl:((L.take k).flatten).length=k * 512:=by rw [flat_len _ (fun b hb => h b (List.mem_of_mem_take hb)),List.length_take,Nat.min_eq_left (by omega)]
  rw [e,← hl,List.drop_left,List.take_left' (h _ (List.getElem_mem hk))]
theorem KT.setRow {w:World}{a:Option Nat}{base g:Nat}{Ts:List TypeId}(hg:base ≤ g)(ha:some g=a)(cs:Array Value):KT a base Ts w (w.setRow g cs) :=
  ⟨by simp,by simp,by simp,by simp,fun k _ hs => setRow_other w g k cs (fun e => by
    rcases hs with h | ⟨h,_⟩
    · omega
    · exact h (by rw [e]; exact ha))⟩
def mixL (L Z:List (List UInt8))(k:Nat):List (List UInt8):=L.take k ++ Z.drop k
theorem mixL_set (L Z:List (List UInt8))(k n:Nat)(h1:L.length=n)(h2:Z.length=n)(hk:k < n)(b:List UInt8)(hb:L[k]? = some b):(mixL L Z k).set k b=mixL L Z (k + 1):=by
  unfold mixL
  have hl:(L.take k).length=k:=by rw [List.length_take]; omega
  rw [List.set_append_right _ _ (by omega),hl,Nat.sub_self,List.drop_eq_getElem_cons (show k < Z.length by omega),List.set_cons_zero,List.take_add_one,hb]
  simp
theorem mixL_length (L Z:List (List UInt8))(k n:Nat)(h1:L.length=n)(h2:Z.length=n)(hk:k ≤ n):(mixL L Z k).length=n:=by simp [mixL]; omega
theorem mixL_512 (L Z:List (List UInt8))(k:Nat)(h1:∀ b ∈ L,b.length=512)(h2:∀ b ∈ Z,b.length=512):∀ b ∈ mixL L Z k,b.length=512:=fun b hb => by
  rcases List.mem_append.1 hb with h | h
  · exact h1 b (List.mem_of_mem_take h)
  · exact h2 b (List.mem_of_mem_drop h)
theorem mixL_all (L Z:List (List UInt8))(n:Nat)(h1:L.length=n)(h2:Z.length=n):mixL L Z n=L:=by
  unfold mixL
  rw [List.take_of_length_le (by omega),List.drop_of_length_le (by omega),List.append_nil]
set_option maxHeartbeats 1600000 in
theorem dopen_any (L:List (List UInt8))(n:Nat)(hLn:L.length=n)(hL:∀ b ∈ L,b.length=512)(h1:1 ≤ n)(h2:n ≤ 16384)(A:Option Addr)(cap:Nat)(hcap:n * 512 ≤ cap)(w:World)(hb:Bytes w A L.flatten) :
    Calls Tryz.prog 5 #[.slice A (n * 512) cap] w fun e w' => (∃ a d,e=.returned (.tuple #[.pointer (some ⟨d,0,none⟩),.int .i64 0]) ∧ DiskAt w' w.heap.size a d (openDk L)) ∧ Below w.heap.size w w':=by
  have HLN:=Lib.hid hLn
  have HL:=Lib.hid hL
  have HB:=Lib.hid hb
  clear hLn hL hb
  go_enter Tryz.func5,Tryz.ntmps5
  go_wp2_with (go_at_call 24
               refine (dnew_any n h1 h2 _).mono ?_
               rintro e w1 ⟨⟨a,d,rfl,hD1⟩,hb1⟩
               obtain ⟨hO,hd,cA,P,cp,K,ck,wrt,flt,T,tn,ct,tc,hI,hA,hP,hK,hT,hn⟩:=hD1
               have c0:=(dcells hI).c0
               rw [show (newDk n).lasts.length=n from List.length_replicate] at c0
               have HI:=Lib.hid hI
               have HA:=Lib.hid hA
               have HP:=Lib.hid hP
               have HK:=Lib.hid hK
               have HT:=Lib.hid hT
               have HD:=Lib.hid hd
               have HN:=Lib.hid hn
               have HB1:=Lib.hid hb1
               clear hO hI hA hP hK hT hd hn hb1)
  have HZ:=Lib.hid (show (List.replicate n zero512).length=n from List.length_replicate)
  have HZ5:=Lib.hid (show ∀ b ∈ List.replicate n zero512,b.length=512 from fun b hb => by rw [(List.mem_replicate.1 hb).2]; unfold zero512; exact List.length_replicate)
  have HA0:=Lib.hid (show Own w1 w.heap.size 72 512 (some ⟨a,0,none⟩) n cA (secC (mixL L (List.replicate n zero512) 0)) from by
    have:=HA.out
    rw [show (newDk n).lasts.length=n from List.length_replicate] at this
    exact this)
  have hag:w.heap.size ≤ a:=HA0.out.ge a rfl
  have hane:a ≠ d:=fun e => by
    obtain ⟨_,cur,hi⟩:=HA0.out.typed a rfl
    have h5:=HI.out
    rw [← e] at h5
    have h6:=hi.symm.trans h5
    injection h6 with h6
    injection h6 with _ h6
    exact absurd h6 (by decide)
  have HAG:=Lib.hid hag
  have HNE:=Lib.hid hane
  generalize List.replicate n zero512=Z at HZ HZ5 HA0
  clear hag hane
  go_loopw [6,26] (fun _ i' wr => ∃ k:Nat,k ≤ n ∧ i'=.int .i64 k ∧ Own wr w.heap.size 72 512 (some ⟨a,0,none⟩) n cA (secC (mixL L Z k)) ∧ KT (some a) w.heap.size [] w1 wr) (fun _ i' _ => n - (intOf i').toNat)
  case atStart => exact ⟨0,Nat.zero_le _,rfl,HA0.out,KT.refl _ _ _ _⟩
  case round =>
    obtain ⟨k,hk,rfl,hOw,hKT⟩:=hrel
    have HOw:=Lib.hid hOw
    have HKT:=Lib.hid hKT
    have hIr:=HI.out.kt hKT (.inr ⟨fun e => by injection e with e; exact HNE.out e.symm,by simp⟩)
    have c0r:=(dcells hIr).c0
    rw [show (newDk n).lasts.length=n from List.length_replicate] at c0r
    have HBr:=Lib.hid (HB.out.later (HB1.out.trans (hKT.below HB1.out.size)))
    clear hOw hKT hIr
    by_cases hlt:k < n
    · have hk0:(k:Int) < (n:Int):=by omega
      have hk1:(0:Int) ≤ (k:Int):=by omega
      obtain ⟨b,hbk⟩:∃ b,L[k]? = some b:=⟨L[k]'(by rw [HLN.out]; exact hlt),List.getElem?_eq_getElem _⟩
      have HFD:=Lib.hid (show (L.flatten.drop (k * 512)).take 512=b by
        rw [flat_drop L HL.out k (by rw [HLN.out]; exact hlt)]
        rw [List.getElem?_eq_getElem (by rw [HLN.out]; exact hlt)] at hbk
        injection hbk)
      have HMS:=Lib.hid (mixL_set L Z k n HLN.out HZ.out hlt b hbk)
      have HFL:=Lib.hid (flat_len L HL.out)
      obtain ⟨m,hm⟩:∃ m,k * 512=m:=⟨_,rfl⟩
      have hw:IntKind.i64.wrap ((k:Int) * 512)=(m:Int):=by rw [IntWalk.i64_in _ (by omega)]; omega
      have hcm:¬ cap=m:=by omega
      have hm0:(0:Int) ≤ (m:Int):=by omega
      have hm1:(m:Int) ≤ (n:Int) * 512:=by omega
      have hm2:m ≤ n * 512:=by omega
      have HM:=Lib.hid hm
      have hge:512 ≤ n * 512 - m:=by omega
      clear hbk hm
      go_wp2_with fail
      go_region_law (refine step_copy_sec rfl (.tmp 35) (.tmp 39) rfl w.heap.size a n cA (mixL L Z k) (by exact HOw.out) (mixL_512 L Z k HL.out HZ5.out) (mixL_length L Z k n HLN.out HZ.out hk) k hlt 512 (by simp [Act.eval,Act.put]) (A.map (·.add m)) (n * 512 - m) (cap - m) (L.flatten.drop m) b (by simp [Act.eval,Act.put,hcm]) (by rw [List.length_drop,HFL.out,HLN.out]) (by have:=HBr.out.cut (k:=m) (cap:=cap) (by rw [HFL.out,HLN.out]; exact hcap); rw [if_neg hcm] at this; exact this) hge (by rw [← HM.out]; exact HFD.out) ?_; intro w7 hM7 hs7)
      rw [HMS.out] at hM7
      obtain ⟨cs7,rfl⟩:=hs7
      have HM7:=Lib.hid hM7
      have HK7:=Lib.hid (HKT.out.trans ((KT.drew wr).trans (KT.setRow (w:=wr.drew) HAG.out rfl cs7)))
      clear hM7
      go_wp2_with fail
      go_roundw
      case rel => exact ⟨k + 1,by omega,by go_num,HM7.out,HK7.out⟩
      case measure => simp [intOf]; omega
    · obtain rfl:n=k:=by omega
      have HE:=Lib.hid (mixL_all L Z n HLN.out HZ.out)
      have hfin:DiskAt wr w.heap.size a d (openDk L):=by
        have hlen:(openDk L).lasts.length=n:=HLN.out
        have hne:∀ {t:TypeId} {g:Nat},t ≠ 72 → (∃ cur,Is w1 g t cur) → some g ≠ some a:=fun {t g} ht ⟨cur,hi⟩ e => by
          injection e with e
          subst e
          obtain ⟨_,cur2,hi2⟩:=HA0.out.typed g rfl
          have h6:=hi.symm.trans hi2
          injection h6 with h6
          injection h6 with _ h6
          exact ht h6
        refine ⟨⟨by rw [hlen]; exact h1,by rw [hlen]; exact h2,HL.out,(fun x hx => by cases hx),Nat.le_refl _,(by show 0 ≤ 9223372036854775807; decide),(by show 0 ≤ 9223372036854775807; decide)⟩,HD.out,cA,P,cp,K,ck,wrt,flt,T,tn,ct,tc,?_,?_,?_,.inl rfl,?_,HN.out⟩
        · have:=HI.out.kt HKT.out (.inr ⟨hne (by decide) ⟨_,HI.out⟩,by simp⟩)
          rw [show (newDk n).lasts.length=n from List.length_replicate] at this
          rw [hlen]
          exact this
        · rw [hlen]; have:=HOw.out; rw [HE.out] at this; exact this
        · exact HP.out.kt HKT.out (by simp) (fun g hg => hne (by decide) (HP.out.typed g hg).2)
        · exact HT.out.kt HKT.out (by simp) (fun g hg => hne (by decide) (HT.out.typed g hg).2)
      have HF:=Lib.hid hfin
      have HFB:=Lib.hid (HB1.out.trans (HKT.out.below HB1.out.size))
      clear hfin
      go_wp2_with fail
      go_ret2
      exact ⟨⟨a,d,rfl,HF.out⟩,HFB.out⟩
end Go.Proofs.YthkijogloebdoaaGreatDoor
end
