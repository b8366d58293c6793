/-
  WholeFiles, the texts RecW RecT Keeps RecTo Hd: lemmas for the proof that three files on one disk are plain rows of bytes. No conditions.
-/
import Derived.Test.YthkijogloebdoaaGreatDoorM01
import Derived.Test.YthkijogloebdoaaGreatDoorProg
import Derived.WalkLawsBesides
set_option linter.unusedVariables false
set_option linter.unusedSimpArgs false
section
namespace Go.Proofs.YthkijogloebdoaaGreatDoor
open Go.RowKit Rec
def WidthsAt (w:World):Prop := ∀ i,i < 9 → w.cell? ⟨0,i,none⟩=some (.bool (isW i))
theorem WidthsAt.lt {w:World}(h:WidthsAt w):0 < w.heap.size:=block_lt_of_cell (h 0 (by decide))
theorem WidthsAt.below {B:Nat}{w w':World}(h:WidthsAt w)(hb:Below B w w')(hB:0 < B):WidthsAt w':=fun i hi => (hb.cell (p:=⟨0,i,none⟩) hB).trans (h i hi)
theorem isWidth_any (n:Int)(w:World)(hw:WidthsAt w) :
    Calls Tryz.prog 130 #[.int .i64 n] w fun e w' => e=.returned (.bool (isW n)) ∧ w=w':=by
  by_cases h0:0 ≤ n
  · by_cases h1:n < 9
    · obtain ⟨i,rfl⟩:=Int.eq_ofNat_of_zero_le h0
      have hc:=hw i (by omega)
      clear hw
      go_enter Tryz.func130,Tryz.ntmps130
      go_wp2_with fail
      go_ret
      exact ⟨rfl,rfl⟩
    · have e:isW n=false:=by simp [isW]; omega
      rw [e]
      clear hw e
      go_enter Tryz.func130,Tryz.ntmps130
      go_wp2_with fail
      go_ret
      exact ⟨rfl,rfl⟩
  · have e:isW n=false:=by simp [isW]; omega
    rw [e]
    clear hw e
    go_enter Tryz.func130,Tryz.ntmps130
    go_wp2_with fail
    go_ret
    exact ⟨rfl,rfl⟩
theorem lie_any (A:Option Addr)(len cap:Nat)(at_ n:Int)(w:World)(hl:len ≤ 140737488355328)(h0 : -9223372036854775808 ≤ at_)(h1:at_ ≤ 9223372036854775807) :
    Calls Tryz.prog 131 #[.slice A len cap,.int .i64 at_,.int .i64 n] w fun e w' => e=.returned (.bool (lies len at_ n)) ∧ w=w':=by
  by_cases a0:0 ≤ at_
  · by_cases a1:0 ≤ n
    · by_cases a2:at_ ≤ (len:Int)
      · by_cases a3:n ≤ (len:Int) - at_
        · have e:lies len at_ n=true:=by simp [lies]; omega
          rw [e]
          clear e
          go_enter Tryz.func131,Tryz.ntmps131
          go_wp2_with fail
          go_ret
          exact ⟨rfl,rfl⟩
        · have e:lies len at_ n=false:=by simp [lies]; omega
          rw [e]
          clear e
          go_enter Tryz.func131,Tryz.ntmps131
          go_wp2_with fail
          go_ret
          exact ⟨rfl,rfl⟩
      · have e:lies len at_ n=false:=by simp [lies]; omega
        rw [e]
        clear e
        go_enter Tryz.func131,Tryz.ntmps131
        go_wp2_with fail
        go_ret
        exact ⟨rfl,rfl⟩
    · have e:lies len at_ n=false:=by simp [lies]; omega
      rw [e]
      clear e
      go_enter Tryz.func131,Tryz.ntmps131
      go_wp2_with fail
      go_ret
      exact ⟨rfl,rfl⟩
  · have e:lies len at_ n=false:=by simp [lies]; omega
    rw [e]
    clear e
    go_enter Tryz.func131,Tryz.ntmps131
    go_wp2_with fail
    go_ret
    exact ⟨rfl,rfl⟩
theorem u64_or (v k:Nat)(b:UInt8)(hk:k < 8)(hv:v < 256 ^ k):bits .or .u64 (v:Int) (IntKind.u64.wrap (IntKind.u64.wrap (n8 b) * 2 ^ (8 * k)))=((v + 256 ^ k * b.toNat:Nat):Int):=by
  have hb:=b.toNat_lt
  have e8:(256:Nat) ^ k=2 ^ (8 * k):=by rw [Nat.pow_mul]
  have hp:(2:Nat) ^ (8 * k) * 256 ≤ 2 ^ 64:=by
    rw [show (256:Nat)=2 ^ 8 by rfl,← Nat.pow_add]
    exact Nat.pow_le_pow_right (by decide) (by omega)
  have hlt:2 ^ (8 * k) * b.toNat < 2 ^ 64:=by
    have h1:2 ^ (8 * k) * b.toNat < 2 ^ (8 * k) * 256:=Nat.mul_lt_mul_of_pos_left hb (Nat.pow_pos (by decide))
    omega
  have w1:IntKind.u64.wrap (n8 b)=n8 b:=IntWalk.u64_in _ (by have:=n8_lo b; have:=n8_hi b; omega)
  have e1:n8 b * 2 ^ (8 * k)=((2 ^ (8 * k) * b.toNat:Nat):Int):=by unfold n8; push_cast; rw [Int.mul_comm]
  have w2:IntKind.u64.wrap ((2 ^ (8 * k) * b.toNat:Nat):Int)=((2 ^ (8 * k) * b.toNat:Nat):Int):=IntWalk.u64_in _ (by omega)
  rw [w1,e1,w2]
  rw [e8] at hv ⊢
  have hor:v ||| 2 ^ (8 * k) * b.toNat=v + 2 ^ (8 * k) * b.toNat:=by rw [Nat.or_comm,← Nat.two_pow_add_eq_or_of_lt hv,Nat.add_comm]
  show IntKind.u64.wrap ((BitVec.ofInt 64 (v:Int) ||| BitVec.ofInt 64 ((2 ^ (8 * k) * b.toNat:Nat):Int)).toNat:Int)=_
  rw [BitVec.ofInt_natCast,BitVec.ofInt_natCast,BitVec.toNat_or,BitVec.toNat_ofNat,BitVec.toNat_ofNat,Nat.mod_eq_of_lt (show v < 2 ^ 64 by omega),Nat.mod_eq_of_lt hlt,hor]
  apply IntWalk.u64_in
  have h2:v + 2 ^ (8 * k) * b.toNat < 2 ^ (8 * k) * 256:=by
    have:2 ^ (8 * k) * (b.toNat + 1) ≤ 2 ^ (8 * k) * 256:=Nat.mul_le_mul_left _ (by omega)
    rw [Nat.mul_add,Nat.mul_one] at this
    omega
  omega
theorem n8_zero (b:UInt8)(h:b=0):(n8 b == 0)=true:=by subst h; rfl
theorem n8_some (b:UInt8)(h:b ≠ 0):(n8 b == 0)=false:=by rw [show (0:Int)=n8 0 by decide,n8_beq]; simp [h]
theorem n8_zero' (b:UInt8)(h:b=0):(n8 b != 0)=false:=by subst h; rfl
theorem n8_some' (b:UInt8)(h:b ≠ 0):(n8 b != 0)=true:=by rw [bne,n8_some b h]; rfl
set_option maxHeartbeats 400000 in
theorem ahead_any (A:Option Addr)(cap:Nat)(l:List UInt8)(w:World)(hl:Bytes w A l)(hm:l.length ≤ 140737488355328) :
    Calls Tryz.prog 148 #[.slice A l.length cap] w fun e w' => e=.returned (.int .i64 (Rec.ahead l:Int)) ∧ w=w':=by
  go_enter Tryz.func148,Tryz.ntmps148
  go_wp2_with fail
  go_loop [3,4,7] (fun _ _ i => ∃ k:Nat,k ≤ l.length ∧ i=.int .i64 k ∧ ∀ j (hj:j < k) (hj2:j < l.length),l[j] ≠ 0) (fun _ _ i => l.length - (intOf i).toNat)
  case atStart => exact ⟨0,Nat.zero_le _,rfl,fun j hj => by omega⟩
  case round =>
    obtain ⟨k,hk,rfl,hno⟩:=hrel
    have HN:=Lib.hid hno
    clear hno
    by_cases hlt:k < l.length
    · obtain ⟨b,off,rfl,hc⟩:=hl.at_ hlt
      by_cases hz:l[k]=0
      · have hb:=n8_zero _ hz
        have HZ:=Lib.hid hz
        clear hz
        go_wp2_with fail
        go_ret
        exact ⟨ret_int (by rw [ahead_at l k hlt (fun j hj => HN.out j hj _) HZ.out]),rfl⟩
      · have hb:=n8_some _ hz
        have HZ:=Lib.hid hz
        clear hz
        go_wp2_with fail
        go_round
        case rel =>
          refine ⟨k + 1,by omega,by go_num,fun j hj hj2 => ?_⟩
          by_cases e:j=k
          · subst e; exact HZ.out
          · exact HN.out j (by omega) hj2
        case measure => simp [intOf]; omega
    · go_wp2_with fail
      go_ret
      exact ⟨ret_int (by rw [ahead_all l (fun j hj => HN.out j (by omega) hj)]),rfl⟩
set_option maxHeartbeats 400000 in
theorem zeros_any (A:Option Addr)(cap:Nat)(l:List UInt8)(w:World)(hl:Bytes w A l)(hm:l.length ≤ 140737488355328) :
    Calls Tryz.prog 132 #[.slice A l.length cap] w fun e w' => e=.returned (.bool (Rec.zeros l)) ∧ w=w':=by
  go_enter Tryz.func132,Tryz.ntmps132
  go_wp2_with fail
  go_loop [4,7] (fun _ i => ∃ k:Nat,k ≤ l.length ∧ i=.int .i64 k ∧ ∀ j (hj:j < k) (hj2:j < l.length),l[j]=0) (fun _ i => l.length - (intOf i).toNat)
  case atStart => exact ⟨0,Nat.zero_le _,rfl,fun j hj => by omega⟩
  case round =>
    obtain ⟨k,hk,rfl,hno⟩:=hrel
    have HN:=Lib.hid hno
    clear hno
    by_cases hlt:k < l.length
    · obtain ⟨b,off,rfl,hc⟩:=hl.at_ hlt
      by_cases hz:l[k]=0
      · have hb:=n8_zero' _ hz
        have HZ:=Lib.hid hz
        clear hz
        go_wp2_with fail
        go_round
        case rel =>
          refine ⟨k + 1,by omega,by go_num,fun j hj hj2 => ?_⟩
          by_cases e:j=k
          · subst e; exact HZ.out
          · exact HN.out j (by omega) hj2
        case measure => simp [intOf]; omega
      · have hb:=n8_some' _ hz
        have HZ:=Lib.hid hz
        clear hz
        go_wp2_with fail
        go_ret
        exact ⟨ret_bool (by rw [zeros_not l k hlt HZ.out]),rfl⟩
    · go_wp2_with fail
      go_ret
      exact ⟨ret_bool (by rw [zeros_all l (fun j hj => HN.out j (by omega) hj)]),rfl⟩
set_option maxHeartbeats 800000 in
theorem get_any (A:Option Addr)(cap:Nat)(l:List UInt8)(at_ n:Int)(w:World)(hw:WidthsAt w)(hl:Bytes w A l)(hm:l.length ≤ 140737488355328)(h0 : -9223372036854775808 ≤ at_)(h1:at_ ≤ 9223372036854775807) :
    Calls Tryz.prog 92 #[.slice A l.length cap,.int .i64 at_,.int .i64 n] w fun e w' => e=.returned (.tuple #[.int .u64 (getV l at_ n:Int),.int .i64 (getE l.length at_ n)]) ∧ w=w':=by
  have HW:=Lib.hid hw
  clear hw
  have iw:=isWidth_any n w HW.out
  have li:=lie_any A l.length cap at_ n w hm h0 h1
  unfold getV getE
  cases hW:isW n
  · rw [hW] at iw
    have IW:=Lib.hid iw
    clear iw li
    go_enter Tryz.func92,Tryz.ntmps92
    go_wp2_with (go_at_call 130; refine IW.out.mono ?_; rintro e w' ⟨rfl,rfl⟩)
    go_ret2
    exact ⟨rfl,rfl⟩
  · rw [hW] at iw
    have IW:=Lib.hid iw
    cases hL:lies l.length at_ n
    · rw [hL] at li
      have LI:=Lib.hid li
      clear iw li
      go_enter Tryz.func92,Tryz.ntmps92
      go_wp2_with (first
        | (go_at_call 130; refine IW.out.mono ?_; rintro e w' ⟨rfl,rfl⟩)
        | (go_at_call 131; refine LI.out.mono ?_; rintro e w' ⟨rfl,rfl⟩))
      go_ret2
      exact ⟨rfl,rfl⟩
    · rw [hL] at li
      have LI:=Lib.hid li
      clear iw li
      have hl9:0 ≤ at_ ∧ 0 ≤ n ∧ at_ + n ≤ l.length:=of_decide_eq_true hL
      have hw9:n=1 ∨ n=2 ∨ n=4 ∨ n=8:=by simp [isW] at hW; omega
      obtain ⟨a,rfl⟩:=Int.eq_ofNat_of_zero_le hl9.1
      obtain ⟨m,rfl⟩:=Int.eq_ofNat_of_zero_le hl9.2.1
      have hmm:m ≤ 8:=by omega
      have ham:a + m ≤ l.length:=by omega
      clear hl9 hw9 h0 h1
      go_enter Tryz.func92,Tryz.ntmps92
      go_wp2_with (first
        | (go_at_call 130; refine IW.out.mono ?_; rintro e w' ⟨rfl,rfl⟩)
        | (go_at_call 131; refine LI.out.mono ?_; rintro e w' ⟨rfl,rfl⟩))
      go_loop [8,9,21] (fun v _ i => ∃ k:Nat,k ≤ m ∧ i=.int .i64 k ∧ v=.int .u64 (le ((l.drop a).take k):Int)) (fun _ _ i => m - (intOf i).toNat)
      case atStart => exact ⟨0,Nat.zero_le _,rfl,rfl⟩
      case round =>
        obtain ⟨k,hk,rfl,rfl⟩:=hrel
        by_cases hlt:k < m
        · obtain ⟨b,off,rfl,hc⟩:=hl.at_ (k:=a + k) (by omega)
          have hv:=le_lt ((l.drop a).take k)
          have hle:((l.drop a).take k).length=k:=by simp; omega
          rw [hle] at hv
          have hor:=u64_or _ k l[a + k] (by omega) hv
          have HOR:=Lib.hid hor
          clear hv hor
          go_wp2_with fail
          go_round
          case rel =>
            refine ⟨k + 1,by omega,by go_num,?_⟩
            have hlt2:k < (l.drop a).length:=by simp; omega
            rw [HOR.out,take_snoc (l.drop a) k hlt2,le_snoc,hle,List.getElem_drop]
          case measure => simp [intOf]; omega
        · go_wp2_with fail
          go_ret2
          obtain rfl:k=m:=by omega
          exact ⟨rfl,rfl⟩
theorem part_cut {w:World}{A:Option Addr}{cap:Nat}{l:List UInt8}(h:Bytes w A l)(hc:l.length ≤ cap)(a m:Nat):Bytes w (if cap=a then A else A.map (·.add a)) (Rec.part l a m):=(h.cut hc).take m
theorem part_length (l:List UInt8)(a m:Nat)(h:a + m ≤ l.length):(Rec.part l a m).length=m:=by simp [Rec.part]; omega
theorem zeros_part (A:Option Addr)(cap:Nat)(l:List UInt8)(a m:Nat)(w:World)(hl:Bytes w A l)(hc:l.length ≤ cap)(h:a + m ≤ l.length)(hm:l.length ≤ 140737488355328)(c:Nat) :
    Calls Tryz.prog 132 #[.slice (if cap=a then A else A.map (·.add a)) m c] w fun e w' => e=.returned (.bool (Rec.zeros (Rec.part l a m))) ∧ w=w':=by
  have:=zeros_any _ c (Rec.part l a m) w (part_cut hl hc a m) (by rw [part_length l a m h]; omega)
  rwa [part_length l a m h] at this
set_option maxHeartbeats 800000 in
theorem zero_any (A:Option Addr)(cap:Nat)(l:List UInt8)(at_ n:Int)(w:World)(hl:Bytes w A l)(hc:l.length ≤ cap)(hm:l.length ≤ 140737488355328)(h0 : -9223372036854775808 ≤ at_)(h1:at_ ≤ 9223372036854775807) :
    Calls Tryz.prog 93 #[.slice A l.length cap,.int .i64 at_,.int .i64 n] w fun e w' => e=.returned (.tuple #[.bool (zeroV l at_ n),.int .i64 (zeroE l.length at_ n)]) ∧ w=w':=by
  have li:=lie_any A l.length cap at_ n w hm h0 h1
  unfold zeroV zeroE
  by_cases hn:n < 0
  · rw [if_pos hn,if_pos hn]
    clear li
    go_enter Tryz.func93,Tryz.ntmps93
    go_wp2_with fail
    go_ret2
    exact ⟨rfl,rfl⟩
  · rw [if_neg hn,if_neg hn]
    cases hL:lies l.length at_ n
    · rw [hL] at li
      have LI:=Lib.hid li
      clear li
      go_enter Tryz.func93,Tryz.ntmps93
      go_wp2_with (go_at_call 131; refine LI.out.mono ?_; rintro e w' ⟨rfl,rfl⟩)
      go_ret2
      exact ⟨rfl,rfl⟩
    · rw [hL] at li
      have LI:=Lib.hid li
      clear li
      have hl9:0 ≤ at_ ∧ 0 ≤ n ∧ at_ + n ≤ l.length:=of_decide_eq_true hL
      obtain ⟨a,rfl⟩:=Int.eq_ofNat_of_zero_le hl9.1
      obtain ⟨m,rfl⟩:=Int.eq_ofNat_of_zero_le hl9.2.1
      have ham:a + m ≤ l.length:=by omega
      have zp:=zeros_part A cap l a m w hl hc ham hm
      obtain ⟨A3,hA3⟩:∃ A3,(if cap=a then A else Option.map (fun x => x.add a) A)=A3:=⟨_,rfl⟩
      rw [hA3] at zp
      have ZP:=Lib.hid zp
      clear hl9 h0 h1 zp hn
      go_enter Tryz.func93,Tryz.ntmps93
      go_wp2_with (first
        | (go_at_call 131; refine LI.out.mono ?_; rintro e w' ⟨rfl,rfl⟩)
        | (go_at_call 132; refine (ZP.out _).mono ?_; rintro e w' ⟨rfl,rfl⟩))
      go_ret2
      exact ⟨rfl,rfl⟩
def putL (l:List UInt8)(at_ n:Int)(v:Nat):List UInt8:=if putE l.length at_ n v=0 then spliced l at_.toNat (les v n.toNat) else l
theorem spliced_snoc (l:List UInt8)(a:Nat)(s:List UInt8)(b:UInt8)(h:a + s.length < l.length):spliced l a (s ++ [b])=(spliced l a s).set (a + s.length) b:=by
  unfold spliced
  have h1:(l.take a ++ s).length=a + s.length:=by simp; omega
  have h2:l.drop (a + s.length)=l[a + s.length] :: l.drop (a + (s ++ [b]).length):=by
    rw [List.drop_eq_getElem_cons h]; simp [Nat.add_assoc]
  rw [h2,List.set_append_right _ _ (by omega),h1]
  simp
theorem putL_length (l:List UInt8)(at_ n:Int)(v:Nat):(putL l at_ n v).length=l.length:=by
  unfold putL
  split
  · rename_i h
    unfold putE at h
    split at h
    · omega
    · split at h
      · omega
      · rename_i h2
        have h3:lies l.length at_ n=true:=by simpa using h2
        have h4:0 ≤ at_ ∧ 0 ≤ n ∧ at_ + n ≤ l.length:=of_decide_eq_true h3
        exact spliced_length _ _ _ (by rw [les_length]; omega)
  · rfl
theorem u8_byteAt (v k:Nat):IntKind.u8.wrap ((v:Int) / 2 ^ (8 * k))=n8 (byteAt v k):=by
  have e:((v:Int) / 2 ^ (8 * k))=((v / 256 ^ k:Nat):Int):=by
    rw [show (256:Nat) ^ k=2 ^ (8 * k) by rw [Nat.pow_mul]]
    push_cast; rfl
  rw [e]
  unfold byteAt n8
  rw [UInt8.toNat_ofNat']
  generalize v / 256 ^ k=x
  show (x:Int) % 256=_
  omega
set_option maxHeartbeats 1600000 in
theorem put_any (base:Nat)(A:Option Addr)(cap:Nat)(l m:List UInt8)(at_ n:Int)(v:Nat)(w:World)(hw:WidthsAt w)(hM:Mine w base A cap (l ++ m))(hm:l.length ≤ 140737488355328)(h0 : -9223372036854775808 ≤ at_)(h1:at_ ≤ 9223372036854775807)
    (hv:v < 18446744073709551616) :
    Calls Tryz.prog 94 #[.slice A l.length cap,.int .i64 at_,.int .i64 n,.int .u64 (v:Int)] w fun e w' =>
      e=.returned (.int .i64 (putE l.length at_ n v)) ∧ Mine w' base A cap (putL l at_ n v ++ m) ∧ w.grownBy w' (Value.slice A l.length cap).ownBlock:=by
  have HW:=Lib.hid hw
  have HM:=Lib.hid hM
  clear hw hM
  have iw:=isWidth_any n w HW.out
  have li:=lie_any A l.length cap at_ n w hm h0 h1
  cases hW:isW n
  · have e:putE l.length at_ n v=1:=by simp [putE,hW]
    have e2:putL l at_ n v=l:=by unfold putL; rw [e]; rfl
    rw [e,e2]
    rw [hW] at iw
    have IW:=Lib.hid iw
    clear iw li e e2
    go_enter Tryz.func94,Tryz.ntmps94
    go_wp2_with (go_at_call 130; refine IW.out.mono ?_; rintro e w' ⟨rfl,rfl⟩)
    go_ret
    exact ⟨rfl,HM.out,World.grownBy.refl _ _⟩
  · rw [hW] at iw
    have IW:=Lib.hid iw
    have hw9:n=1 ∨ n=2 ∨ n=4 ∨ n=8:=by simp [isW] at hW; omega
    obtain ⟨k9,rfl⟩:=Int.eq_ofNat_of_zero_le (a:=n) (by omega)
    have h8:k9 ≤ 8:=by omega
    have hpos:0 < k9:=by omega
    clear hw9
    by_cases hq:(k9:Int) < 8 ∧ v / 2 ^ (8 * k9) ≠ 0
    · have e:putE l.length at_ k9 v=1:=by unfold putE; rw [if_pos (.inr (by simpa using hq))]
      have e2:putL l at_ k9 v=l:=by unfold putL; rw [e]; rfl
      rw [e,e2]
      clear iw li e e2
      obtain ⟨q1,q2⟩:=hq
      have hq3:((v:Int) / 2 ^ (8 * k9) != 0)=true:=by
        have:((v:Int) / 2 ^ (8 * k9))=((v / 2 ^ (8 * k9):Nat):Int):=by push_cast; rfl
        rw [this]
        simp only [bne_iff_ne,ne_eq]
        omega
      clear q2
      go_enter Tryz.func94,Tryz.ntmps94
      go_wp2_with (go_at_call 130; refine IW.out.mono ?_; rintro e w' ⟨rfl,rfl⟩)
      go_ret
      exact ⟨rfl,HM.out,World.grownBy.refl _ _⟩
    · by_cases h88:(k9:Int) < 8
      · have hq0:v / 2 ^ (8 * k9)=0:=by by_cases h:v / 2 ^ (8 * k9)=0; exact h; exact absurd ⟨h88,h⟩ hq
        have hq3:((v:Int) / 2 ^ (8 * k9) != 0)=false:=by
          have:((v:Int) / 2 ^ (8 * k9))=((v / 2 ^ (8 * k9):Nat):Int):=by push_cast; rfl
          rw [this,hq0]; rfl
        clear hq0
        cases hL:lies l.length at_ k9
        · have e:putE l.length at_ k9 v=20:=by unfold putE; rw [if_neg (by simpa [hW] using hq),if_pos hL]
          have e2:putL l at_ k9 v=l:=by unfold putL; rw [e]; rfl
          rw [e,e2]
          rw [hL] at li
          have LI:=Lib.hid li
          clear iw li e e2 hq hL
          skip
          go_enter Tryz.func94,Tryz.ntmps94
          go_wp2_with (first
            | (go_at_call 130; refine IW.out.mono ?_; rintro e w' ⟨rfl,rfl⟩)
            | (go_at_call 131; refine LI.out.mono ?_; rintro e w' ⟨rfl,rfl⟩))
          go_ret
          exact ⟨rfl,HM.out,World.grownBy.refl _ _⟩
        · have e:putE l.length at_ k9 v=0:=by unfold putE; rw [if_neg (by simpa [hW] using hq),if_neg (by simp [hL])]
          have hl9:0 ≤ at_ ∧ 0 ≤ (k9:Int) ∧ at_ + k9 ≤ l.length:=of_decide_eq_true hL
          have e2:putL l at_ k9 v=spliced l at_.toNat (les v k9):=by unfold putL; rw [e]; rfl
          rw [e,e2]
          rw [hL] at li
          have LI:=Lib.hid li
          obtain ⟨a,rfl⟩:=Int.eq_ofNat_of_zero_le hl9.1
          have ham:a + k9 ≤ l.length:=by omega
          obtain ⟨g,rfl,hbg,hgl⟩:=HM.out.form (by simp; omega)
          clear iw li e e2 hq hL hl9 h0 h1
          skip
          go_enter Tryz.func94,Tryz.ntmps94
          go_wp2_with (first
            | (go_at_call 130; refine IW.out.mono ?_; rintro e w' ⟨rfl,rfl⟩)
            | (go_at_call 131; refine LI.out.mono ?_; rintro e w' ⟨rfl,rfl⟩))
          go_loopw [9,32] (fun _ i wr => ∃ k:Nat,k ≤ k9 ∧ i=.int .i64 k ∧ Mine wr base (some ⟨g,0,none⟩) cap (spliced l a (les v k) ++ m) ∧ w.grownBy wr (some g)) (fun _ i _ => k9 - (intOf i).toNat)
          case atStart => exact ⟨0,Nat.zero_le _,rfl,by rw [show les v 0=[] from rfl,spliced_nil]; exact HM.out,World.grownBy.refl _ _⟩
          case round =>
            obtain ⟨k,hk,rfl,hM,hG⟩:=hrel
            by_cases hlt:k < k9
            · have hsl:(spliced l a (les v k)).length=l.length:=spliced_length _ _ _ (by rw [les_length]; omega)
              have hc:=hM.cell (k:=a + k) (by simp; omega)
              have hf:=hM.free (a + k)
              have hb:=u8_byteAt v k
              have hML:=Lib.hid hM
              clear hM
              go_wp2_with fail
              go_roundw
              case rel =>
                refine ⟨k + 1,by omega,by go_num,?_,grown_trans hG (grown_setCell _ _ _ _)⟩
                have:=hML.out.put (a + k) (byteAt v k)
                rw [List.set_append_left _ _ (by omega)] at this
                rw [les_succ,spliced_snoc _ _ _ _ (by rw [les_length]; omega),les_length]
                exact this
              case measure => simp [intOf]; omega
            · go_wp2_with fail
              go_ret
              obtain rfl:k=k9:=by omega
              exact ⟨rfl,hM,hG⟩
      · skip
        cases hL:lies l.length at_ k9
        · have e:putE l.length at_ k9 v=20:=by unfold putE; rw [if_neg (by simpa [hW] using hq),if_pos hL]
          have e2:putL l at_ k9 v=l:=by unfold putL; rw [e]; rfl
          rw [e,e2]
          rw [hL] at li
          have LI:=Lib.hid li
          clear iw li e e2 hq hL
          skip
          go_enter Tryz.func94,Tryz.ntmps94
          go_wp2_with (first
            | (go_at_call 130; refine IW.out.mono ?_; rintro e w' ⟨rfl,rfl⟩)
            | (go_at_call 131; refine LI.out.mono ?_; rintro e w' ⟨rfl,rfl⟩))
          go_ret
          exact ⟨rfl,HM.out,World.grownBy.refl _ _⟩
        · have e:putE l.length at_ k9 v=0:=by unfold putE; rw [if_neg (by simpa [hW] using hq),if_neg (by simp [hL])]
          have hl9:0 ≤ at_ ∧ 0 ≤ (k9:Int) ∧ at_ + k9 ≤ l.length:=of_decide_eq_true hL
          have e2:putL l at_ k9 v=spliced l at_.toNat (les v k9):=by unfold putL; rw [e]; rfl
          rw [e,e2]
          rw [hL] at li
          have LI:=Lib.hid li
          obtain ⟨a,rfl⟩:=Int.eq_ofNat_of_zero_le hl9.1
          have ham:a + k9 ≤ l.length:=by omega
          obtain ⟨g,rfl,hbg,hgl⟩:=HM.out.form (by simp; omega)
          clear iw li e e2 hq hL hl9 h0 h1
          skip
          go_enter Tryz.func94,Tryz.ntmps94
          go_wp2_with (first
            | (go_at_call 130; refine IW.out.mono ?_; rintro e w' ⟨rfl,rfl⟩)
            | (go_at_call 131; refine LI.out.mono ?_; rintro e w' ⟨rfl,rfl⟩))
          go_loopw [9,32] (fun _ i wr => ∃ k:Nat,k ≤ k9 ∧ i=.int .i64 k ∧ Mine wr base (some ⟨g,0,none⟩) cap (spliced l a (les v k) ++ m) ∧ w.grownBy wr (some g)) (fun _ i _ => k9 - (intOf i).toNat)
          case atStart => exact ⟨0,Nat.zero_le _,rfl,by rw [show les v 0=[] from rfl,spliced_nil]; exact HM.out,World.grownBy.refl _ _⟩
          case round =>
            obtain ⟨k,hk,rfl,hM,hG⟩:=hrel
            by_cases hlt:k < k9
            · have hsl:(spliced l a (les v k)).length=l.length:=spliced_length _ _ _ (by rw [les_length]; omega)
              have hc:=hM.cell (k:=a + k) (by simp; omega)
              have hf:=hM.free (a + k)
              have hb:=u8_byteAt v k
              have hML:=Lib.hid hM
              clear hM
              go_wp2_with fail
              go_roundw
              case rel =>
                refine ⟨k + 1,by omega,by go_num,?_,grown_trans hG (grown_setCell _ _ _ _)⟩
                have:=hML.out.put (a + k) (byteAt v k)
                rw [List.set_append_left _ _ (by omega)] at this
                rw [les_succ,spliced_snoc _ _ _ _ (by rw [les_length]; omega),les_length]
                exact this
              case measure => simp [intOf]; omega
            · go_wp2_with fail
              go_ret
              obtain rfl:k=k9:=by omega
              exact ⟨rfl,hM,hG⟩
end Go.Proofs.YthkijogloebdoaaGreatDoor
end
section
namespace Go.Proofs.YthkijogloebdoaaGreatDoor
open Go.RowKit Rec
def putTextL (l:List UInt8)(at_ n:Int)(s:List UInt8):List UInt8:=if putTextE l.length at_ n s=0 then spliced l at_.toNat (s ++ List.replicate (n.toNat - s.length) 0) else l
theorem spliced_spliced (l:List UInt8)(a:Nat)(s t:List UInt8)(h:a + s.length + t.length ≤ l.length):spliced (spliced l a s) (a + s.length) t=spliced l a (s ++ t):=by
  unfold spliced
  have h1:(l.take a ++ s).length=a + s.length:=by simp; omega
  rw [List.take_append_of_le_length (by omega),List.take_of_length_le (by omega)]
  have h2:(l.take a ++ s ++ l.drop (a + s.length)).drop (a + s.length + t.length)=l.drop (a + (s ++ t).length):=by
    rw [List.drop_append,h1,List.drop_eq_nil_of_le (by omega),List.nil_append,List.drop_drop]
    congr 1; simp; omega
  rw [h2]; simp
theorem spliced_left (l m:List UInt8)(a:Nat)(t:List UInt8)(h:a + t.length ≤ l.length):spliced (l ++ m) a t=spliced l a t ++ m:=by
  unfold spliced
  rw [List.take_append_of_le_length (by omega),List.drop_append_of_le_length (by omega)]
  simp
theorem own_len {A:Option Addr}{cap len:Nat}(len' cap':Nat):(Value.slice A len cap).ownBlock=(Value.slice A len' cap').ownBlock:=by cases A <;> rfl
set_option maxHeartbeats 1600000 in
set_option maxRecDepth 100000 in
theorem putText_any (base:Nat)(A:Option Addr)(cap:Nat)(l m:List UInt8)(at_ n:Int)(s:List UInt8)(w:World)(hM:Mine w base A cap (l ++ m))(hbw:base ≤ w.heap.size)(hm:l.length ≤ 140737488355328)(hs:s.length ≤ 140737488355328)(h0 : -9223372036854775808 ≤ at_)(h1:at_ ≤ 9223372036854775807) :
    Calls Tryz.prog 116 #[.slice A l.length cap,.int .i64 at_,.int .i64 n,.string ⟨s.toArray⟩] w fun e w' =>
      e=.returned (.int .i64 (putTextE l.length at_ n s)) ∧ Mine w' base A cap (putTextL l at_ n s ++ m) ∧ w.grownBy w' (Value.slice A l.length cap).ownBlock:=by
  have HM:=Lib.hid hM
  clear hM
  have hss:(⟨s.toArray⟩:ByteArray).size=s.length:=rfl
  by_cases b1:n < 0
  · have e:putTextE l.length at_ n s=1:=by unfold putTextE; rw [if_pos (.inl b1)]
    have e2:putTextL l at_ n s=l:=by unfold putTextL; rw [e]; rfl
    rw [e,e2]
    clear e e2
    go_enter Tryz.func116,Tryz.ntmps116
    go_wp2_with fail
    go_ret
    exact ⟨rfl,HM.out,World.grownBy.refl _ _⟩
  by_cases b2:n < (s.length:Int)
  · have e:putTextE l.length at_ n s=1:=by unfold putTextE; rw [if_pos (.inr (.inl b2))]
    have e2:putTextL l at_ n s=l:=by unfold putTextL; rw [e]; rfl
    rw [e,e2]
    clear e e2
    go_enter Tryz.func116,Tryz.ntmps116
    go_wp2_with fail
    go_ret
    exact ⟨rfl,HM.out,World.grownBy.refl _ _⟩
  obtain ⟨c2,w2,hrun,hb2,hB2⟩:=text_bytes w s
  have hg2:w.grownBy w2 (Value.slice A l.length cap).ownBlock:=⟨hB2.os,hB2.tape,hB2.output,hB2.size,fun i hi _ => hB2.block i hi⟩
  have HM2:=Lib.hid (HM.out.later hB2)
  have HB2:=Lib.hid hb2
  clear hB2 hb2
  by_cases b3:Rec.ahead s < s.length
  · have e:putTextE l.length at_ n s=1:=by unfold putTextE; rw [if_pos (.inr (.inr b3))]
    have e2:putTextL l at_ n s=l:=by unfold putTextL; rw [e]; rfl
    rw [e,e2]
    clear e e2
    go_enter Tryz.func116,Tryz.ntmps116
    go_wp2_with (go_at_call 148; refine (ahead_any _ _ s _ HB2.out hs).mono ?_; rintro e w' ⟨rfl,rfl⟩)
    go_ret
    exact ⟨rfl,HM2.out,hg2⟩
  have li:=lie_any A l.length cap at_ n w2 hm h0 h1
  cases hL:lies l.length at_ n
  · have e:putTextE l.length at_ n s=20:=by unfold putTextE; rw [if_neg (by omega),if_pos hL]
    have e2:putTextL l at_ n s=l:=by unfold putTextL; rw [e]; rfl
    rw [e,e2]
    rw [hL] at li
    have LI:=Lib.hid li
    clear e e2 li
    go_enter Tryz.func116,Tryz.ntmps116
    go_wp2_with (first
      | (go_at_call 148; refine (ahead_any _ _ s _ HB2.out hs).mono ?_; rintro e w' ⟨rfl,rfl⟩)
      | (go_at_call 131; refine LI.out.mono ?_; rintro e w' ⟨rfl,rfl⟩))
    go_ret
    exact ⟨rfl,HM2.out,hg2⟩
  · have e:putTextE l.length at_ n s=0:=by unfold putTextE; rw [if_neg (by omega),if_neg (by simp [hL])]
    have e2:putTextL l at_ n s=spliced l at_.toNat (s ++ List.replicate (n.toNat - s.length) 0):=by unfold putTextL; rw [e]; rfl
    have hl9:0 ≤ at_ ∧ 0 ≤ n ∧ at_ + n ≤ l.length:=of_decide_eq_true hL
    rw [e,e2]
    rw [hL] at li
    have LI:=Lib.hid li
    obtain ⟨a,rfl⟩:=Int.eq_ofNat_of_zero_le hl9.1
    obtain ⟨k,rfl⟩:=Int.eq_ofNat_of_zero_le hl9.2.1
    have ham:a + k ≤ l.length:=by omega
    have hsk:s.length ≤ k:=by omega
    have hcap:=HM.out.cap_le.1
    rw [List.length_append] at hcap
    clear e e2 li hl9 h0 h1 b1 b2
    obtain ⟨A3,hA3⟩:∃ A3,(if cap=a then A else Option.map (fun x => x.add a) A)=A3:=⟨_,rfl⟩
    obtain ⟨c,hc⟩:∃ c,a + s.length=c:=⟨_,rfl⟩
    have hwr:IntKind.i64.wrap ((a:Int) + (s.length:Int))=(c:Int):=by rw [IntWalk.i64_in _ (by omega)]; omega
    have hca:c ≤ a + k:=by omega
    obtain ⟨A4,hA4⟩:∃ A4,(if cap=c then A else Option.map (fun x => x.add c) A)=A4:=⟨_,rfl⟩
    have hfit1:a + s.length ≤ (l ++ m).length:=by simp; omega
    have hfit2:c + (a + k - c) ≤ (spliced (l ++ m) a s).length:=by rw [spliced_length _ _ _ hfit1]; simp; omega
    go_enter Tryz.func116,Tryz.ntmps116
    go_wp2_with (first
      | (go_at_call 148; refine (ahead_any _ _ s _ HB2.out hs).mono ?_; rintro e w' ⟨rfl,rfl⟩)
      | (go_at_call 131; refine LI.out.mono ?_; rintro e w' ⟨rfl,rfl⟩)
      | (refine wpList_copy_text rfl (.tmp 38) (.tmp 39) rfl base A cap (l ++ m) HM2.out a A3 _ _ rfl hA3 s rfl (by omega) hfit1 ?_; intro w5 hM5 hg5)
      | (refine wpList_clear_u8 rfl (.tmp 48) rfl base A cap (spliced (l ++ m) a s) hM5 c A4 (a + k - c) _ rfl hA4 hfit2 ?_; intro w6 hM6 hg6))
    go_ret
    subst hc
    have hn:a + k - (a + s.length)=k - s.length:=by omega
    rw [hn,spliced_spliced _ _ _ _ (by simp; omega),spliced_left _ _ _ _ (by simp; omega)] at hM6
    rw [own_len l.length cap] at hg5 hg6
    exact ⟨rfl,hM6,grown_trans hg2 (grown_trans hg5 hg6)⟩
end Go.Proofs.YthkijogloebdoaaGreatDoor
end
section
namespace Go.Proofs.YthkijogloebdoaaGreatDoor
open Go.RowKit
structure Keeps (S:Nat → Prop)(w w':World):Prop where
  os:w'.os=w.os
  tape:w'.tape=w.tape
  output:w'.output=w.output
  size:w.heap.size ≤ w'.heap.size
  block:∀ k,k < w.heap.size → ¬ S k → w'.heap[k]? = w.heap[k]?
def Of (A:Option Addr)(i:Nat):Prop:=A=some ⟨i,0,none⟩
section
variable {w w' w2 w3:World}{S T:Nat → Prop}{base cap:Nat}{A B:Option Addr}{l:List UInt8}
theorem Keeps.refl (S:Nat → Prop)(w:World):Keeps S w w:=⟨rfl,rfl,rfl,Nat.le_refl _,fun _ _ _ => rfl⟩
theorem Keeps.trans (h:Keeps S w w2)(k:Keeps S w2 w3):Keeps S w w3 :=
  ⟨k.os.trans h.os,k.tape.trans h.tape,k.output.trans h.output,Nat.le_trans h.size k.size,fun i hi hs => (k.block i (Nat.lt_of_lt_of_le hi h.size) hs).trans (h.block i hi hs)⟩
theorem Keeps.mono (h:Keeps S w w2)(hs:∀ i,S i → T i):Keeps T w w2:=⟨h.os,h.tape,h.output,h.size,fun i hi ht => h.block i hi (fun s => ht (hs i s))⟩
theorem Keeps.of_below (h:Below w.heap.size w w2):Keeps S w w2:=⟨h.os,h.tape,h.output,h.size,fun i hi _ => h.block i hi⟩
theorem Keeps.below {b:Nat}(h:Keeps S w w2)(hb:b ≤ w.heap.size)(hs:∀ i,S i → b ≤ i):Below b w w2 :=
  ⟨h.os,h.tape,h.output,h.size,fun i hi => h.block i (by omega) (fun s => by have:=hs i s; omega)⟩
theorem Mine.shape (h:Mine w base A cap l):A=none ∨ ∃ g,A=some ⟨g,0,none⟩:=by
  rcases h.2 with ⟨hv,_⟩ | ⟨g,cap',cur,hv,_⟩
  · injection hv with hA; exact .inl hA
  · injection hv with hA; exact .inr ⟨g,hA⟩
theorem Mine.keeps (h:Mine w base A cap l)(k:Keeps S w w2)(hn:∀ i,Of A i → ¬ S i):Mine w2 base A cap l:=h.kept fun g hg => k.block g (h.lt g hg) (hn g hg)
theorem Is.keeps {g:Nat}{t:TypeId}{cs:Array Value}(h:Is w g t cs)(k:Keeps S w w2)(hn:¬ S g):Is w2 g t cs:=(k.block g h.lt hn).trans h
theorem Keeps.of_grown {n c:Nat}(hs:A=none ∨ ∃ g,A=some ⟨g,0,none⟩)(h:w.grownBy w2 (Value.slice A n c).ownBlock):Keeps (Of A) w w2:=by
  refine ⟨h.os,h.tape,h.output,h.size,fun i hi hn => h.block i hi fun e => ?_⟩
  rcases hs with rfl | ⟨g,rfl⟩
  · cases e
  · injection e with e; subst e; exact hn rfl
theorem Keeps.of_mine {n c:Nat}(hM:Mine w base A cap l)(h:w.grownBy w2 (Value.slice A n c).ownBlock):Keeps (Of A) w w2:=Keeps.of_grown hM.shape h
theorem Mine.of_ge (h:Mine w base A cap l)(i:Nat)(ha:Of A i):base ≤ i:=h.ge i ha
end
end Go.Proofs.YthkijogloebdoaaGreatDoor
end
section
namespace Go.Proofs.YthkijogloebdoaaGreatDoor
open Go.RowKit Rec
theorem lies_mid (a m z:List UInt8):lies (a ++ m ++ z).length a.length m.length=true:=by simp [lies]; omega
theorem part_mid (a m z:List UInt8):Rec.part (a ++ m ++ z) a.length m.length=m:=by simp [Rec.part]
theorem spliced_mid (a m z s:List UInt8)(h:s.length=m.length):spliced (a ++ m ++ z) a.length s=a ++ s ++ z:=by
  unfold spliced
  rw [h]
  simp [List.append_assoc]
theorem put_to (base:Nat)(A:Option Addr)(cap:Nat)(l:List UInt8)(len:Nat)(hl:l.length=len)(at_ n:Int)(v:Nat)(E:Int)(L:List UInt8)(hE:putE l.length at_ n v=E)(hL:putL l at_ n v=L)
    (w:World)(hw:WidthsAt w)(hM:Mine w base A cap l)(hm:len ≤ 140737488355328)(h0 : -9223372036854775808 ≤ at_)(h1:at_ ≤ 9223372036854775807)(hv:v < 18446744073709551616) :
    Calls Tryz.prog 94 #[.slice A len cap,.int .i64 at_,.int .i64 n,.int .u64 (v:Int)] w fun e w' => e=.returned (.int .i64 E) ∧ Mine w' base A cap L ∧ Keeps (Of A) w w':=by
  subst hl
  subst hE
  subst hL
  refine (put_any base A cap l [] at_ n v w hw (by rw [List.append_nil]; exact hM) hm h0 h1 hv).mono ?_
  rintro e w' ⟨rfl,h2,h3⟩
  rw [List.append_nil] at h2
  exact ⟨rfl,h2,Keeps.of_mine hM h3⟩
theorem get_to (A:Option Addr)(cap:Nat)(l:List UInt8)(len:Nat)(hl:l.length=len)(at_ n:Int)(V:Nat)(E:Int)(hV:getV l at_ n=V)(hE:getE l.length at_ n=E)
    (w:World)(hw:WidthsAt w)(hb:Bytes w A l)(hm:len ≤ 140737488355328)(h0 : -9223372036854775808 ≤ at_)(h1:at_ ≤ 9223372036854775807) :
    Calls Tryz.prog 92 #[.slice A len cap,.int .i64 at_,.int .i64 n] w fun e w' => e=.returned (.tuple #[.int .u64 (V:Int),.int .i64 E]) ∧ w=w':=by
  subst hl
  subst hE
  subst hV
  exact get_any A cap l at_ n w hw hb hm h0 h1
theorem putE_lie (len:Nat)(at_:Int)(n v:Nat)(hW:isW n=true)(hv:n=8 ∨ v < 256 ^ n)(hl:lies len at_ n=false):putE len at_ n v=20:=by
  unfold putE
  rw [if_neg,if_pos hl]
  rintro (h | ⟨h1,h2⟩)
  · rw [hW] at h; cases h
  · rcases hv with hv | hv
    · subst hv; omega
    · rw [show (256:Nat) ^ n=2 ^ (8 * n) by rw [Nat.pow_mul]] at hv
      exact h2 (by rw [Int.toNat_natCast]; exact Nat.div_eq_of_lt hv)
theorem putE_ok (len:Nat)(at_:Int)(n v:Nat)(hW:isW n=true)(hv:n=8 ∨ v < 256 ^ n)(hl:lies len at_ n=true):putE len at_ n v=0:=by
  unfold putE
  rw [if_neg,if_neg (by rw [hl]; simp)]
  rintro (h | ⟨h1,h2⟩)
  · rw [hW] at h; cases h
  · rcases hv with hv | hv
    · subst hv; omega
    · rw [show (256:Nat) ^ n=2 ^ (8 * n) by rw [Nat.pow_mul]] at hv
      exact h2 (by rw [Int.toNat_natCast]; exact Nat.div_eq_of_lt hv)
theorem put_mid (a z:List UInt8)(n v:Nat)(hW:isW n=true)(hv:n=8 ∨ v < 256 ^ n)(m:List UInt8)(hm:m.length=n) :
    putE (a ++ m ++ z).length a.length n v=0 ∧ putL (a ++ m ++ z) a.length n v=a ++ les v n ++ z:=by
  have h1:putE (a ++ m ++ z).length a.length n v=0:=putE_ok _ _ n v hW hv (by rw [← hm]; exact lies_mid a m z)
  refine ⟨h1,?_⟩
  unfold putL
  rw [if_pos h1]
  exact spliced_mid a m z (les v n) (by rw [les_length,hm])
def Full (L:List UInt8):Prop := ∀ x ∈ L,x ≠ 0
theorem Full.ahead {L:List UInt8}(h:Full L):Rec.ahead L=L.length:=ahead_all L fun j hj => h _ (List.getElem_mem hj)
theorem part_of (P q Z:List UInt8)(p n:Nat)(hp:P.length=p)(hn:q.length=n):lies (P ++ q ++ Z).length p n=true ∧ Rec.part (P ++ q ++ Z) p n=q:=by
  subst hp
  subst hn
  exact ⟨lies_mid P q Z,part_mid P q Z⟩
theorem putText_mid (P q L Z:List UInt8)(M p n:Nat)(hf:Full L)(hp:P.length=p)(hq:q.length=n)(hn:L.length + M=n) :
    putTextE (P ++ q ++ Z).length p n L=0 ∧ putTextL (P ++ q ++ Z) p n L=P ++ (L ++ List.replicate M 0) ++ Z:=by
  obtain ⟨h1,h2⟩:=part_of P q Z p n hp hq
  have h0:putTextE (P ++ q ++ Z).length p n L=0:=by
    unfold putTextE
    rw [if_neg (by rw [hf.ahead]; omega),if_neg (by rw [h1]; simp)]
  refine ⟨h0,?_⟩
  unfold putTextL
  rw [if_pos h0]
  subst hp
  have e:(n:Int).toNat - L.length=M:=by omega
  rw [e]
  exact spliced_mid P q Z _ (by simp; omega)
theorem putText_to (base:Nat)(A:Option Addr)(cap:Nat)(l:List UInt8)(len:Nat)(hl:l.length=len)(at_ n:Int)(s:List UInt8)(E:Int)(L:List UInt8)(hE:putTextE l.length at_ n s=E)(hL:putTextL l at_ n s=L)
    (w:World)(hM:Mine w base A cap l)(hbw:base ≤ w.heap.size)(hm:len ≤ 140737488355328)(hs:s.length ≤ 140737488355328)(h0 : -9223372036854775808 ≤ at_)(h1:at_ ≤ 9223372036854775807) :
    Calls Tryz.prog 116 #[.slice A len cap,.int .i64 at_,.int .i64 n,.string ⟨s.toArray⟩] w fun e w' => e=.returned (.int .i64 E) ∧ Mine w' base A cap L ∧ Keeps (Of A) w w':=by
  subst hl
  subst hE
  subst hL
  refine (putText_any base A cap l [] at_ n s w (by rw [List.append_nil]; exact hM) hbw hm hs h0 h1).mono ?_
  rintro e w' ⟨rfl,h2,h3⟩
  rw [List.append_nil] at h2
  exact ⟨rfl,h2,Keeps.of_mine hM h3⟩
end Go.Proofs.YthkijogloebdoaaGreatDoor
end
section
namespace Go.Proofs.YthkijogloebdoaaGreatDoor
open Go.RowKit Rec
namespace Hd
def magic:List UInt8 := [66,79,76,69,76,79,71,49]
def pre (n:Nat):List UInt8:=magic ++ les n 2 ++ [0,0]
def mid (nums:List Nat):List UInt8:=nums.flatMap fun i => les i 4
def rest (nums:List Nat):List UInt8:=mid nums ++ List.replicate (496 - 4 * nums.length) 0
def hd (nums:List Nat)(s:Nat):List UInt8:=pre nums.length ++ les s 4 ++ rest nums
def st (n:Nat)(nums:List Nat):List UInt8:=pre n ++ [0,0,0,0] ++ rest nums
theorem pre_length (n:Nat):(pre n).length=12:=by simp [pre,magic,les_length]
theorem mid_length (nums:List Nat):(mid nums).length=4 * nums.length:=by
  induction nums with
  | nil => rfl
  | cons i nums ih => show (les i 4 ++ mid nums).length=_; rw [List.length_append,les_length,ih,List.length_cons]; omega
theorem rest_length {nums:List Nat}(h:nums.length ≤ 96):(rest nums).length=496:=by simp [rest,mid_length]; omega
theorem hd_length {nums:List Nat}(h:nums.length ≤ 96)(s:Nat):(hd nums s).length=512:=by simp [hd,pre_length,les_length,rest_length h]
theorem st_length {nums:List Nat}(h:nums.length ≤ 96)(n:Nat):(st n nums).length=512:=by simp [st,pre_length,rest_length h]
theorem les_zero (n:Nat):les 0 n=List.replicate n 0:=by
  unfold les
  refine List.ext_getElem (by simp) fun i h1 h2 => ?_
  simp [byteAt]
theorem st_hd (nums:List Nat):st nums.length nums=hd nums 0:=by
  unfold st hd
  rw [les_zero]
  rfl
theorem zero_is:(List.replicate 512 0:List UInt8)=([] ++ List.replicate 8 0) ++ List.replicate 504 0:=by rw [List.nil_append,List.replicate_append_replicate]
theorem put_magic:putTextE (List.replicate 512 0:List UInt8).length 0 8 magic=0 ∧ putTextL (List.replicate 512 0) 0 8 magic=magic ++ List.replicate 504 0:=by
  have h:=putText_mid [] (List.replicate 8 0) magic (List.replicate 504 0) 0 0 8 (by unfold Go.Proofs.YthkijogloebdoaaGreatDoor.Full; decide) rfl rfl rfl
  have z:([]:List UInt8) ++ List.replicate 8 0 ++ List.replicate 504 0=List.replicate 512 0:=zero_is.symm
  rw [z] at h
  exact ⟨h.1,h.2.trans (by rw [List.nil_append,List.replicate_zero,List.append_nil])⟩
theorem put_many (n:Nat)(hn:n < 65536):putE (magic ++ List.replicate 504 0).length 8 2 n=0 ∧ putL (magic ++ List.replicate 504 0) 8 2 n=st n []:=by
  have h:=put_mid magic (List.replicate 502 0) 2 n (by decide) (.inr (by show n < 65536; exact hn)) (List.replicate 2 0) (by simp)
  have e:magic ++ List.replicate 2 0 ++ List.replicate 502 0=magic ++ List.replicate 504 0:=by rw [List.append_assoc,List.replicate_append_replicate]
  rw [e] at h
  refine ⟨h.1,h.2.trans ?_⟩
  have e2:(List.replicate 502 0:List UInt8)=[0,0] ++ [0,0,0,0] ++ List.replicate 496 0:=by
    rw [show (502:Nat)=2 + 4 + 496 from rfl,← List.replicate_append_replicate,← List.replicate_append_replicate]
    rfl
  rw [e2]
  unfold st pre rest
  simp only [List.append_assoc,mid,List.flatMap_nil,List.nil_append,List.length_nil,Nat.mul_zero,Nat.sub_zero]
theorem put_num (n:Nat)(nums:List Nat)(v:Nat)(hk:nums.length < 96)(hv:v < 4294967296) :
    putE (st n nums).length ((16 + 4 * nums.length:Nat):Int) 4 v=0 ∧ putL (st n nums) ((16 + 4 * nums.length:Nat):Int) 4 v=st n (nums ++ [v]):=by
  have h:=put_mid (pre n ++ [0,0,0,0] ++ mid nums) (List.replicate (492 - 4 * nums.length) 0) 4 v (by decide) (.inr hv) (List.replicate 4 0) (by simp)
  have hl:(pre n ++ [0,0,0,0] ++ mid nums).length=16 + 4 * nums.length:=by simp [pre_length,mid_length]; omega
  have e:pre n ++ [0,0,0,0] ++ mid nums ++ List.replicate 4 0 ++ List.replicate (492 - 4 * nums.length) 0=st n nums:=by
    unfold st rest
    rw [List.append_assoc _ (List.replicate 4 0),List.replicate_append_replicate,show 4 + (492 - 4 * nums.length)=496 - 4 * nums.length by omega]
    simp only [List.append_assoc]
  rw [e,hl] at h
  refine ⟨h.1,h.2.trans ?_⟩
  unfold st rest mid
  rw [List.flatMap_append,List.length_append,show 496 - 4 * (nums.length + [v].length)=492 - 4 * nums.length by simp only [List.length_singleton]; omega]
  simp only [List.append_assoc,List.flatMap_cons,List.flatMap_nil,List.append_nil]
theorem put_sum (nums:List Nat)(t s:Nat)(hs:s < 4294967296):putE (hd nums t).length 12 4 s=0 ∧ putL (hd nums t) 12 4 s=hd nums s:=by
  have h:=put_mid (pre nums.length) (rest nums) 4 s (by decide) (.inr hs) (les t 4) (les_length _ _)
  rw [pre_length] at h
  exact h
def sumS (h:List UInt8)(data:List (List UInt8)):BitVec 32:=data.foldl (fun s p => Crc.zeros p.length s ^^^ Crc.crc p) (Crc.crc h)
def made (nums:List Nat)(data:List (List UInt8)):List UInt8:=hd nums (sumS (hd nums 0) data).toNat
theorem made_length {nums:List Nat}(h:nums.length ≤ 96)(data:List (List UInt8)):(made nums data).length=512:=hd_length h _
end Hd
end Go.Proofs.YthkijogloebdoaaGreatDoor
end
