/-
  WholeFiles, the texts Ix Iy Pna Ba: lemmas for the proof that three files on one disk are plain rows of bytes. No conditions.
-/
import Derived.Test.YthkijogloebdoaaGreatDoorM11
import Derived.Test.YthkijogloebdoaaGreatDoorM02
import Derived.Test.YthkijogloebdoaaGreatDoorM09
import Derived.Test.YthkijogloebdoaaGreatDoorM10
set_option linter.unusedVariables false
set_option linter.unusedSimpArgs false
section
namespace Go.Proofs.YthkijogloebdoaaGreatDoor
open Go.RowKit Rec
def nil64:List UInt8:=List.replicate 64 0
theorem nil64_len:nil64.length=64:=by unfold nil64; exact List.length_replicate ..
theorem made_64:madeCells #[(.int .u8 0:Value)] 64=u8s nil64:=by kernel_rfl
theorem run_make64 (w:World):(Instr.makeSlice 28 (.int .i64 64) (.int .i64 64)).run Tryz.prog w=.ok (.slice (some ⟨w.heap.size,0,none⟩) 64 64) (w.alloc (.cells (u8s nil64) 5)):=by
  have:=run_make_row' (P:=Tryz.prog) 28 5 (.int .u8 0) 1 Tryz.underlying28 infoU8 rfl .i64 .i64 64 (by decide) (by decide) w
  rw [made_64] at this
  exact this
theorem rput_at (g cap len:Nat)(l:List UInt8)(hlen:l.length=len)(a k v:Nat)(a9 k9 v9:Int)(ha:a9=(a:Int))(hk:k9=(k:Int))(hv9:v9=(v:Int))(w:World)(hw:WidthsAt w)(hM:Rw w g l)(hW:isW (k:Int)=true)(h88:(k:Int) < 8)(hv:v < 256 ^ k)(ham:a + k ≤ len)(hm:len ≤ 140737488355328) :
    Calls Tryz.prog 94 #[.slice (some ⟨g,0,none⟩) len cap,.int .i64 a9,.int .i64 k9,.int .u64 v9] w fun e w' =>
      e=.returned (.int .i64 0) ∧ Rw w' g (spliced l a (les v k)) ∧ Keeps (·=g) w w':=by
  subst ha hk hv9
  exact rput_any g cap len l hlen a k v w hw hM hW h88 hv ham hm
theorem u64_in (n:Nat)(h:n ≤ 9223372036854775807):IntKind.u64.wrap (n:Int)=(n:Int):=IntWalk.u64_in _ (by omega)
set_option maxRecDepth 100000 in
set_option maxHeartbeats 1600000 in
theorem encode_any (x:Ino)(h:x.Ok)(w:World)(hw:WidthsAt w):Calls Tryz.prog 56 #[.agg x.C] w fun e w' =>
    (∃ g,e=.returned (.tuple #[.slice (some ⟨g,0,none⟩) 64 64,.int .i64 0]) ∧ Rw w' g (encN x 12) ∧ w.heap.size ≤ g) ∧ Below w.heap.size w w':=by
  obtain ⟨hb0,i0⟩:=one_new w x.C 44
  obtain ⟨W,hW⟩:∃ W,w.alloc (.cells x.C 44)=W:=⟨_,rfl⟩
  rw [hW] at hb0 i0
  have HB0:=Lib.hid hb0
  have HI0:=Lib.hid i0
  have HO:=Lib.hid h
  have hwl:=hw.lt
  have HW:=Lib.hid hw
  have hk2:x.kind ≤ 2:=by have:=h.sort; omega
  have hl0:=h.links
  have hs0:=h.size
  have uk:=u64_in x.kind (by omega)
  have ul:=u64_in x.links (by omega)
  have us:=u64_in x.size (by omega)
  have hmk:=run_make64
  clear hb0 i0 h hw
  go_enter Tryz.func56,Tryz.ntmps56
  go_wp2_with (first
    | (refine wpList_load_row rfl 44 (.tmp 1) rfl w.heap.size rfl 44 x.C (0,0) _ HI0.out Tryz.underlying44 rfl size15 ?_)
    | (go_at_call 26
       refine (may_any x HO.out _).mono ?_
       rintro e w1 ⟨rfl,hb1⟩
       have HB1:=Lib.hid (HB0.out.trans (hb1.mono HB0.out.size))
       have hI1:=HI0.out.below hb1 HI0.out.lt
       have HI1:=Lib.hid hI1
       have hls1:w.heap.size < w1.heap.size:=hI1.lt
       obtain ⟨hbz,hiz⟩:=one_new w1 (u8s nil64) 5
       have hI2:=hI1.below hbz hI1.lt
       have ck:(w1.alloc (.cells (u8s nil64) 5)).cell? ⟨w.heap.size,0,none⟩=some (.int .i64 (x.kind:Int)):=hI2.cell 0
       have hR0:=Rw.of_is hiz
       have HR0:=Lib.hid hR0
       have HI2:=Lib.hid hI2
       have HBz:=Lib.hid (HB1.out.trans (hbz.mono HB1.out.size))
       clear hb1 hI1 hbz hiz hI2 hR0)
    | (go_at_call 94
       with_reducible refine (rput_at w1.heap.size 64 64 nil64 nil64_len 0 1 x.kind 0 1 (x.kind:Int) rfl rfl rfl _ (HW.out.below HBz.out hwl) HR0.out rfl (by decide) (by omega) (by decide) (by decide)).mono ?_
       rintro e w2 ⟨rfl,hR1,hK1⟩
       have HR1:=Lib.hid hR1
       have hI3:=HI2.out.keeps hK1 (by omega)
       have HI3:=Lib.hid hI3
       have HB3:=Lib.hid (HBz.out.trans (hK1.below (by simp only [World.size_alloc]; omega) (fun i e => by rw [show i=w1.heap.size from e]; omega)))
       have cl:w2.cell? ⟨w.heap.size,1,none⟩=some (.int .i64 (x.links:Int)):=hI3.cell 1
       clear hR1 hI3 hK1)
    | (go_at_call 94
       with_reducible refine (rput_at w1.heap.size 64 64 (spliced nil64 0 (les x.kind 1)) (by rw [spliced_length _ _ _ (by rw [les_length,nil64_len]; omega),nil64_len]) 2 2 x.links 2 2 (x.links:Int) rfl rfl rfl _ (HW.out.below HB3.out hwl) HR1.out rfl (by decide) (by omega) (by decide) (by decide)).mono ?_
       rintro e w3 ⟨rfl,hR2,hK2⟩
       have HR2:=Lib.hid hR2
       have hI4:=HI3.out.keeps hK2 (by omega)
       have HI4:=Lib.hid hI4
       have HB4:=Lib.hid (HB3.out.trans (hK2.below (by have:=HB3.out.size; omega) (fun i e => by rw [show i=w1.heap.size from e]; omega)))
       have cs:w3.cell? ⟨w.heap.size,2,none⟩=some (.int .i64 (x.size:Int)):=hI4.cell 2
       clear hR2 hI4 hK2)
    | (go_at_call 94
       with_reducible refine (rput_at w1.heap.size 64 64 (spliced (spliced nil64 0 (les x.kind 1)) 2 (les x.links 2)) (by rw [spliced_length _ _ _ (by rw [les_length,spliced_length _ _ _ (by rw [les_length,nil64_len]; omega),nil64_len]; omega),spliced_length _ _ _ (by rw [les_length,nil64_len]; omega),nil64_len]) 4 4 x.size 4 4 (x.size:Int) rfl rfl rfl _ (HW.out.below HB4.out hwl) HR2.out rfl (by decide) (by omega) (by decide) (by decide)).mono ?_
       rintro e w4 ⟨rfl,hR3,hK3⟩
       have HR3:=Lib.hid (show Rw w4 w1.heap.size (encN x 0) from hR3)
       have HI5:=Lib.hid (HI4.out.keeps hK3 (by omega))
       have HB5:=Lib.hid (HB4.out.trans (hK3.below (by have:=HB4.out.size; omega) (fun i e => by rw [show i=w1.heap.size from e]; omega)))
       clear hR3 hK3)
    | (refine wpList_load_row rfl 44 (.tmp 1) rfl w.heap.size rfl 44 x.C (0,0) _ HI5.out Tryz.underlying44 rfl size15 ?_)
    | (go_at_call 51
       refine (numbers_any x _).mono ?_
       rintro e w5 ⟨rfl,hb5⟩
       have HB6:=Lib.hid (HB5.out.trans (hb5.mono HB5.out.size))
       have HR4:=Lib.hid (HR3.out.later hb5)
       clear hb5))
  go_loopw [28] (fun i wr => ∃ k:Nat,k ≤ 12 ∧ i=.int .i64 k ∧ Rw wr w1.heap.size (encN x k) ∧ Below w.heap.size w wr) (fun i _ => 12 - (intOf i).toNat)
  case atStart => exact ⟨0,Nat.zero_le _,rfl,HR4.out,HB6.out⟩
  case round =>
    obtain ⟨k,hk12,rfl,hR,hB⟩:=hrel
    have HR:=Lib.hid hR
    have HB:=Lib.hid hB
    clear hR hB
    by_cases hlt:k < 12
    · have hix := run_index12 wr x k hlt
      have hnum:=HO.out.nums k hlt
      have un:=u64_in (x.num k) (by omega)
      obtain ⟨v,hv⟩:∃ v,x.num k=v:=⟨_,rfl⟩
      have HV:=Lib.hid hv
      rw [hv] at hix un hnum
      clear hv
      go_wp2_with (go_at_call 94
                   with_reducible refine (rput_at w1.heap.size 64 64 (encN x k) (encN_len x k hk12) (8 + 4 * k) 4 v (8 + 4 * (k:Int)) 4 (v:Int) (by omega) rfl rfl _ (HW.out.below HB.out hwl) HR.out rfl (by decide) (by omega) (by omega) (by decide)).mono ?_
                   rintro e w6 ⟨rfl,hR6,hK6⟩
                   have HR6:=Lib.hid hR6
                   have HB7:=Lib.hid (HB.out.trans (hK6.below HB.out.size (fun i e => by rw [show i=w1.heap.size from e]; omega)))
                   clear hR6 hK6)
      go_roundw
      case rel => exact ⟨k + 1,by omega,by go_num,by show Rw w6 w1.heap.size (spliced (encN x k) (8 + 4 * k) (les (x.num k) 4)); rw [HV.out]; exact HR6.out,HB7.out⟩
      case measure => simp [intOf]; omega
    · obtain rfl:k=12:=by omega
      go_wp2_with fail
      go_ret2
      exact ⟨⟨w1.heap.size,rfl,HR.out,by omega⟩,HB.out⟩
theorem results_ino_tmp {fn:Func}{p q:Tmp}(h:fn.results=#[.cell p 44,.tmp q])(tmps:Array Value)(w:World)(g:Nat)(cs:Array Value)(v:Value)(hp:tmps.getD p undef=.pointer (some ⟨g,0,none⟩))(hq:tmps.getD q undef=v)(hg:Is w g 44 cs)(hs:cs.size=15) :
    (results fn tmps).run Tryz.prog w=.ok (.tuple #[.agg cs,v]) w:=by
  have hp':tmps[p]?.getD undef=.pointer (some ⟨g,0,none⟩):=by simpa using hp
  have hq':tmps[q]?.getD undef=v:=by simpa using hq
  simp [results,h,hp',hq',asAddr,run_loadVar_row w g 44 44 cs (0,0) _ hg Tryz.underlying44 rfl (by rw [hs]; exact size15)]
theorem i64_in (n:Nat)(h:n ≤ 9223372036854775807):IntKind.i64.wrap (n:Int)=(n:Int):=IntWalk.i64_in _ (by omega)
set_option maxRecDepth 100000 in
theorem dec1_any (A:Option Addr)(cap:Nat)(r:List UInt8)(hl:r.length=64)(at_ k V:Nat)(a9 k9:Int)(ha:a9=(at_:Int))(hk:k9=(k:Int))(hW:isW (k:Int)=true)(hak:at_ + k ≤ 64)(hV:nm r at_ k=V)(hVb:V ≤ 4294967295)(B:Nat)(w:World)(hw:WidthsAt w)(hb:Bytes w A r)(hB:w.cell? ⟨B,0,none⟩=some (.slice A 64 cap)) :
    Calls Tryz.prog 91 #[.int .i64 a9,.int .i64 k9,.pointer (some ⟨B,0,none⟩)] w fun e w' => e=.returned (.int .i64 (V:Int)) ∧ w=w':=by
  subst ha hk
  obtain ⟨g1,g2⟩:=getV_nm r at_ k hW (by omega)
  have HG:=Lib.hid (get_to A cap r 64 hl (at_:Int) (k:Int) V 0 (g1.trans hV) g2 w hw hb (by decide) (by omega) (by omega))
  have uk:=i64_in V (by omega)
  clear g1 g2 hV hw hb hl hW
  go_enter Tryz.func91,Tryz.ntmps91
  go_wp2_with (go_at_call 92; refine HG.out.mono ?_; rintro e w' ⟨rfl,rfl⟩)
  go_ret
  exact ⟨rfl,rfl⟩
def partC (x:Ino)(k:Nat):Array Value := #[.int .i64 (x.kind:Int),.int .i64 (x.links:Int),.int .i64 (x.size:Int),.int .i64 (if 0 < k then (x.num 0:Int) else 0),.int .i64 (if 1 < k then (x.num 1:Int) else 0),.int .i64 (if 2 < k then (x.num 2:Int) else 0),.int .i64 (if 3 < k then (x.num 3:Int) else 0),.int .i64 (if 4 < k then (x.num 4:Int) else 0),.int .i64 (if 5 < k then (x.num 5:Int) else 0),.int .i64 (if 6 < k then (x.num 6:Int) else 0),.int .i64 (if 7 < k then (x.num 7:Int) else 0),.int .i64 (if 8 < k then (x.num 8:Int) else 0),.int .i64 (if 9 < k then (x.num 9:Int) else 0),.int .i64 (x.num 10:Int),.int .i64 (x.num 11:Int)]
theorem partC_put (x:Ino)(k:Nat)(hk:k < 10):(partC x k).setIfInBounds (3 + k) (.int .i64 (x.num k:Int))=partC x (k + 1):=by
  match k,hk with
  | 0,_ => rfl
  | 1,_ => rfl
  | 2,_ => rfl
  | 3,_ => rfl
  | 4,_ => rfl
  | 5,_ => rfl
  | 6,_ => rfl
  | 7,_ => rfl
  | 8,_ => rfl
  | 9,_ => rfl
theorem partC_full (x:Ino):partC x 10=x.C:=rfl
theorem partC_cell (x:Ino)(k:Nat)(hk:k < 10):(partC x k)[3 + k]? = some (.int .i64 0):=by
  match k,hk with
  | 0,_ => rfl
  | 1,_ => rfl
  | 2,_ => rfl
  | 3,_ => rfl
  | 4,_ => rfl
  | 5,_ => rfl
  | 6,_ => rfl
  | 7,_ => rfl
  | 8,_ => rfl
  | 9,_ => rfl
set_option maxRecDepth 100000 in
set_option maxHeartbeats 3200000 in
theorem decode_any (A:Option Addr)(cap:Nat)(r:List UInt8)(x:Ino)(hr:RecAt r x)(h:x.Ok)(hcap:64 ≤ cap)(w:World)(hw:WidthsAt w)(hb:Bytes w A r) :
    Calls Tryz.prog 55 #[.slice A 64 cap] w fun e w' => e=.returned (.tuple #[.agg x.C,.int .i64 0]) ∧ Below w.heap.size w w':=by
  obtain ⟨hb0,i0,i1⟩:=two_new w #[.slice A 64 cap] zeroC 28 44
  obtain ⟨W,hW⟩:∃ W,(w.alloc (.cells #[.slice A 64 cap] 28)).alloc (.cells zeroC 44)=W:=⟨_,rfl⟩
  rw [hW] at hb0 i0 i1
  have cb:W.cell? ⟨w.heap.size,0,none⟩=some (.slice A 64 cap):=i0.cell 0
  have hwW:=hw.below hb0 hw.lt
  have hbW:=hb.later hb0
  have hl:=hr.len
  have hk2:x.kind ≤ 2:=by have:=h.sort; omega
  have hl0:=h.links
  have hs0:=h.size
  have n10:=h.nums 10 (by omega)
  have n11:=h.nums 11 (by omega)
  have D0:=Lib.hid (dec1_any A cap r hl 0 1 x.kind 0 1 rfl rfl rfl (by omega) hr.kind (by omega) w.heap.size W hwW hbW cb)
  have D1:=Lib.hid (dec1_any A cap r hl 2 2 x.links 2 2 rfl rfl rfl (by omega) hr.links (by omega) w.heap.size W hwW hbW cb)
  have D2:=Lib.hid (dec1_any A cap r hl 4 4 x.size 4 4 rfl rfl rfl (by omega) hr.size (by omega) w.heap.size W hwW hbW cb)
  have D3:=Lib.hid (dec1_any A cap r hl 48 4 (x.num 10) 48 4 rfl rfl rfl (by omega) (hr.num 10 (by omega)) (by omega) w.heap.size W hwW hbW cb)
  have D4:=Lib.hid (dec1_any A cap r hl 52 4 (x.num 11) 52 4 rfl rfl rfl (by omega) (hr.num 11 (by omega)) (by omega) w.heap.size W hwW hbW cb)
  have HB0:=Lib.hid hb0
  have HI0:=Lib.hid i0
  have HI1:=Lib.hid i1
  have HR:=Lib.hid hr
  have HO:=Lib.hid h
  have hwl:=hw.lt
  have HW:=Lib.hid hw
  have HBw:=Lib.hid hb
  have hsz:=hb0.size
  have hWs:W.heap.size=w.heap.size + 2:=by rw [← hW]; simp [World.size_alloc]
  unfold zeroC at hW
  clear hb0 i0 i1 hwW hbW hr h hw hb hl0 hs0 n10 n11 cb
  go_enter Tryz.func55,Tryz.ntmps55
  have cb:W.cell? ⟨w.heap.size,0,none⟩=some (.slice A 64 cap):=HI0.out.cell 0
  go_wp2_with (first
    | (go_at_call 91; with_reducible refine D0.out.mono ?_; rintro e w' ⟨rfl,rfl⟩)
    | (go_at_call 91; with_reducible refine D1.out.mono ?_; rintro e w' ⟨rfl,rfl⟩)
    | (go_at_call 91; with_reducible refine D2.out.mono ?_; rintro e w' ⟨rfl,rfl⟩)
    | (go_at_call 91; with_reducible refine D3.out.mono ?_; rintro e w' ⟨rfl,rfl⟩)
    | (go_at_call 91; with_reducible refine D4.out.mono ?_; rintro e w' ⟨rfl,rfl⟩))
  have j2:Is (W.alloc (.cells (partC x 0) 44)) W.heap.size 44 (partC x 0):=Is.new W _ _
  rw [hWs] at j2
  have hb2:=below_new W (.cells (partC x 0) 44)
  have j0:=HI0.out.below hb2 HI0.out.lt
  have j1:=HI1.out.below hb2 HI1.out.lt
  go_loopw [27] (fun i wr => ∃ k:Nat,k ≤ 10 ∧ i=.int .i64 k ∧ Is wr w.heap.size 28 #[.slice A 64 cap] ∧ Is wr (w.heap.size + 1) 44 zeroC ∧ Is wr (w.heap.size + 2) 44 (partC x k) ∧ Below w.heap.size w wr) (fun i _ => 10 - (intOf i).toNat)
  case atStart => exact ⟨0,Nat.zero_le _,rfl,j0,j1,j2,HB0.out.trans (hb2.mono hsz)⟩
  case round =>
    obtain ⟨k,hk10,rfl,hI0,hI1,hI2,hB⟩:=hrel
    have cb:wr.cell? ⟨w.heap.size,0,none⟩=some (.slice A 64 cap):=hI0.cell 0
    have J0:=Lib.hid hI0
    have J1:=Lib.hid hI1
    have J2:=Lib.hid hI2
    have HB:=Lib.hid hB
    have HBy:=Lib.hid (HBw.out.later HB.out)
    clear hI0 hI1 hI2 hB j0 j1 j2 hb2
    by_cases hlt:k < 10
    · have hnum:=HO.out.nums k (by omega)
      have D5:=Lib.hid (dec1_any A cap r hl (8 + 4 * k) 4 (x.num k) (8 + 4 * (k:Int)) 4 (by omega) rfl rfl (by omega) (HR.out.num k (by omega)) (by omega) w.heap.size wr (HW.out.below HB.out hwl) HBy.out cb)
      obtain ⟨v,hv⟩:∃ v,x.num k=v:=⟨_,rfl⟩
      have HV:=Lib.hid hv
      rw [hv] at D5
      have cc:wr.cell? ⟨w.heap.size + 2,3 + k,none⟩=some (.int .i64 0):=(J2.out.cell (3 + k)).trans (partC_cell x k hlt)
      have cf:=J2.out.free (3 + k)
      clear hv hnum
      go_wp2_with (go_at_call 91; with_reducible refine D5.out.mono ?_; rintro e w' ⟨rfl,rfl⟩)
      go_roundw
      case rel =>
        refine ⟨k + 1,by omega,by go_num,J0.out.other ⟨w.heap.size + 2,3 + k,none⟩ (by show w.heap.size ≠ w.heap.size + 2; omega) _,J1.out.other ⟨w.heap.size + 2,3 + k,none⟩ (by show w.heap.size + 1 ≠ w.heap.size + 2; omega) _,?_,HB.out.setCell (p:=⟨w.heap.size + 2,3 + k,none⟩) (by show w.heap.size ≤ w.heap.size + 2; omega) _⟩
        rw [← partC_put x k hlt,HV.out]
        exact J2.out.put (3 + k) _
      case measure => simp [intOf]; omega
    · obtain rfl:k=10:=by omega
      have z1:zeroV r 1 1=true ∧ zeroE r.length 1 1=0:=by
        have hl':lies r.length 1 1=true:=by unfold lies; rw [hl]; rfl
        unfold zeroV zeroE
        rw [hl']
        exact ⟨HR.out.front,rfl⟩
      have z2:zeroV r 56 8=true ∧ zeroE r.length 56 8=0:=by
        have hl':lies r.length 56 8=true:=by unfold lies; rw [hl]; rfl
        unfold zeroV zeroE
        rw [hl']
        exact ⟨HR.out.behind,rfl⟩
      have Z1:=Lib.hid (zero_any A cap r 1 1 wr HBy.out (by omega) (by omega) (by omega) (by omega))
      have Z2:=Lib.hid (zero_any A cap r 56 8 wr HBy.out (by omega) (by omega) (by omega) (by omega))
      rw [z1.1,z1.2,hl] at Z1
      rw [z2.1,z2.2,hl] at Z2
      clear z1 z2
      rw [partC_full] at J2
      have cx0:wr.cell? ⟨w.heap.size + 2,0,none⟩=some (.int .i64 (x.kind:Int)):=J2.out.cell 0
      have cx1:wr.cell? ⟨w.heap.size + 2,1,none⟩=some (.int .i64 (x.links:Int)):=J2.out.cell 1
      have cx2:wr.cell? ⟨w.heap.size + 2,2,none⟩=some (.int .i64 (x.size:Int)):=J2.out.cell 2
      have cx3:wr.cell? ⟨w.heap.size + 2,3,none⟩=some (.int .i64 (x.num 0:Int)):=J2.out.cell 3
      have cx4:wr.cell? ⟨w.heap.size + 2,4,none⟩=some (.int .i64 (x.num 1:Int)):=J2.out.cell 4
      have cx5:wr.cell? ⟨w.heap.size + 2,5,none⟩=some (.int .i64 (x.num 2:Int)):=J2.out.cell 5
      have cx6:wr.cell? ⟨w.heap.size + 2,6,none⟩=some (.int .i64 (x.num 3:Int)):=J2.out.cell 6
      have cx7:wr.cell? ⟨w.heap.size + 2,7,none⟩=some (.int .i64 (x.num 4:Int)):=J2.out.cell 7
      have cx8:wr.cell? ⟨w.heap.size + 2,8,none⟩=some (.int .i64 (x.num 5:Int)):=J2.out.cell 8
      have cx9:wr.cell? ⟨w.heap.size + 2,9,none⟩=some (.int .i64 (x.num 6:Int)):=J2.out.cell 9
      have cx10:wr.cell? ⟨w.heap.size + 2,10,none⟩=some (.int .i64 (x.num 7:Int)):=J2.out.cell 10
      have cx11:wr.cell? ⟨w.heap.size + 2,11,none⟩=some (.int .i64 (x.num 8:Int)):=J2.out.cell 11
      have cx12:wr.cell? ⟨w.heap.size + 2,12,none⟩=some (.int .i64 (x.num 9:Int)):=J2.out.cell 12
      have cx13:wr.cell? ⟨w.heap.size + 2,13,none⟩=some (.int .i64 (x.num 10:Int)):=J2.out.cell 13
      have cx14:wr.cell? ⟨w.heap.size + 2,14,none⟩=some (.int .i64 (x.num 11:Int)):=J2.out.cell 14
      go_wp2_with (first
        | (go_at_call 93; with_reducible refine Z1.out.mono ?_; rintro e w' ⟨rfl,rfl⟩)
        | (go_at_call 93; with_reducible refine Z2.out.mono ?_; rintro e w' ⟨rfl,rfl⟩)
        | (refine wpList_load_row rfl 44 (.tmp 5) rfl (w.heap.size + 2) rfl 44 x.C (0,0) _ J2.out Tryz.underlying44 rfl size15 ?_)
        | (go_at_call 26
           refine (may_any x HO.out _).mono ?_
           rintro e w1 ⟨rfl,hb1⟩
           have HB1:=Lib.hid (HB.out.trans (hb1.mono HB.out.size))
           have K1:=Lib.hid (J1.out.below hb1 J1.out.lt)
           have K2:=Lib.hid (J2.out.below hb1 J2.out.lt)
           clear hb1)
        | (refine wpList_load_row rfl 44 (.tmp 5) rfl (w.heap.size + 2) rfl 44 x.C (0,0) _ K2.out Tryz.underlying44 rfl size15 ?_)
        | (refine wpList_store_row rfl 44 (.tmp 2) (.tmp 61) rfl (w.heap.size + 1) x.C rfl rfl 44 zeroC K1.out size15 rfl (inoC_one x) ?_))
      have hfin:=setRow_heap w1 (w.heap.size + 1) _ x.C _ _ K1.out
      refine bodyPost_ret (results_ino_tmp (p:=2) (q:=3) rfl _ _ (w.heap.size + 1) x.C (.int .i64 0) rfl rfl hfin rfl) rfl ?_
      · exact ⟨rfl,⟨HB1.out.os,HB1.out.tape,HB1.out.output,Nat.le_trans HB1.out.size (by show w1.heap.size ≤ (w1.heap.modify _ _).size; simp),fun k hk => (setRow_other w1 (w.heap.size + 1) k _ (by omega)).trans (HB1.out.block k hk)⟩⟩
end Go.Proofs.YthkijogloebdoaaGreatDoor
end
section
namespace Go.Proofs.YthkijogloebdoaaGreatDoor
open Go.RowKit Go.Maps Rec Gp
set_option maxRecDepth 100000 in
theorem isInode_any (n i:Nat)(hn:Disk n)(hi0:1 ≤ i)(hi:i < cnt n)(w:World):Calls Tryz.prog 53 #[geoV n,.int .i64 (i:Int)] w fun e w' => e=.returned (.bool true) ∧ Below w.heap.size w w':=by
  have hC2:cnt n ≤ 4000:=by have:(n:Int) ≤ 16384:=hn.2; unfold cnt; omega
  obtain ⟨hb0,i0⟩:=one_new w #[.int .i64 (n:Int),.int .i64 98,.int .i64 (ino n:Int),.int .i64 (dat n:Int),.int .i64 (cnt n:Int)] 31
  obtain ⟨W,hW⟩:∃ W,w.alloc (.cells #[.int .i64 (n:Int),.int .i64 98,.int .i64 (ino n:Int),.int .i64 (dat n:Int),.int .i64 (cnt n:Int)] 31)=W:=⟨_,rfl⟩
  rw [hW] at hb0 i0
  have c4:W.cell? ⟨w.heap.size,4,none⟩=some (.int .i64 (cnt n:Int)):=i0.cell 4
  have hR:=run_within (i:Int) 1 ((cnt n:Int) - 1) W
  rw [show (decide ((1:Int) ≤ (i:Int)) && decide ((i:Int) ≤ (cnt n:Int) - 1))=true by rw [decide_eq_true (by omega),decide_eq_true (by omega)]; rfl] at hR
  have HR:=Lib.hid hR
  have HB0:=Lib.hid hb0
  clear hR hb0 i0 hn hi
  go_enter Tryz.func53,Tryz.ntmps53
  go_wp2_with (go_at_call 52; refine HR.out.mono ?_; rintro e w' ⟨rfl,rfl⟩)
  go_ret
  exact ⟨rfl,HB0.out⟩
theorem rec_place {n i:Nat}(hn:Disk n)(hi:i < cnt n):ino n + i / 8 < n ∧ 98 ≤ ino n + i / 8 ∧ i % 8 * 64 + 64 ≤ 512 ∧ ino n + i / 8 < dat n:=by
  have h1:128 ≤ (n:Int):=hn.1
  have h2:(n:Int) ≤ 16384:=hn.2
  obtain ⟨i1,i2,i3⟩:=ino_le hn
  unfold cnt at hi
  have hd:dat n=ino n + n / 64:=rfl
  refine ⟨by omega,by omega,by omega,by omega⟩
set_option maxRecDepth 100000 in
theorem iplace_any (c:Cx)(w:World)(O:Nat → Prop)(T:Tn)(h:TxnAt c w O T)(n i k a:Nat)(hn:Disk n)(hN:c.N=n)(hi0:1 ≤ i)(hi:i < cnt n)(hk:ino n + i / 8=k)(ha:i % 8 * 64=a) :
    Calls Tryz.prog 54 #[.pointer (some ⟨c.t,0,none⟩),geoV n,.int .i64 (i:Int)] w fun e w' =>
      (∃ g cp,e=.returned (.tuple #[.int .i64 (k:Int),.slice (some ⟨g,0,none⟩) 512 cp,.int .i64 (a:Int),.int .i64 0]) ∧ Rw w' g (T.view c.D k) ∧ w.heap.size ≤ g ∧ 512 ≤ cp) ∧ Below w.heap.size w w':=by
  obtain ⟨p1,p2,p3,p4⟩:=rec_place hn hi
  have hkN:k < c.N:=by rw [hN]; omega
  have hki:(ino n:Int) + (i:Int) / 8=(k:Int):=by omega
  have hri:(i:Int) % 8 * 64=(a:Int):=by omega
  have HG:=Lib.hid (fun w => geo_record_ok n (i:Int) w hn (by omega) (by omega))
  rw [hki,hri] at HG
  obtain ⟨hb0,i0⟩:=one_new w #[.int .i64 (n:Int),.int .i64 98,.int .i64 (ino n:Int),.int .i64 (dat n:Int),.int .i64 (cnt n:Int)] 31
  have HB0:=Lib.hid hb0
  have HT:=Lib.hid (h.later hb0)
  have HR:=Lib.hid (fun w O h => tread_any c w O T h k hkN)
  obtain ⟨t,ht⟩:∃ t,c.t=t:=⟨_,rfl⟩
  rw [ht] at HR ⊢
  clear h hn hN hk ha hki hri i0 hb0 ht hkN p1 p2 p3 p4 hi
  go_enter Tryz.func54,Tryz.ntmps54
  go_wp2_with (first
    | (go_at_call 90
       refine (HG.out _).mono ?_
       rintro e w1 ⟨rfl,hb1⟩
       have HB1:=Lib.hid (HB0.out.trans (hb1.mono HB0.out.size))
       have HT1:=Lib.hid (HT.out.later hb1)
       clear hb1)
    | (go_at_call 37
       refine (HR.out _ _ HT1.out).mono ?_
       rintro e w2 ⟨⟨g,cp,rfl,hg,hgs,hcp⟩,hb2⟩
       have HG2:=Lib.hid hg
       have HGS:=Lib.hid hgs
       have HCP:=Lib.hid hcp
       have HB2:=Lib.hid (HB1.out.trans (hb2.mono HB1.out.size))
       clear hg hgs hb2 hcp))
  refine bodyPost_ret (v:=.tuple #[.int .i64 (k:Int),.slice (some ⟨g,0,none⟩) 512 cp,.int .i64 (a:Int),.int .i64 0]) (by simp [results,Tryz.results54,go_sem]) rfl ?_
  exact ⟨⟨g,cp,rfl,HG2.out,Nat.le_trans HB1.out.size HGS.out,HCP.out⟩,HB2.out⟩
def InoAt (V:Nat → List UInt8)(n i:Nat)(x:Ino):Prop:=RecAt (sl (V (ino n + i / 8)) (i % 8 * 64) 64) x ∧ x.Ok
theorem Bytes.sl {w:World}{g:Nat}{l:List UInt8}(h:Rw w g l)(a k:Nat)(hak:a + k ≤ l.length):Bytes w (some ⟨g,a,none⟩) (sl l a k) :=
  .inr ⟨g,a,rfl,fun j hj => by
    rw [sl_length l a k hak] at hj
    have h1:=sl_at l a k j hj
    rw [List.getElem?_eq_getElem (by rw [sl_length l a k hak]; exact hj),List.getElem?_eq_getElem (by omega)] at h1
    injection h1 with h1
    rw [h1]
    exact h.cell (by omega)⟩
set_option maxRecDepth 100000 in
set_option maxHeartbeats 1600000 in
theorem iget_any (c:Cx)(w:World)(O:Nat → Prop)(T:Tn)(h:TxnAt c w O T)(n i:Nat)(x:Ino)(hn:Disk n)(hN:c.N=n)(hi0:1 ≤ i)(hi:i < cnt n)(hx:InoAt (T.view c.D) n i x)(hw:WidthsAt w) :
    Calls Tryz.prog 27 #[.pointer (some ⟨c.t,0,none⟩),geoV n,.int .i64 (i:Int)] w fun e w' => e=.returned (.tuple #[.agg x.C,.int .i64 0]) ∧ Below w.heap.size w w':=by
  obtain ⟨p1,p2,p3,p4⟩:=rec_place hn hi
  obtain ⟨hr,hok⟩:=hx
  obtain ⟨k,hk⟩:∃ k,ino n + i / 8=k:=⟨_,rfl⟩
  obtain ⟨a,ha⟩:∃ a,i % 8 * 64=a:=⟨_,rfl⟩
  have hVL:=h.view_len (i:=k) (by rw [hN]; omega)
  rw [hk,ha] at hr
  rw [ha] at p3
  obtain ⟨hb0,i0,i1⟩:=two_new w #[.int .i64 (n:Int),.int .i64 98,.int .i64 (ino n:Int),.int .i64 (dat n:Int),.int .i64 (cnt n:Int)] zeroC 31 44
  obtain ⟨W,hW⟩:∃ W,(w.alloc (.cells #[.int .i64 (n:Int),.int .i64 98,.int .i64 (ino n:Int),.int .i64 (dat n:Int),.int .i64 (cnt n:Int)] 31)).alloc (.cells zeroC 44)=W:=⟨_,rfl⟩
  rw [hW] at hb0 i0 i1
  have HB0:=Lib.hid hb0
  have HI0:=Lib.hid i0
  have HI1:=Lib.hid i1
  have HT:=Lib.hid (h.later hb0)
  have HII:=Lib.hid (fun w => isInode_any n i hn hi0 hi w)
  have HPL:=Lib.hid (fun w O h => iplace_any c w O T h n i k a hn hN hi0 hi hk ha)
  have hwl:=hw.lt
  have HW:=Lib.hid hw
  have HR:=Lib.hid hr
  have HOK:=Lib.hid hok
  have HVL:=Lib.hid hVL
  obtain ⟨t,ht⟩:∃ t,c.t=t:=⟨_,rfl⟩
  rw [ht] at HPL ⊢
  have c0:W.cell? ⟨w.heap.size,0,none⟩=some (.int .i64 (n:Int)):=i0.cell 0
  have c1:W.cell? ⟨w.heap.size,1,none⟩=some (.int .i64 98):=i0.cell 1
  have c2:W.cell? ⟨w.heap.size,2,none⟩=some (.int .i64 (ino n:Int)):=i0.cell 2
  have c3:W.cell? ⟨w.heap.size,3,none⟩=some (.int .i64 (dat n:Int)):=i0.cell 3
  have c4:W.cell? ⟨w.heap.size,4,none⟩=some (.int .i64 (cnt n:Int)):=i0.cell 4
  have hap:(a:Int) + 64 ≤ 512:=by omega
  unfold zeroC at hW
  clear h hn hN hi0 hi hr hok hVL hb0 i0 i1 hw ht hk ha p1 p2 p4
  go_enter Tryz.func27,Tryz.ntmps27
  go_wp2_with (first
    | (go_at_call 53
       refine (HII.out _).mono ?_
       rintro e w1 ⟨rfl,hb1⟩
       have HB1:=Lib.hid (HB0.out.trans (hb1.mono HB0.out.size))
       have HT1:=Lib.hid (HT.out.later hb1)
       have j0:=HI0.out.below hb1 HI0.out.lt
       have J1:=Lib.hid (HI1.out.below hb1 HI1.out.lt)
       have d0:w1.cell? ⟨w.heap.size,0,none⟩=some (.int .i64 (n:Int)):=j0.cell 0
       have d1:w1.cell? ⟨w.heap.size,1,none⟩=some (.int .i64 98):=j0.cell 1
       have d2:w1.cell? ⟨w.heap.size,2,none⟩=some (.int .i64 (ino n:Int)):=j0.cell 2
       have d3:w1.cell? ⟨w.heap.size,3,none⟩=some (.int .i64 (dat n:Int)):=j0.cell 3
       have d4:w1.cell? ⟨w.heap.size,4,none⟩=some (.int .i64 (cnt n:Int)):=j0.cell 4
       clear hb1 j0)
    | (go_at_call 54
       refine (HPL.out _ _ HT1.out).mono ?_
       rintro e w2 ⟨⟨g,cp,rfl,hg,hgs,hcp⟩,hb2⟩
       have HG:=Lib.hid hg
       have HB2:=Lib.hid (HB1.out.trans (hb2.mono HB1.out.size))
       have J2:=Lib.hid (J1.out.below hb2 J1.out.lt)
       have hcp2:(a:Int) + 64 ≤ (cp:Int):=by omega
       have hcp3:a + 64 ≤ cp:=by omega
       clear hg hgs hb2)
    | (go_at_call 55
       refine (decode_any (some ⟨g,a,none⟩) (cp - a) _ x HR.out HOK.out (by omega) _ (HW.out.below HB2.out hwl) (Bytes.sl HG.out a 64 (by rw [HVL.out]; exact p3))).mono ?_
       rintro e w3 ⟨rfl,hb3⟩
       have HB3:=Lib.hid (HB2.out.trans (hb3.mono HB2.out.size))
       have J3:=Lib.hid (J2.out.below hb3 J2.out.lt)
       clear hb3)
    | (refine wpList_store_row rfl 44 (.tmp 6) (.tmp 36) rfl (w.heap.size + 1) x.C rfl rfl 44 zeroC J3.out size15 rfl (inoC_one x) ?_))
  have hfin:=setRow_heap w3 (w.heap.size + 1) _ x.C _ _ J3.out
  refine bodyPost_ret (results_ino_tmp (p:=6) (q:=7) rfl _ _ (w.heap.size + 1) x.C (.int .i64 0) rfl rfl hfin rfl) rfl ?_
  exact ⟨rfl,⟨HB3.out.os,HB3.out.tape,HB3.out.output,Nat.le_trans HB3.out.size (by show w3.heap.size ≤ (w3.heap.modify _ _).size; simp),fun k hk => (setRow_other w3 (w.heap.size + 1) k _ (by omega)).trans (HB3.out.block k hk)⟩⟩
end Go.Proofs.YthkijogloebdoaaGreatDoor
end
section
namespace Go.Proofs.YthkijogloebdoaaGreatDoor.Fs
open Rec Gp
def par (p:Nat):Nat:=if p < 10 then 16652 else if p < 138 then 16522 else if p < 16522 then 16524 + (p - 138) / 128 else if p < 16524 then 16652 else 16523
def slot (p:Nat):Nat:=if p < 10 then p else if p < 138 then p - 10 else if p < 16522 then (p - 138) % 128 else if p < 16524 then p - 16512 else p - 16524
def kid (q s:Nat):Nat:=if q=16522 then 10 + s else if q=16523 then 16524 + s else 138 + 128 * (q - 16524) + s
theorem par_kid {q s:Nat}(h0:16522 ≤ q)(h1:q < 16652)(hs:s < 128):par (kid q s)=q ∧ slot (kid q s)=s ∧ kid q s < 16652:=by
  unfold kid
  split
  · refine ⟨?_,?_,by omega⟩
    · unfold par; rw [if_neg (by omega),if_pos (by omega)]; omega
    · unfold slot; rw [if_neg (by omega),if_pos (by omega)]; omega
  · split
    · refine ⟨?_,?_,by omega⟩
      · unfold par; rw [if_neg (by omega),if_neg (by omega),if_neg (by omega),if_neg (by omega)]; omega
      · unfold slot; rw [if_neg (by omega),if_neg (by omega),if_neg (by omega),if_neg (by omega)]; omega
    · refine ⟨?_,?_,by omega⟩
      · unfold par; rw [if_neg (by omega),if_neg (by omega),if_pos (by omega)]; omega
      · unfold slot; rw [if_neg (by omega),if_neg (by omega),if_pos (by omega)]; omega
theorem kid_par {p:Nat}(h:p < 16652)(hp:par p ≠ 16652):kid (par p) (slot p)=p ∧ slot p < 128 ∧ 16522 ≤ par p ∧ par p < 16652:=by
  unfold par at hp ⊢
  unfold slot kid
  by_cases h1:p < 10
  · rw [if_pos h1] at hp; exact absurd rfl hp
  · rw [if_neg h1] at hp ⊢
    rw [if_neg h1]
    by_cases h2:p < 138
    · rw [if_pos h2,if_pos rfl,if_pos h2]; omega
    · rw [if_neg h2] at hp ⊢
      rw [if_neg h2]
      by_cases h3:p < 16522
      · rw [if_pos h3,if_neg (by omega),if_neg (by omega),if_pos h3]; omega
      · rw [if_neg h3] at hp ⊢
        rw [if_neg h3]
        by_cases h4:p < 16524
        · rw [if_pos h4] at hp; exact absurd rfl hp
        · rw [if_neg h4] at hp ⊢
          rw [if_neg h4,if_neg (by omega),if_pos rfl]; omega
theorem root_slot {p q:Nat}(hp:par p=16652)(hq:par q=16652)(h:slot p=slot q)(hp':p < 16652)(hq':q < 16652):p=q:=by
  have hr : ∀ x,par x=16652 → x < 16652 → x < 10 ∨ x=16522 ∨ x=16523:=fun x hx hx' => by
    unfold par at hx
    by_cases h1:x < 10
    · exact .inl h1
    · rw [if_neg h1] at hx
      by_cases h2:x < 138
      · rw [if_pos h2] at hx; omega
      · rw [if_neg h2] at hx
        by_cases h3:x < 16522
        · rw [if_pos h3] at hx; omega
        · rw [if_neg h3] at hx
          by_cases h4:x < 16524
          · omega
          · rw [if_neg h4] at hx; omega
  have hs:∀ x,(x < 10 ∨ x=16522 ∨ x=16523) → slot x=if x < 10 then x else x - 16512:=fun x hx => by
    unfold slot
    rcases hx with h1 | rfl | rfl
    · rw [if_pos h1,if_pos h1]
    · rfl
    · rfl
  have h1:=hr p hp hp'
  have h2:=hr q hq hq'
  rw [hs p h1,hs q h2] at h
  by_cases e1:p < 10 <;> by_cases e2:q < 10
  · rwa [if_pos e1,if_pos e2] at h
  · rw [if_pos e1,if_neg e2] at h; omega
  · rw [if_neg e1,if_pos e2] at h; omega
  · rw [if_neg e1,if_neg e2] at h; omega
theorem par_ne {p q:Nat}(h:p < 16652)(hq:par q=p)(hq':q < 16652):q ≠ p:=fun e => by
  subst e
  have:=kid_par hq' (by omega)
  rw [hq] at this
  unfold par at hq
  split at hq
  · omega
  · split at hq
    · omega
    · split at hq
      · omega
      · split at hq <;> omega
def upd (V:Nat → List UInt8)(i:Nat)(l:List UInt8):Nat → List UInt8:=fun j => if j=i then l else V j
theorem upd_same (V:Nat → List UInt8)(i:Nat)(l:List UInt8):upd V i l i=l:=if_pos rfl
theorem upd_other (V:Nat → List UInt8)(i:Nat)(l:List UInt8){j:Nat}(h:j ≠ i):upd V i l j=V j:=if_neg h
def updL (L:Nat → Nat → Nat)(f p v:Nat):Nat → Nat → Nat:=fun g q => if g=f ∧ q=p then v else L g q
theorem updL_same (L:Nat → Nat → Nat)(f p v:Nat):updL L f p v f p=v:=if_pos ⟨rfl,rfl⟩
theorem updL_other (L:Nat → Nat → Nat)(f p v:Nat){g q:Nat}(h:¬ (g=f ∧ q=p)):updL L f p v g q=L g q:=if_neg h
def updX (X:Nat → Ino)(f:Nat)(x:Ino):Nat → Ino:=fun g => if g=f then x else X g
theorem updX_same (X:Nat → Ino)(f:Nat)(x:Ino):updX X f x f=x:=if_pos rfl
theorem updX_other (X:Nat → Ino)(f:Nat)(x:Ino){g:Nat}(h:g ≠ f):updX X f x g=X g:=if_neg h
end Go.Proofs.YthkijogloebdoaaGreatDoor.Fs
namespace Go.Proofs.YthkijogloebdoaaGreatDoor
def Ino.set (x:Ino)(s v:Nat):Ino := { x with num:=fun k => if k=s then v else x.num k }
theorem Ino.set_same (x:Ino)(s v:Nat):(x.set s v).num s=v:=if_pos rfl
theorem Ino.set_other (x:Ino)(s v:Nat){k:Nat}(h:k ≠ s):(x.set s v).num k=x.num k:=if_neg h
end Go.Proofs.YthkijogloebdoaaGreatDoor
namespace Go.Proofs.YthkijogloebdoaaGreatDoor.Fs
open Rec Gp
def refn (V:Nat → List UInt8)(x:Ino)(l:Nat → Nat)(p:Nat):Nat:=if par p=16652 then x.num (slot p) else if l (par p)=0 then 0 else nm (V (l (par p))) (4 * slot p) 4
theorem refn_root {V:Nat → List UInt8}{x:Ino}{l:Nat → Nat}{p:Nat}(h:par p=16652):refn V x l p=x.num (slot p):=if_pos h
theorem refn_none {V:Nat → List UInt8}{x:Ino}{l:Nat → Nat}{p:Nat}(h:par p ≠ 16652)(h0:l (par p)=0):refn V x l p=0:=by unfold refn; rw [if_neg h,if_pos h0]
theorem refn_tab {V:Nat → List UInt8}{x:Ino}{l:Nat → Nat}{p:Nat}(h:par p ≠ 16652)(h0:l (par p) ≠ 0):refn V x l p=nm (V (l (par p))) (4 * slot p) 4:=by unfold refn; rw [if_neg h,if_neg h0]
structure Tree (n:Nat)(V:Nat → List UInt8)(X:Nat → Ino)(L:Nat → Nat → Nat)(E:Nat → Nat → Prop):Prop where
  ref:∀ f p,f < 3 → p < 16652 → ¬ E f p → L f p=refn V (X f) (L f) p
  gone:∀ f p,E f p → L f p=0
  inn:∀ f p,L f p ≠ 0 → f < 3 ∧ p < 16652 ∧ dat n ≤ L f p ∧ L f p < n
  inj:∀ f p g q,L f p ≠ 0 → L f p=L g q → f=g ∧ p=q
  bits:∀ b,dat n ≤ b → b < n → (Bt.bit (V (98 + b / 4096)) (b % 4096)=true ↔ ∃ f p,L f p=b)
  len:∀ i,i < n → (V i).length=512
def noE:Nat → Nat → Prop:=fun _ _ => False
abbrev Tree0 (n:Nat)(V:Nat → List UInt8)(X:Nat → Ino)(L:Nat → Nat → Nat):Prop:=Tree n V X L noE
theorem geo_facts {n:Nat}(hn:Disk n):128 ≤ n ∧ n ≤ 16384 ∧ ino n=98 + (n + 4095) / 4096 ∧ dat n=ino n + n / 64:=⟨by have:=hn.1; omega,by have:=hn.2; omega,rfl,rfl⟩
theorem bm_lt {n b:Nat}(hn:Disk n)(hb:b < n):98 + b / 4096 < ino n:=by obtain ⟨h1,h2,h3,h4⟩:=geo_facts hn; omega
theorem ino_lt_dat {n:Nat}(hn:Disk n):ino n < dat n:=by obtain ⟨h1,h2,h3,h4⟩:=geo_facts hn; omega
theorem dat_lt {n:Nat}(hn:Disk n):dat n < n:=by obtain ⟨h1,h2,h3,h4⟩:=geo_facts hn; omega
section
variable {n:Nat}{V:Nat → List UInt8}{X:Nat → Ino}{L:Nat → Nat → Nat}{E:Nat → Nat → Prop}
theorem Tree.refV (h:Tree n V X L E){V2:Nat → List UInt8}(hV:∀ f p,L f p ≠ 0 → 16522 ≤ p → V2 (L f p)=V (L f p))(f p:Nat)(hf:f < 3)(hp:p < 16652):refn V2 (X f) (L f) p=refn V (X f) (L f) p:=by
  by_cases e:par p=16652
  · rw [refn_root e,refn_root e]
  · by_cases e0:L f (par p)=0
    · rw [refn_none e e0,refn_none e e0]
    · rw [refn_tab e e0,refn_tab e e0,hV f (par p) e0 (kid_par hp e).2.2.1]
theorem Tree.turn (h:Tree n V X L E)(hn:Disk n){V2:Nat → List UInt8}(hV:∀ f p,L f p ≠ 0 → 16522 ≤ p → V2 (L f p)=V (L f p))(hB:∀ i,i < ino n → V2 i=V i)(hlen:∀ i,i < n → (V2 i).length=512):Tree n V2 X L E :=
  ⟨fun f p hf hp hE => by rw [h.refV hV f p hf hp]; exact h.ref f p hf hp hE,h.gone,h.inn,h.inj,fun b h1 h2 => by rw [hB _ (bm_lt hn h2)]; exact h.bits b h1 h2,hlen⟩
theorem upd_len {i:Nat}{l:List UInt8}(h:∀ i,i < n → (V i).length=512)(hl:l.length=512):∀ j,j < n → (upd V i l j).length=512:=fun j hj => by
  unfold upd; split
  · exact hl
  · exact h j hj
theorem Tree.meta_ (h:Tree n V X L E)(hn:Disk n){i:Nat}{l:List UInt8}(h0:ino n ≤ i)(h1:i < dat n)(hl:l.length=512):Tree n (upd V i l) X L E :=
  h.turn hn (fun f p hp _ => upd_other _ _ _ (by have:=(h.inn f p hp).2.2.1; omega)) (fun j hj => upd_other _ _ _ (by omega)) (upd_len h.len hl)
theorem Tree.data (h:Tree n V X L E)(hn:Disk n){f p:Nat}{l:List UInt8}(hp:p < 16522)(h0:L f p ≠ 0)(hl:l.length=512):Tree n (upd V (L f p) l) X L E :=
  h.turn hn (fun g q hq h16 => upd_other _ _ _ (fun e => by have:=(h.inj g q f p hq e).2; omega)) (fun j hj => upd_other _ _ _ (by have:=(h.inn f p h0).2.2.1; have:=ino_lt_dat hn; omega)) (upd_len h.len hl)
theorem Tree.table (h:Tree n V X L E)(hn:Disk n){f q:Nat}{l:List UInt8}(hq0:16522 ≤ q)(h0:L f q ≠ 0)(hl:l.length=512)(hk:∀ s,s < 128 → nm l (4 * s) 4=L f (kid q s)):Tree n (upd V (L f q) l) X L (fun g p => E g p ∧ ¬ (g=f ∧ par p=q)):=by
  obtain ⟨i1,i2,i3,i4⟩:=h.inn f q h0
  refine ⟨fun g p hg hp hE => ?_,fun g p hE => h.gone g p hE.1,h.inn,h.inj,fun b h1 h2 => ?_,upd_len h.len hl⟩
  · by_cases e:g=f ∧ par p=q
    · obtain ⟨rfl,rfl⟩:=e
      have hpn:par p ≠ 16652:=by omega
      obtain ⟨k1,k2,k3,k4⟩:=kid_par hp hpn
      rw [refn_tab hpn h0,upd_same,hk _ k2,k1]
    · have hE':¬ E g p:=fun hh => hE ⟨hh,e⟩
      rw [h.ref g p hg hp hE']
      by_cases e1:par p=16652
      · rw [refn_root e1,refn_root e1]
      · by_cases e0:L g (par p)=0
        · rw [refn_none e1 e0,refn_none e1 e0]
        · rw [refn_tab e1 e0,refn_tab e1 e0,upd_other _ _ _ (fun e2 => e (h.inj _ _ _ _ e0 e2))]
  · rw [upd_other _ _ _ (by have:=bm_lt hn h2; have:=ino_lt_dat hn; omega)]
    exact h.bits b h1 h2
theorem Tree.dead (h:Tree n V X L E){f q:Nat}(hq0:16522 ≤ q)(hq1:q < 16652)(h0:L f q=0):Tree n V X L (fun g p => E g p ∧ ¬ (g=f ∧ par p=q)):=by
  refine ⟨fun g p hg hp hE => ?_,fun g p hE => h.gone g p hE.1,h.inn,h.inj,h.bits,h.len⟩
  by_cases hE':E g p
  · by_cases e:g=f ∧ par p=q
    · obtain ⟨rfl,rfl⟩:=e
      rw [refn_none (by omega) h0]
      exact h.gone _ _ hE'
    · exact absurd ⟨hE',e⟩ hE
  · exact h.ref g p hg hp hE'
theorem Tree.root (h:Tree n V X L E){f p v:Nat}(hr:par p=16652)(hp:p < 16652)(hv:L f p=v):Tree n V (updX X f ((X f).set (slot p) v)) L (fun g q => E g q ∧ ¬ (g=f ∧ q=p)):=by
  refine ⟨fun g q hg hq hE => ?_,fun g q hE => h.gone g q hE.1,h.inn,h.inj,h.bits,h.len⟩
  by_cases e:g=f
  · subst e
    rw [updX_same]
    by_cases e2:q=p
    · subst e2
      rw [refn_root hr,Ino.set_same]; exact hv
    · rw [h.ref g q hg hq (fun hh => hE ⟨hh,fun hh => e2 hh.2⟩)]
      by_cases e1:par q=16652
      · rw [refn_root e1,refn_root e1,Ino.set_other _ _ _ (fun hs => e2 (root_slot e1 hr hs hq hp))]
      · by_cases e0:L g (par q)=0
        · rw [refn_none e1 e0,refn_none e1 e0]
        · rw [refn_tab e1 e0,refn_tab e1 e0]
  · rw [updX_other _ _ _ e]
    exact h.ref g q hg hq (fun hh => hE ⟨hh,fun hh => e hh.1⟩)
theorem Tree.weak (h:Tree n V X L E){E2:Nat → Nat → Prop}(h1:∀ f p,E f p → E2 f p)(h2:∀ f p,E2 f p → L f p=0):Tree n V X L E2 :=
  ⟨fun f p hf hp hE => h.ref f p hf hp (fun hh => hE (h1 f p hh)),h2,h.inn,h.inj,h.bits,h.len⟩
theorem Tree.same (h:Tree n V X L E){E2:Nat → Nat → Prop}(h1:∀ f p,E f p → E2 f p)(h2:∀ f p,E2 f p → E f p):Tree n V X L E2:=h.weak h1 (fun f p e => h.gone f p (h2 f p e))
theorem bits_put (hn:Disk n)(hlen:∀ i,i < n → (V i).length=512){q:Nat}(hq:q < n)(on:Bool){b:Nat}(hb:b < n) :
    Bt.bit (upd V (98 + q / 4096) (Bt.putL (V (98 + q / 4096)) ((q % 4096:Nat):Int) on) (98 + b / 4096)) (b % 4096)=if b=q then on else Bt.bit (V (98 + b / 4096)) (b % 4096):=by
  have hl:=hlen (98 + q / 4096) (by have:=bm_lt hn hq; have:=ino_lt_dat hn; have:=dat_lt hn; omega)
  by_cases e:b / 4096=q / 4096
  · rw [e,upd_same,Bt.put_bit _ _ _ _ (by rw [hl]; omega)]
    by_cases e2:b=q
    · subst e2; rw [if_pos rfl,if_pos rfl]
    · rw [if_neg (by omega),if_neg e2]
  · rw [upd_other _ _ _ (by omega),if_neg (fun e2 => e (by rw [e2]))]
theorem Tree.give (h:Tree n V X L E)(hn:Disk n){f p:Nat}(h0:L f p ≠ 0)(hk:∀ q,q < 16652 → par q=p → L f q=0) :
    Tree n (upd V (98 + L f p / 4096) (Bt.putL (V (98 + L f p / 4096)) ((L f p % 4096:Nat):Int) false)) X (updL L f p 0) (fun g q => E g q ∨ (g=f ∧ q=p)):=by
  obtain ⟨i1,i2,i3,i4⟩:=h.inn f p h0
  have hbm:=bm_lt hn i4
  have hid:=ino_lt_dat hn
  refine ⟨fun g q hg hq hE => ?_,fun g q hE => ?_,fun g q hgq => ?_,fun g q g' q' hgq heq => ?_,fun b h1 h2 => ?_,?_⟩
  · have hE1:¬ E g q:=fun hh => hE (.inl hh)
    have hE2:¬ (g=f ∧ q=p):=fun hh => hE (.inr hh)
    rw [updL_other _ _ _ _ hE2]
    by_cases e1:par q=16652
    · rw [refn_root e1,h.ref g q hg hq hE1,refn_root e1]
    · by_cases e:g=f ∧ par q=p
      · obtain ⟨rfl,rfl⟩:=e
        rw [refn_none e1 (updL_same _ _ _ _)]
        exact hk q hq rfl
      · have e3:updL L f p 0 g (par q)=L g (par q):=updL_other _ _ _ _ e
        by_cases e0:L g (par q)=0
        · rw [refn_none e1 (by rw [e3]; exact e0),h.ref g q hg hq hE1,refn_none e1 e0]
        · rw [refn_tab e1 (by rw [e3]; exact e0),e3,h.ref g q hg hq hE1,refn_tab e1 e0,upd_other _ _ _ (by have:=(h.inn _ _ e0).2.2.1; omega)]
  · by_cases e:g=f ∧ q=p
    · obtain ⟨rfl,rfl⟩:=e; exact updL_same _ _ _ _
    · rw [updL_other _ _ _ _ e]
      rcases hE with hE | hE
      · exact h.gone g q hE
      · exact absurd hE e
  · by_cases e:g=f ∧ q=p
    · obtain ⟨rfl,rfl⟩:=e; rw [updL_same] at hgq; exact absurd rfl hgq
    · rw [updL_other _ _ _ _ e] at hgq ⊢; exact h.inn g q hgq
  · by_cases e:g=f ∧ q=p
    · obtain ⟨rfl,rfl⟩:=e; rw [updL_same] at hgq; exact absurd rfl hgq
    · rw [updL_other _ _ _ _ e] at hgq heq
      by_cases e':g'=f ∧ q'=p
      · obtain ⟨rfl,rfl⟩:=e'; rw [updL_same] at heq; exact absurd heq hgq
      · rw [updL_other _ _ _ _ e'] at heq; exact h.inj g q g' q' hgq heq
  · rw [bits_put hn h.len i4 false h2]
    by_cases e:b=L f p
    · rw [if_pos e]
      constructor
      · intro hh; cases hh
      · rintro ⟨g,q,hgq⟩
        exfalso
        by_cases e':g=f ∧ q=p
        · obtain ⟨rfl,rfl⟩:=e'; rw [updL_same] at hgq; omega
        · rw [updL_other _ _ _ _ e'] at hgq
          exact e' (h.inj g q f p (by omega) (by omega))
    · rw [if_neg e,h.bits b h1 h2]
      constructor
      · rintro ⟨g,q,hgq⟩
        refine ⟨g,q,?_⟩
        rw [updL_other _ _ _ _ (fun e' => e (by rw [← hgq,e'.1,e'.2]))]; exact hgq
      · rintro ⟨g,q,hgq⟩
        by_cases e':g=f ∧ q=p
        · obtain ⟨rfl,rfl⟩:=e'; rw [updL_same] at hgq; omega
        · rw [updL_other _ _ _ _ e'] at hgq; exact ⟨g,q,hgq⟩
  · exact upd_len h.len (by rw [Bt.putL_length]; exact h.len _ (by have:=dat_lt hn; omega))
theorem Tree.take (h:Tree n V X L E)(hn:Disk n){q:Nat}(hq1:dat n ≤ q)(hq2:q < n)(hbit:Bt.bit (V (98 + q / 4096)) (q % 4096)=false){f p:Nat}(hf:f < 3)(hp:p < 16652)(h0:L f p=0){z:List UInt8}(hz:z.length=512)(hz0:∀ s,s < 128 → nm z (4 * s) 4=0) :
    (∀ g r,L g r ≠ q) ∧ ∀ V2,(∀ i,i < n → V2 i=upd (upd V (98 + q / 4096) (Bt.putL (V (98 + q / 4096)) ((q % 4096:Nat):Int) true)) q z i) →
      (∀ g r,g < 3 → r < 16652 → ¬ E g r → ¬ (g=f ∧ r=p) → updL L f p q g r=refn V2 (X g) (updL L f p q g) r) ∧ (∀ g r,updL L f p q g r ≠ 0 → g < 3 ∧ r < 16652 ∧ dat n ≤ updL L f p q g r ∧ updL L f p q g r < n) ∧
      (∀ g r g' r',updL L f p q g r ≠ 0 → updL L f p q g r=updL L f p q g' r' → g=g' ∧ r=r') ∧ (∀ b,dat n ≤ b → b < n → (Bt.bit (V2 (98 + b / 4096)) (b % 4096)=true ↔ ∃ g r,updL L f p q g r=b)) ∧ (∀ i,i < n → (V2 i).length=512):=by
  have hbm:=bm_lt hn hq2
  have hid:=ino_lt_dat hn
  have hdn:=dat_lt hn
  have hno:∀ g r,L g r ≠ q:=fun g r e => by
    have:=(h.bits q hq1 hq2).2 ⟨g,r,e⟩
    rw [hbit] at this; cases this
  refine ⟨hno,fun V2 hV2 => ⟨fun g r hg hr hE hne => ?_,fun g r hgr => ?_,fun g r g' r' hgr heq => ?_,fun b h1 h2 => ?_,fun i hi => ?_⟩⟩
  · rw [updL_other _ _ _ _ hne,h.ref g r hg hr hE]
    by_cases e1:par r=16652
    · rw [refn_root e1,refn_root e1]
    · by_cases e:g=f ∧ par r=p
      · obtain ⟨rfl,rfl⟩:=e
        rw [refn_none e1 h0,refn_tab e1 (by rw [updL_same]; omega),updL_same,hV2 q hq2,upd_same,hz0 _ (kid_par hr e1).2.1]
      · have e3:updL L f p q g (par r)=L g (par r):=updL_other _ _ _ _ e
        by_cases e0:L g (par r)=0
        · rw [refn_none e1 e0,refn_none e1 (by rw [e3]; exact e0)]
        · have hi:=h.inn _ _ e0
          rw [refn_tab e1 e0,refn_tab e1 (by rw [e3]; exact e0),e3,hV2 _ hi.2.2.2,upd_other _ _ _ (hno _ _),upd_other _ _ _ (by omega)]
  · by_cases e:g=f ∧ r=p
    · obtain ⟨rfl,rfl⟩:=e; rw [updL_same]; exact ⟨hf,hp,hq1,hq2⟩
    · rw [updL_other _ _ _ _ e] at hgr ⊢; exact h.inn g r hgr
  · by_cases e:g=f ∧ r=p
    · obtain ⟨rfl,rfl⟩:=e
      rw [updL_same] at heq
      by_cases e':g'=g ∧ r'=r
      · exact ⟨e'.1.symm,e'.2.symm⟩
      · rw [updL_other _ _ _ _ e'] at heq; exact absurd heq.symm (hno _ _)
    · rw [updL_other _ _ _ _ e] at hgr heq
      by_cases e':g'=f ∧ r'=p
      · obtain ⟨rfl,rfl⟩:=e'; rw [updL_same] at heq; exact absurd heq (hno _ _)
      · rw [updL_other _ _ _ _ e'] at heq; exact h.inj g r g' r' hgr heq
  · rw [hV2 _ (by have:=bm_lt hn h2; omega),upd_other _ _ _ (by have:=bm_lt hn h2; omega),bits_put hn h.len hq2 true h2]
    by_cases e:b=q
    · rw [if_pos e]
      exact ⟨fun _ => ⟨f,p,by rw [updL_same,e]⟩,fun _ => rfl⟩
    · rw [if_neg e,h.bits b h1 h2]
      constructor
      · rintro ⟨g,r,hgr⟩
        refine ⟨g,r,?_⟩
        rw [updL_other _ _ _ _ (fun e' => by rw [e'.1,e'.2,h0] at hgr; omega)]; exact hgr
      · rintro ⟨g,r,hgr⟩
        by_cases e':g=f ∧ r=p
        · obtain ⟨rfl,rfl⟩:=e'; rw [updL_same] at hgr; exact absurd hgr.symm e
        · rw [updL_other _ _ _ _ e'] at hgr; exact ⟨g,r,hgr⟩
  · rw [hV2 i hi]
    exact upd_len (upd_len h.len (by rw [Bt.putL_length]; exact h.len _ (by omega))) hz i hi
theorem Tree.take_root (h:Tree0 n V X L)(hn:Disk n){q:Nat}(hq1:dat n ≤ q)(hq2:q < n)(hbit:Bt.bit (V (98 + q / 4096)) (q % 4096)=false){f p:Nat}(hf:f < 3)(hp:p < 16652)(h0:L f p=0){z:List UInt8}(hz:z.length=512)(hz0:∀ s,s < 128 → nm z (4 * s) 4=0)(hr:par p=16652) :
    Tree0 n (upd (upd V (98 + q / 4096) (Bt.putL (V (98 + q / 4096)) ((q % 4096:Nat):Int) true)) q z) (updX X f ((X f).set (slot p) q)) (updL L f p q):=by
  obtain ⟨hno,ht⟩:=h.take hn hq1 hq2 hbit hf hp h0 hz hz0
  obtain ⟨t1,t2,t3,t4,t5⟩:=ht _ (fun i _ => rfl)
  refine ⟨fun g r hg hr' hE => ?_,fun g r hE => hE.elim,t2,t3,t4,t5⟩
  by_cases e:g=f ∧ r=p
  · obtain ⟨rfl,rfl⟩:=e
    rw [updL_same,refn_root hr,updX_same,Ino.set_same]
  · rw [t1 g r hg hr' hE e]
    by_cases e1:par r=16652
    · rw [refn_root e1,refn_root e1]
      by_cases e2:g=f
      · subst e2
        rw [updX_same,Ino.set_other _ _ _ (fun hs => e ⟨rfl,root_slot e1 hr hs hr' hp⟩)]
      · rw [updX_other _ _ _ e2]
    · by_cases e0:updL L f p q g (par r)=0
      · rw [refn_none e1 e0,refn_none e1 e0]
      · rw [refn_tab e1 e0,refn_tab e1 e0]
theorem Tree.take_tab (h:Tree0 n V X L)(hn:Disk n){q:Nat}(hq1:dat n ≤ q)(hq2:q < n)(hbit:Bt.bit (V (98 + q / 4096)) (q % 4096)=false){f p:Nat}(hf:f < 3)(hp:p < 16652)(h0:L f p=0){z:List UInt8}(hz:z.length=512)(hz0:∀ s,s < 128 → nm z (4 * s) 4=0)(hr:par p ≠ 16652)(hpar:L f (par p) ≠ 0) :
    Tree0 n (upd (upd (upd V (98 + q / 4096) (Bt.putL (V (98 + q / 4096)) ((q % 4096:Nat):Int) true)) q z) (L f (par p)) (spliced (V (L f (par p))) (4 * slot p) (les q 4))) X (updL L f p q):=by
  obtain ⟨hno,ht⟩:=h.take hn hq1 hq2 hbit hf hp h0 hz hz0
  obtain ⟨t1,t2,t3,t4,t5⟩:=ht _ (fun i _ => rfl)
  obtain ⟨k1,k2,k3,k4⟩:=kid_par hp hr
  obtain ⟨i1,i2,i3,i4⟩:=h.inn _ _ hpar
  have hq32:q < 256 ^ 4:=by have:=(geo_facts hn).2.1; omega
  have hl:=h.len _ i4
  have hid:=ino_lt_dat hn
  have hbm:=bm_lt hn hq2
  have hsl:(spliced (V (L f (par p))) (4 * slot p) (les q 4)).length=512:=by rw [spliced_length _ _ _ (by rw [les_length,hl]; omega)]; exact hl
  refine ⟨fun g r hg hr' hE => ?_,fun g r hE => hE.elim,t2,t3,fun b h1 h2 => ?_,upd_len t5 hsl⟩
  · have hpp:par p ≠ p:=fun e => par_ne (p:=par p) (q:=p) k4 rfl hp e.symm
    have hLp:updL L f p q f (par p)=L f (par p):=updL_other _ _ _ _ (fun e => hpp e.2)
    by_cases e:g=f ∧ r=p
    · obtain ⟨rfl,rfl⟩:=e
      rw [updL_same,refn_tab hr (by rw [hLp]; exact hpar),hLp,upd_same,nm_same _ _ _ _ (by rw [hl]; omega) hq32]
    · rw [t1 g r hg hr' hE e]
      by_cases e1:par r=16652
      · rw [refn_root e1,refn_root e1]
      · by_cases e0:updL L f p q g (par r)=0
        · rw [refn_none e1 e0,refn_none e1 e0]
        · rw [refn_tab e1 e0,refn_tab e1 e0]
          by_cases e2:updL L f p q g (par r)=L f (par p)
          · have e3:=t3 g (par r) f (par p) e0 (by rw [hLp]; exact e2)
            obtain ⟨rfl,e4⟩:=e3
            rw [e2,upd_same,upd_other _ _ _ (hno _ _),upd_other _ _ _ (by omega)]
            have hs:slot r ≠ slot p:=fun hs => e ⟨rfl,by rw [← (kid_par hr' e1).1,e4,hs,k1]⟩
            rw [nm_other _ _ _ _ _ _ (by rw [hl]; omega) (by omega)]
          · rw [upd_other _ _ _ e2]
  · rw [upd_other _ _ _ (by have:=bm_lt hn h2; omega)]
    exact t4 b h1 h2
end
end Go.Proofs.YthkijogloebdoaaGreatDoor.Fs
end
section
namespace Go.Proofs.YthkijogloebdoaaGreatDoor
open Go.RowKit Go.Maps Rec Gp Fs
def fileC (t n:Nat)(x:Ino):Array Value := #[.pointer (some ⟨t,0,none⟩),.int .i64 (n:Int),.int .i64 98,.int .i64 (ino n:Int),.int .i64 (dat n:Int),.int .i64 (cnt n:Int),.int .i64 (x.kind:Int),.int .i64 (x.links:Int),.int .i64 (x.size:Int),.int .i64 (x.num 0:Int),.int .i64 (x.num 1:Int),.int .i64 (x.num 2:Int),.int .i64 (x.num 3:Int),.int .i64 (x.num 4:Int),.int .i64 (x.num 5:Int),.int .i64 (x.num 6:Int),.int .i64 (x.num 7:Int),.int .i64 (x.num 8:Int),.int .i64 (x.num 9:Int),.int .i64 (x.num 10:Int),.int .i64 (x.num 11:Int)]
def FileAt (w:World)(F t n:Nat)(x:Ino):Prop:=Is w F 142 (fileC t n x)
theorem fileC_num (t n:Nat)(x:Ino)(k:Nat)(hk:k < 12):(fileC t n x)[9 + k]? = some (.int .i64 (x.num k:Int)):=by
  match k,hk with
  | 0,_ | 1,_ | 2,_ | 3,_ | 4,_ | 5,_ | 6,_ | 7,_ | 8,_ | 9,_ | 10,_ | 11,_ => rfl
theorem fileC_set (t n:Nat)(x:Ino)(k v:Nat)(hk:k < 12):(fileC t n x).setIfInBounds (9 + k) (.int .i64 (v:Int))=fileC t n (x.set k v):=by
  match k,hk with
  | 0,_ | 1,_ | 2,_ | 3,_ | 4,_ | 5,_ | 6,_ | 7,_ | 8,_ | 9,_ | 10,_ | 11,_ => rfl
def wh (p:Nat):Nat:=if p < 10 then 0 else if p < 16522 then 3 else if p=16522 then 1 else if p=16523 then 2 else 3
def pl (p:Nat):Nat:=if p=16522 then 0 else if p=16523 then 0 else slot p
def path (k:Nat):List Nat:=if k < 10 then [k] else if k < 138 then [16522,k] else [16523,16524 + (k - 138) / 128,k]
def stepsC (k:Nat):Array Value:=((path k).flatMap fun p => [Value.int .i64 (wh p:Int),.int .i64 (pl p:Int)]).toArray
theorem wh_root {p:Nat}(hp:p < 16652):(wh p=3 ↔ par p ≠ 16652):=by
  unfold wh par
  by_cases h1:p < 10
  · rw [if_pos h1,if_pos h1]; omega
  · rw [if_neg h1,if_neg h1]
    by_cases h2:p < 138
    · rw [if_pos (show p < 16522 by omega),if_pos h2]; omega
    · rw [if_neg h2]
      by_cases h3:p < 16522
      · rw [if_pos h3,if_pos h3]; omega
      · rw [if_neg h3,if_neg h3]
        by_cases h4:p=16522
        · rw [if_pos h4,if_pos (by omega)]; omega
        · rw [if_neg h4]
          by_cases h5:p=16523
          · rw [if_pos h5,if_pos (by omega)]; omega
          · rw [if_neg h5,if_neg (by omega)]; omega
set_option maxRecDepth 100000 in
theorem look_any (w:World)(F t n:Nat)(x:Ino)(num:Nat)(h:FileAt w F t n x)(h0:dat n ≤ num)(h1:num < n) :
    Calls Tryz.prog 101 #[.pointer (some ⟨F,0,none⟩),.int .i64 (num:Int)] w fun e w' => e=.returned (.int .i64 0) ∧ w=w':=by
  have c1:w.cell? ⟨F,1,none⟩=some (.int .i64 (n:Int)):=h.cell 1
  have c4:w.cell? ⟨F,4,none⟩=some (.int .i64 (dat n:Int)):=h.cell 4
  have h2:(dat n:Int) ≤ (num:Int):=by omega
  have h3:(num:Int) < (n:Int):=by omega
  clear h
  go_enter Tryz.func101,Tryz.ntmps101
  go_wp2_with fail
  go_ret
  exact ⟨rfl,rfl⟩
set_option maxRecDepth 100000 in
theorem own_any (w:World)(F:Nat)(p:Nat)(hp:p < 16652)(hr:par p=16652)(hF:F < w.heap.size) :
    Calls Tryz.prog 107 #[.pointer (some ⟨F,0,none⟩),.agg #[.int .i64 (wh p:Int),.int .i64 (pl p:Int)]] w fun e w' => e=.returned (.pointer (some ⟨F,9 + slot p,none⟩)) ∧ Below w.heap.size w w':=by
  obtain ⟨a,ha⟩:∃ a,wh p=a:=⟨_,rfl⟩
  obtain ⟨b,hb⟩:∃ b,pl p=b:=⟨_,rfl⟩
  rw [ha,hb]
  obtain ⟨hb0,i0⟩:=one_new w #[.int .i64 (a:Int),.int .i64 (b:Int)] 145
  obtain ⟨W,hW⟩:∃ W,w.alloc (.cells #[.int .i64 (a:Int),.int .i64 (b:Int)] 145)=W:=⟨_,rfl⟩
  rw [hW] at hb0 i0
  have HB0:=Lib.hid hb0
  have c0:W.cell? ⟨w.heap.size,0,none⟩=some (.int .i64 (a:Int)):=i0.cell 0
  have c1:W.cell? ⟨w.heap.size,1,none⟩=some (.int .i64 (b:Int)):=i0.cell 1
  clear i0 hb0
  have hcase:(a=0 ∧ b < 10 ∧ slot p=b) ∨ (a=1 ∧ slot p=10) ∨ (a=2 ∧ slot p=11):=by
    unfold par at hr
    by_cases h1:p < 10
    · left
      rw [← ha,← hb]
      unfold wh pl slot
      rw [if_pos h1,if_neg (by omega),if_neg (by omega),if_pos h1]; omega
    · rw [if_neg h1] at hr
      by_cases h2:p < 138
      · rw [if_pos h2] at hr; omega
      · rw [if_neg h2] at hr
        by_cases h3:p < 16522
        · rw [if_pos h3] at hr; omega
        · rw [if_neg h3] at hr
          by_cases h4:p=16522
          · right; left; subst h4; exact ⟨ha.symm,rfl⟩
          · by_cases h5:p=16523
            · right; right; subst h5; exact ⟨ha.symm,rfl⟩
            · rw [if_neg (by omega)] at hr; omega
  clear ha hb hr hp
  rcases hcase with ⟨rfl,hb10,e3⟩ | ⟨rfl,e3⟩ | ⟨rfl,e3⟩
  · rw [e3]
    have hp1:(0:Int) ≤ (b:Int):=by omega
    have hp2:(b:Int) < 10:=by omega
    clear hb10 e3
    go_enter Tryz.func107,Tryz.ntmps107
    go_wp2_with (go_quiet (fail))
    go_ret
    exact ⟨rfl,below_drewN (below_new w _) _⟩
  · rw [e3]
    clear e3
    go_enter Tryz.func107,Tryz.ntmps107
    go_wp2_with (go_quiet (fail))
    go_ret
    exact ⟨rfl,below_new w _⟩
  · rw [e3]
    clear e3
    go_enter Tryz.func107,Tryz.ntmps107
    go_wp2_with (go_quiet (fail))
    go_ret
    exact ⟨rfl,below_new w _⟩
set_option maxRecDepth 100000 in
theorem way_any (k:Nat)(hk:k < 16522)(w:World) :
    Calls Tryz.prog 99 #[.int .i64 (k:Int)] w fun e w' => (∃ g,e=.returned (.slice (some ⟨g,0,none⟩) (path k).length (path k).length) ∧ Is w' g 145 (stepsC k) ∧ w.heap.size ≤ g) ∧ Below w.heap.size w w':=by
  by_cases h1:k < 10
  · have hk1:(k:Int) < 10:=by omega
    have e:path k=[k]:=if_pos h1
    have e2:stepsC k=#[.int .i64 0,.int .i64 (k:Int)]:=by
      unfold stepsC
      rw [e]
      unfold wh pl slot
      simp only [List.flatMap_cons,List.flatMap_nil,if_pos h1,if_neg (show ¬ k=16522 by omega),if_neg (show ¬ k=16523 by omega)]
      rfl
    rw [e,e2]
    clear e e2
    go_enter Tryz.func99,Tryz.ntmps99
    go_wp2_with fail
    go_ret
    exact ⟨⟨_,rfl,Is.new w _ _,Nat.le_refl _⟩,below_new w _⟩
  · by_cases h2:k < 138
    · have hk1:¬ (k:Int) < 10:=by omega
      have hk2:(k:Int) < 138:=by omega
      have e:path k=[16522,k]:=by unfold path; rw [if_neg h1,if_pos h2]
      have e2:stepsC k=#[.int .i64 1,.int .i64 0,.int .i64 3,.int .i64 ((k:Int) - 10)]:=by
        have e3:wh k=3:=by unfold wh; rw [if_neg h1,if_pos (by omega)]
        have e4:pl k=k - 10:=by unfold pl slot; rw [if_neg (by omega),if_neg (by omega),if_neg h1,if_pos h2]
        unfold stepsC
        rw [e,List.flatMap_cons,List.flatMap_cons,List.flatMap_nil,e3,e4,show ((k - 10:Nat):Int)=(k:Int) - 10 by omega]
        rfl
      rw [e,e2]
      clear e e2
      go_enter Tryz.func99,Tryz.ntmps99
      go_wp2_with fail
      go_ret
      exact ⟨⟨_,rfl,Is.new w _ _,Nat.le_refl _⟩,below_new w _⟩
    · have hk1:¬ (k:Int) < 10:=by omega
      have hk2:¬ (k:Int) < 138:=by omega
      have hk3:(k:Int) < 16522:=by omega
      have hk4:(0:Int) ≤ (k:Int) - 138:=by omega
      have e:path k=[16523,16524 + (k - 138) / 128,k]:=by unfold path; rw [if_neg h1,if_neg h2]
      have e2:stepsC k=#[.int .i64 2,.int .i64 0,.int .i64 3,.int .i64 (((k:Int) - 138) / 128),.int .i64 3,.int .i64 (((k:Int) - 138) % 128)]:=by
        have e3:wh k=3:=by unfold wh; rw [if_neg h1,if_pos (by omega)]
        have e4:pl k=(k - 138) % 128:=by unfold pl slot; rw [if_neg (by omega),if_neg (by omega),if_neg h1,if_neg h2,if_pos hk]
        have e5:wh (16524 + (k - 138) / 128)=3:=by unfold wh; rw [if_neg (by omega),if_neg (by omega),if_neg (by omega),if_neg (by omega)]
        have e6:pl (16524 + (k - 138) / 128)=(k - 138) / 128:=by unfold pl slot; rw [if_neg (by omega),if_neg (by omega),if_neg (by omega),if_neg (by omega),if_neg (by omega),if_neg (by omega)]; omega
        unfold stepsC
        rw [e,List.flatMap_cons,List.flatMap_cons,List.flatMap_cons,List.flatMap_nil,e3,e4,e5,e6,show (((k - 138) / 128:Nat):Int)=((k:Int) - 138) / 128 by omega,show (((k - 138) % 128:Nat):Int)=((k:Int) - 138) % 128 by omega]
        rfl
      rw [e,e2]
      clear e e2
      go_enter Tryz.func99,Tryz.ntmps99
      go_wp2_with fail
      go_ret
      exact ⟨⟨_,rfl,Is.new w _ _,Nat.le_refl _⟩,below_new w _⟩
end Go.Proofs.YthkijogloebdoaaGreatDoor
end
