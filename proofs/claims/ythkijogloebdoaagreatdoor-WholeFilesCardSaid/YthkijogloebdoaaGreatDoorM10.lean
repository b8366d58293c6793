/-
  WholeFiles, the texts Fq GeoP Fg Fv Fra Frb Fsa: lemmas for the proof that three files on one disk are plain rows of bytes. No conditions.
-/
import Derived.Test.YthkijogloebdoaaGreatDoorM09
import Derived.Test.YthkijogloebdoaaGreatDoorM01
import Derived.Test.YthkijogloebdoaaGreatDoorM07
import Derived.RangeFuncFrom
set_option linter.unusedVariables false
set_option linter.unusedSimpArgs false
section
namespace Go.Proofs.YthkijogloebdoaaGreatDoor.Bt
def clipF (first D:Nat)(x:Nat × Nat):Nat:=max (first + x.1) D
def clipT (first N:Nat)(x:Nat × Nat):Nat:=min (first + x.1 + x.2) N
def offs (l:List UInt8)(first D N:Nat):Nat → Nat
  | 0 => 0
  | k + 1 => offs l first D N k + if bit l k=false ∧ D ≤ first + k ∧ first + k < N then 1 else 0
def clipSum (first D N:Nat)(rs:List (Nat × Nat)):Nat:=(rs.map (fun x => clipT first N x - clipF first D x)).sum
theorem clipSum_append (first D N:Nat)(a b:List (Nat × Nat)):clipSum first D N (a ++ b)=clipSum first D N a + clipSum first D N b:=by unfold clipSum; rw [List.map_append,List.sum_append]
theorem clipSum_one (first D N:Nat)(x:Nat × Nat):clipSum first D N [x]=clipT first N x - clipF first D x:=by simp [clipSum]
theorem offs_le (l:List UInt8)(first D N k:Nat):offs l first D N k ≤ k:=by
  induction k with
  | zero => exact Nat.le_refl _
  | succ k ih => unfold offs; split <;> omega
theorem rows_last (l:List UInt8)(k:Nat)(h:bit l k=false):∃ p a n,rows l (k + 1)=p ++ [(a,n)] ∧ a + n=k + 1 ∧ 1 ≤ n:=by
  induction k with
  | zero => exact ⟨[],0,1,by rw [rows_new l 0 h (.inl rfl)]; rfl,rfl,Nat.le_refl _⟩
  | succ k ih =>
    cases hb:bit l k with
    | true => exact ⟨rows l (k + 1),k + 1,1,rows_new l (k + 1) h (.inr (by simpa using hb)),rfl,Nat.le_refl _⟩
    | false =>
      obtain ⟨p,a,n,e,h1,h2⟩:=ih hb
      exact ⟨p,a,n + 1,by rw [rows_more l k h hb,e,bump_snoc],by omega,by omega⟩
theorem clipSum_rows (l:List UInt8)(first D N k:Nat):clipSum first D N (rows l k)=offs l first D N k:=by
  induction k with
  | zero => rfl
  | succ k ih =>
    cases hb:bit l k with
    | true => rw [rows_on _ _ hb,ih]; simp [offs,hb]
    | false =>
      have hc:offs l first D N (k + 1)=offs l first D N k + if D ≤ first + k ∧ first + k < N then 1 else 0:=by simp [offs,hb]
      rw [hc,← ih]
      by_cases hk:k=0 ∨ bit l (k - 1)=true
      · rw [rows_new _ _ hb hk,clipSum_append,clipSum_one]
        congr 1
        unfold clipT clipF
        simp only
        split <;> omega
      · obtain ⟨c,rfl⟩:∃ c,k=c + 1:=⟨k - 1,by omega⟩
        have hp:bit l c=false:=by
          cases h:bit l c with
          | true => exact absurd (.inr (by simpa using h)) hk
          | false => rfl
        obtain ⟨p,a,n,e,h1,h2⟩:=rows_last l c hp
        rw [rows_more l c hb hp,e,bump_snoc,clipSum_append,clipSum_append,clipSum_one,clipSum_one,Nat.add_assoc]
        congr 1
        unfold clipT clipF
        simp only
        split <;> omega
theorem clipSum_runs (l:List UInt8)(first D N:Nat):clipSum first D N (runs l)=offs l first D N (8 * l.length):=clipSum_rows l first D N _
theorem offs_none (l:List UInt8)(first D N:Nat)(h:∀ x ∈ runs l,¬ clipF first D x < clipT first N x):offs l first D N (8 * l.length)=0:=by
  rw [← clipSum_runs]
  unfold clipSum
  generalize runs l=rs at h
  induction rs with
  | nil => rfl
  | cons x r ih =>
    rw [List.map_cons,List.sum_cons,ih (fun y hy => h y (List.mem_cons_of_mem _ hy))]
    have:=h x (List.mem_cons_self ..)
    omega
theorem clip_off {l:List UInt8}{first D N:Nat}{x:Nat × Nat}(hx:IsRow l x)(h:clipF first D x < clipT first N x) :
    first ≤ clipF first D x ∧ D ≤ clipF first D x ∧ clipF first D x < N ∧ clipF first D x - first < 8 * l.length ∧ bit l (clipF first D x - first)=false:=by
  obtain ⟨h1,h2,h3,_⟩:=hx
  unfold clipF clipT at h
  have e1:first ≤ clipF first D x:=by unfold clipF; omega
  have e2:x.1 ≤ clipF first D x - first:=by unfold clipF; omega
  have e3:clipF first D x - first < x.1 + x.2:=by unfold clipF; omega
  exact ⟨e1,by unfold clipF; omega,by unfold clipF; omega,by omega,h3 _ e2 e3⟩
end Go.Proofs.YthkijogloebdoaaGreatDoor.Bt
end
section
namespace Go.Proofs.YthkijogloebdoaaGreatDoor.Gp
open Rec
def ino (n:Nat):Nat:=98 + (n + 4095) / 4096
def dat (n:Nat):Nat:=ino n + n / 64
def cnt (n:Nat):Nat:=n / 64 * 8
def zs (k:Nat):List UInt8:=List.replicate k 0
def Disk (n:Int):Prop:=128 ≤ n ∧ n ≤ 16384
instance (n:Int):Decidable (Disk n):=by unfold Disk; infer_instance
end Go.Proofs.YthkijogloebdoaaGreatDoor.Gp
end
section
namespace Go.Proofs.YthkijogloebdoaaGreatDoor
open Go.RowKit Rec Gp
theorem lay_any (g:Nat)(t:TypeId)(x b k y:Int)(w:World)(h:Is w g t #[.int .i64 x,.int .i64 b])(hx0:0 ≤ x)(hx1:x ≤ 1000000)(hk0:0 ≤ k)(hk1:k ≤ 1000000)(hy:x + k=y) :
    Calls Tryz.prog 25 #[.pointer (some ⟨g,0,none⟩),.int .i64 k] w fun e w' => e=.returned (.int .i64 x) ∧ Is w' g t #[.int .i64 y,.int .i64 b] ∧ Keeps (fun i => i=g) w w':=by
  have hc:=h.cell 0
  have hf:=h.free 0
  have hc:w.cell? ⟨g,0,none⟩=some (.int .i64 x):=hc
  have hw:IntKind.i64.wrap (x + k)=x + k:=IntWalk.i64_in _ (by omega)
  subst hy
  have H:=Lib.hid h
  clear h
  go_enter Tryz.func25,Tryz.ntmps25
  go_wp2_with fail
  go_ret
  refine ⟨rfl,H.out.put 0 _,?_⟩
  have hb:Below 0 w (w.setCell ⟨g,0,none⟩ (.int .i64 (x + k))):=(Below.refl _ _).setCell (Nat.zero_le _) _
  exact ⟨hb.os,hb.tape,hb.output,hb.size,fun i hi hn => heap_setCell_other w ⟨g,0,none⟩ i _ hn⟩
def geoCells (n:Nat):Array Value := #[.int .i64 (n:Int),.int .i64 98,.int .i64 (ino n:Int),.int .i64 (dat n:Int),.int .i64 (cnt n:Int)]
def noCells:Array Value := #[.int .i64 0,.int .i64 0,.int .i64 0,.int .i64 0,.int .i64 0]
set_option maxHeartbeats 1600000 in
theorem geo_of_ok (n:Nat)(w:World)(h:Disk n) :
    Calls Tryz.prog 7 #[.int .i64 (n:Int)] w fun e w' => e=.returned (.tuple #[.agg (geoCells n),.int .i64 0]) ∧ Below w.heap.size w w':=by
  unfold Disk at h
  obtain ⟨h1,h2⟩:=h
  have hI:=(show ino n ≤ 200 by unfold ino; omega)
  have hD:=(show dat n ≤ 1000 by unfold dat ino; omega)
  have hC:=(show cnt n ≤ 4000 by unfold cnt; omega)
  have hT:=(show n / 64 ≤ 300 by omega)
  have hB:=(show (n + 4095) / 4096 ≤ 10 by omega)
  have hIe:=Lib.hid (show (98:Int) + (((n + 4095) / 4096:Nat):Int)=(ino n:Int) by unfold ino; omega)
  have hDe:=Lib.hid (show (ino n:Int) + ((n / 64:Nat):Int)=(dat n:Int) by unfold dat; omega)
  have hDe0:=Lib.hid (show (dat n:Int) + 0=(dat n:Int) by omega)
  have hCe:=Lib.hid (show ((n / 64:Nat):Int) * 8=(cnt n:Int) by unfold cnt; omega)
  have hq1:=Lib.hid (show ((n:Int) + 4095) / 4096=(((n + 4095) / 4096:Nat):Int) by omega)
  have hq2:=Lib.hid (show (n:Int) / 64=((n / 64:Nat):Int) by omega)
  obtain ⟨hb0,i0,i1⟩:=two_new w noCells #[.int .i64 0,.int .i64 (n:Int)] 31 77
  have HB0:=Lib.hid hb0
  have HI0:=Lib.hid i0
  have HI1:=Lib.hid i1
  clear hb0 i0 i1
  go_enter Tryz.func7,Tryz.ntmps7
  go_wp2_with fail
  refine (lay_any (w.heap.size + 1) 77 0 n 98 98 _ HI1.out (by omega) (by omega) (by omega) (by omega) rfl).mono ?_
  rintro e w1 ⟨rfl,j1,k1⟩
  have J0:=Lib.hid (HI0.out.keeps k1 (by omega))
  have B1:=Lib.hid (HB0.out.trans (k1.below (by simp; omega) (fun i hi => by omega)))
  have J1:=Lib.hid j1
  have hc1:w1.cell? ⟨w.heap.size + 1,1,none⟩=some (.int .i64 (n:Int)):=j1.cell 1
  have hl1:=j1.lt
  clear j1 k1 HI0 HI1 HB0
  go_wp2_with fail
  obtain ⟨hbn,gn⟩:=one_new w1 #[.int .i64 (n:Int),.int .i64 0,.int .i64 0,.int .i64 0,.int .i64 ((n:Int) / 64 * 8)] 31
  have hIe:=(show (98:Int) + ((n:Int) + 4096 - 1) / 4096=(ino n:Int) by unfold ino; omega)
  refine (lay_any (w.heap.size + 1) 77 98 n (((n:Int) + 4096 - 1) / 4096) (ino n) _ (J1.out.alloc _) (by omega) (by omega) (by omega) (by omega) hIe).mono ?_
  rintro e w2 ⟨rfl,j2,k2⟩
  have G2:=Lib.hid (gn.keeps k2 (by omega))
  have J02:=Lib.hid ((J0.out.alloc _).keeps k2 (by omega))
  have B2:=Lib.hid (B1.out.trans ((hbn.mono B1.out.size).trans (k2.below (by simp; omega) (fun i hi => by omega))))
  have J2:=Lib.hid j2
  have hl2:=j2.lt
  have hc2:w2.cell? ⟨w1.heap.size,1,none⟩=some (.int .i64 0):=G2.out.cell 1
  have hf2:=G2.out.free 1
  clear j2 k2 hbn gn J0 J1 B1 hIe hc1
  go_wp2_with fail
  have hDe:=(show (ino n:Int) + (n:Int) / 64=(dat n:Int) by unfold dat; omega)
  refine (lay_any (w.heap.size + 1) 77 (ino n) n ((n:Int) / 64) (dat n) _ (J2.out.other ⟨w1.heap.size,1,none⟩ (by show w.heap.size + 1 ≠ w1.heap.size; omega) _) (by omega) (by omega) (by omega) (by omega) hDe).mono ?_
  rintro e w3 ⟨rfl,j3,k3⟩
  have G3:=Lib.hid ((G2.out.put 1 (.int .i64 98)).keeps k3 (by omega))
  have J03:=Lib.hid ((J02.out.other ⟨w1.heap.size,1,none⟩ (by show w.heap.size ≠ w1.heap.size; omega) (.int .i64 98)).keeps k3 (by omega))
  have B3:=Lib.hid ((B2.out.setCell (p:=⟨w1.heap.size,1,none⟩) (by show w.heap.size ≤ w1.heap.size; omega) (.int .i64 98)).trans (k3.below (by simp; omega) (fun i hi => by omega)))
  have J3:=Lib.hid j3
  have hl3:=j3.lt
  have hc3:w3.cell? ⟨w1.heap.size,2,none⟩=some (.int .i64 0):=G3.out.cell 2
  have hf3:=G3.out.free 2
  clear j3 k3 J02 J2 B2 hDe hc2 hf2
  go_wp2_with fail
  have hDe0:=(show (dat n:Int) + 0=(dat n:Int) by omega)
  refine (lay_any (w.heap.size + 1) 77 (dat n) n 0 (dat n) _ (J3.out.other ⟨w1.heap.size,2,none⟩ (by show w.heap.size + 1 ≠ w1.heap.size; omega) _) (by omega) (by omega) (by omega) (by omega) hDe0).mono ?_
  rintro e w4 ⟨rfl,j4,k4⟩
  have G4:=((G3.out.put 2 (.int .i64 (ino n:Int))).keeps k4 (by omega))
  have J04:=((J03.out.other ⟨w1.heap.size,2,none⟩ (by show w.heap.size ≠ w1.heap.size; omega) (.int .i64 (ino n:Int))).keeps k4 (by omega))
  have B4:=Lib.hid ((B3.out.setCell (p:=⟨w1.heap.size,2,none⟩) (by show w.heap.size ≤ w1.heap.size; omega) (.int .i64 (ino n:Int))).trans (k4.below (by simp; omega) (fun i hi => by omega)))
  have c40:w4.cell? ⟨w1.heap.size,0,none⟩=some (.int .i64 (n:Int)):=G4.cell 0
  have c41:w4.cell? ⟨w1.heap.size,1,none⟩=some (.int .i64 98):=G4.cell 1
  have c42:w4.cell? ⟨w1.heap.size,2,none⟩=some (.int .i64 (ino n:Int)):=G4.cell 2
  have c43:w4.cell? ⟨w1.heap.size,3,none⟩=some (.int .i64 0):=G4.cell 3
  have c44:w4.cell? ⟨w1.heap.size,4,none⟩=some (.int .i64 ((n:Int) / 64 * 8)):=G4.cell 4
  have d40:w4.cell? ⟨w.heap.size,0,none⟩=some (.int .i64 0):=J04.cell 0
  have d41:w4.cell? ⟨w.heap.size,1,none⟩=some (.int .i64 0):=J04.cell 1
  have d42:w4.cell? ⟨w.heap.size,2,none⟩=some (.int .i64 0):=J04.cell 2
  have d43:w4.cell? ⟨w.heap.size,3,none⟩=some (.int .i64 0):=J04.cell 3
  have d44:w4.cell? ⟨w.heap.size,4,none⟩=some (.int .i64 0):=J04.cell 4
  have f4:∀ i,w4.frozen? ⟨w1.heap.size,i,none⟩=false:=fun i => G4.free i
  have f5:∀ i,w4.frozen? ⟨w.heap.size,i,none⟩=false:=fun i => J04.free i
  have hne:w.heap.size ≠ w1.heap.size:=by omega
  have hne2:w1.heap.size ≠ w.heap.size:=by omega
  clear j4 k4 J03 J3 B3 hDe0 hc3 hf3 G3 G4 J04 G2
  go_wp2_with fail
  rw [show (geoCells n)=#[.int .i64 (n:Int),.int .i64 98,.int .i64 (ino n:Int),.int .i64 (dat n:Int),.int .i64 ((n:Int) / 64 * 8)] by unfold geoCells; rw [show ((cnt n:Nat):Int)=(n:Int) / 64 * 8 by unfold cnt; omega]]
  refine bodyPost_ret (v:=.tuple #[.agg #[.int .i64 (n:Int),.int .i64 98,.int .i64 (ino n:Int),.int .i64 (dat n:Int),.int .i64 ((n:Int) / 64 * 8)],.int .i64 0]) (by simp [results,Tryz.results7,go_sem,d40,d41,d42,d43,d44,hne,hne2]) rfl ⟨rfl,?_⟩
  exact (((((B4.out.setCell (p:=⟨w1.heap.size,3,none⟩) (by show w.heap.size ≤ w1.heap.size; omega) _).setCell (p:=⟨w.heap.size,0,none⟩) (Nat.le_refl _) _).setCell (p:=⟨w.heap.size,1,none⟩) (Nat.le_refl _) _).setCell (p:=⟨w.heap.size,2,none⟩) (Nat.le_refl _) _).setCell (p:=⟨w.heap.size,3,none⟩) (Nat.le_refl _) _).setCell (p:=⟨w.heap.size,4,none⟩) (Nat.le_refl _) _
theorem geo_bit_ok (n:Nat)(i:Int)(w:World)(hn:Disk n)(h0:0 ≤ i)(h1:i < n) :
    Calls Tryz.prog 160 #[.agg #[.int .i64 (n:Int),.int .i64 98,.int .i64 (ino n:Int),.int .i64 (dat n:Int),.int .i64 (cnt n:Int)],.int .i64 i] w fun e w' => e=.returned (.tuple #[.int .i64 (98 + i / 4096),.int .i64 (i % 4096),.int .i64 0]) ∧ Below w.heap.size w w':=by
  have hd:(n:Int) ≤ 16384:=hn.2
  obtain ⟨I,hI⟩:∃ I,ino n=I:=⟨_,rfl⟩
  obtain ⟨D,hD⟩:∃ D,dat n=D:=⟨_,rfl⟩
  obtain ⟨C,hC⟩:∃ C,cnt n=C:=⟨_,rfl⟩
  rw [hI,hD,hC]
  clear hI hD hC
  go_enter Tryz.func160,Tryz.ntmps160
  go_wp2_with fail
  go_ret3
  exact ⟨rfl,below_new _ _⟩
theorem geo_record_ok (n:Nat)(i:Int)(w:World)(hn:Disk n)(h0:1 ≤ i)(h1:i < cnt n) :
    Calls Tryz.prog 90 #[.agg #[.int .i64 (n:Int),.int .i64 98,.int .i64 (ino n:Int),.int .i64 (dat n:Int),.int .i64 (cnt n:Int)],.int .i64 i] w fun e w' => e=.returned (.tuple #[.int .i64 ((ino n:Int) + i / 8),.int .i64 (i % 8 * 64),.int .i64 0]) ∧ Below w.heap.size w w':=by
  have hd:(n:Int) ≤ 16384:=hn.2
  have hI2:ino n ≤ 200:=by unfold ino; omega
  have hC2:cnt n ≤ 4000:=by unfold cnt; omega
  obtain ⟨I,hI⟩:∃ I,ino n=I:=⟨_,rfl⟩
  obtain ⟨D,hD⟩:∃ D,dat n=D:=⟨_,rfl⟩
  obtain ⟨C,hC⟩:∃ C,cnt n=C:=⟨_,rfl⟩
  rw [hC] at h1 hC2
  rw [hI] at hI2
  rw [hI,hD,hC]
  clear hI hD hC
  go_enter Tryz.func90,Tryz.ntmps90
  go_wp2_with fail
  go_ret3
  exact ⟨rfl,below_new _ _⟩
end Go.Proofs.YthkijogloebdoaaGreatDoor
end
section
namespace Go.Proofs.YthkijogloebdoaaGreatDoor
open Go.RowKit Go.Shelf Bt Gp
attribute [local go_sem] Oper.semAt_some
def KeepB (n₀:Nat)(S:Nat → Prop)(W W':World):Prop := ∀ k,k < n₀ → ¬ S k → W'.heap[k]? = W.heap[k]?
theorem keepB_t {n₀:Nat}{S:Nat → Prop}{A B C:World}(h:KeepB n₀ S A B)(k:KeepB n₀ S B C):KeepB n₀ S A C:=fun i hi hs => (k i hi hs).trans (h i hi hs)
theorem keepB_b {n₀:Nat}{S:Nat → Prop}{w:World}(hn:n₀ ≤ w.heap.size)(W:World)(l:Nat)(o o':Obj)(hl:w.heap.size ≤ l)(h:W.heap[l]? = some o)(_:o.isCells=false)(_:o.isWalk=false):KeepB n₀ S W (W.putObj l o') :=
  fun k hk _ => World.putObj_heap_other (by omega)
theorem keepB_set {n₀:Nat}{S:Nat → Prop}(W:World)(g k:Nat)(v:Value)(hS:S g):KeepB n₀ S W (W.setCell ⟨g,k,none⟩ v) :=
  fun i _ hs => heap_setCell_other W ⟨g,k,none⟩ i v (fun e => hs (by rw [e]; exact hS))
theorem ownFrom_keeps {β:Type}{B:Nat}{S:Nat → Prop} {w₀:World}(hB:w₀.heap.size ≤ B):OwnFrom B (fun (_ : β) W => Keeps S w₀ W) :=
  fun _ W W' row hs hg hr => ⟨hg.os.trans hs.os,hg.tape.trans hs.tape,hg.output.trans hs.output,Nat.le_trans hs.size hg.size,fun k hk hn => (hg.block k (Nat.lt_of_lt_of_le hk hs.size) (fun e => by have:=(hr k e.symm).1; omega)).trans (hs.block k hk hn)⟩
theorem ownFrom_is {β:Type}{B g:Nat}{t:TypeId}{cs : β → Array Value}:OwnFrom B (fun (s : β) W => Is W g t (cs s)) :=
  fun s W W' row hs hg hr => (grownBy_keeps_cells hg (fun r e => (hr r e).2) hs rfl).trans hs
theorem ownFrom_const {β:Type}{B:Nat}{p : β → Prop}:OwnFrom B (fun (s : β)(_:World) => p s):=fun _ _ _ _ hs _ _ => hs
theorem Keeps.putObj {S:Nat → Prop}{w W:World}(h:Keeps S w W){D:Nat}(hD:w.heap.size ≤ D)(o:Obj):Keeps S w (W.putObj D o) :=
  ⟨h.os,h.tape,h.output,Nat.le_trans h.size (by rw [World.putObj_size]; exact Nat.le_refl _),fun k hk hn => (World.putObj_heap_other (by omega)).trans (h.block k hk hn)⟩
theorem run_max_ii (p q m:Int)(hm:(if p < q then q else p)=m)(W:World):(Builtin.max_ #[3,3] 3 #[.int .i64 p,.int .i64 q]).run Tryz.prog W=.ok (.int .i64 m) W:=by
  rw [← hm]; simp [Builtin.max_,Builtin.max2]
theorem run_min_ii (p q m:Int)(hm:(if q < p then q else p)=m)(W:World):(Builtin.min_ #[3,3] 3 #[.int .i64 p,.int .i64 q]).run Tryz.prog W=.ok (.int .i64 m) W:=by
  rw [← hm]; simp [Builtin.min_,Builtin.min2]
theorem take11_any (p:Nat)(from_ upto_:Int)(x:Int)(w:World)(h:Is w p 3 #[.int .i64 x]) :
    Calls Tryz.prog 103 #[.int .i64 from_,.int .i64 upto_,.pointer (some ⟨p,0,none⟩)] w fun e w' => e=.returned (.bool false) ∧ w'=w.setCell ⟨p,0,none⟩ (.int .i64 from_):=by
  have hc:w.cell? ⟨p,0,none⟩=some (.int .i64 x):=h.cell 0
  have hf:=h.free 0
  clear h
  go_enter Tryz.func103,Tryz.ntmps103
  go_wp2_with fail
  go_ret
  exact ⟨rfl,rfl⟩
theorem free11_any (p:Nat)(from_ upto_:Nat)(x y:Int)(w:World)(h:Is w p 3 #[.int .i64 x])(hft:from_ ≤ upto_)(hto:upto_ ≤ 1000000)(hx0:0 ≤ x)(hx1:x ≤ 1000000000)(hy:x + ((upto_:Int) - (from_:Int))=y) :
    Calls Tryz.prog 49 #[.int .i64 from_,.int .i64 upto_,.pointer (some ⟨p,0,none⟩)] w fun e w' => e=.returned (.bool true) ∧ w'=w.setCell ⟨p,0,none⟩ (.int .i64 y):=by
  have hc:w.cell? ⟨p,0,none⟩=some (.int .i64 x):=h.cell 0
  have hf:=h.free 0
  subst hy
  clear h
  go_enter Tryz.func49,Tryz.ntmps49
  go_wp2_with fail
  go_ret
  exact ⟨rfl,rfl⟩
end Go.Proofs.YthkijogloebdoaaGreatDoor
end
section
namespace Go.Proofs.YthkijogloebdoaaGreatDoor
open Go.RowKit Go.Shelf Bt Gp
attribute [local go_sem] Oper.semAt_some
def Found (l:List UInt8)(first D N:Nat)(f:Int):Prop :=
  (f=0 ∧ offs l first D N (8 * l.length)=0) ∨ ∃ q:Nat,f=(q:Int) ∧ first ≤ q ∧ D ≤ q ∧ q < N ∧ q - first < 8 * l.length ∧ bit l (q - first)=false
set_option maxRecDepth 100000 in
set_option maxHeartbeats 4000000 in
theorem rowsT_any (n first g cp p:Nat)(l:List UInt8)(hl:l.length=512)(w:World)(hn:Disk n)(hf:first ≤ 20000)(hb:Bytes w (some ⟨g,0,none⟩) l)(hp:Is w p 3 #[.int .i64 0]) :
    Calls Tryz.prog 48 #[.agg #[.int .i64 (n:Int),.int .i64 98,.int .i64 (ino n:Int),.int .i64 (dat n:Int),.int .i64 (cnt n:Int)],.int .i64 (first:Int),.slice (some ⟨g,0,none⟩) 512 cp,.func (.func 103) #[] #[.pointer (some ⟨p,0,none⟩)]] w fun e w' =>
      e=.returned (.tuple #[]) ∧ (∃ f,Found l first (dat n) n f ∧ Is w' p 3 #[.int .i64 f]) ∧ Keeps (·=p) w w':=by
  have hn2:(n:Int) ≤ 16384:=hn.2
  have hD2:dat n ≤ 1000:=by have h1:128 ≤ (n:Int):=hn.1; unfold dat ino; omega
  obtain ⟨D,hD⟩:∃ D,dat n=D:=⟨_,rfl⟩
  obtain ⟨I,hI⟩:∃ I,ino n=I:=⟨_,rfl⟩
  obtain ⟨C,hC⟩:∃ C,cnt n=C:=⟨_,rfl⟩
  rw [hD] at hD2
  rw [hD,hI,hC]
  clear hD hI hC hn
  have HL:=Lib.hid hl
  have HB:=Lib.hid hb
  have HP:=Lib.hid hp
  have hplt:=hp.lt
  clear hl hb hp
  refine (callsIn_wide (n:=6)).1 ?_
  refine callsIn_of_wp_marks Tryz.func48 rfl trivial ?_ rfl
  simp only [Tryz.ntmps48,List.size_toArray,List.length_cons,List.length_nil,Nat.reduceAdd,Nat.reduceSub,Array.replicate_succ,Array.replicate_zero,List.push_toArray,List.append_toArray,List.nil_append,List.cons_append]
  obtain ⟨hb2,i0,i1⟩:=two_new w #[.int .i64 (n:Int),.int .i64 98,.int .i64 (I:Int),.int .i64 (D:Int),.int .i64 (C:Int)] #[.int .i64 (first:Int)] 31 3
  obtain ⟨hb3,i2⟩:=one_new ((w.alloc (.cells #[.int .i64 (n:Int),.int .i64 98,.int .i64 (I:Int),.int .i64 (D:Int),.int .i64 (C:Int)] 31)).alloc (.cells #[.int .i64 (first:Int)] 3)) #[.func (.func 103) #[] #[.pointer (some ⟨p,0,none⟩)]] 120
  have j0:=i0.below hb3 i0.lt
  have j1:=i1.below hb3 i1.lt
  rw [World.size_alloc,World.size_alloc] at i2
  have hb:Below w.heap.size w _:=hb2.trans (hb3.mono (by rw [World.size_alloc,World.size_alloc]; omega))
  obtain ⟨W0,hW0⟩:∃ W0,(((w.alloc (.cells #[.int .i64 (n:Int),.int .i64 98,.int .i64 (I:Int),.int .i64 (D:Int),.int .i64 (C:Int)] 31)).alloc (.cells #[.int .i64 (first:Int)] 3)).alloc (.cells #[.func (.func 103) #[] #[.pointer (some ⟨p,0,none⟩)]] 120))=W0:=⟨_,rfl⟩
  have hsz:W0.heap.size=w.heap.size + 3:=by rw [← hW0]; simp [World.size_alloc]
  rw [hW0] at hb j0 j1 i2
  have HBB:=Lib.hid hb
  have J0:=Lib.hid j0
  have J1:=Lib.hid j1
  have J2:=Lib.hid i2
  clear hb hb2 hb3 i0 i1 i2 j0 j1
  gi_wp2_with (refine ⟨trivial,?_⟩; gi_at_call 88; refine (callsIn_wide.2 (runs_any (some ⟨g,0,none⟩) 512 cp l HL.out _ (HB.out.later HBB.out) (fun h => by cases h) (by decide))).mono ?_; rintro e w2 ⟨⟨v,rfl,B,A,cap,rfl,hc2,hm2,hB2⟩,hb2⟩)
  have HB2:=Lib.hid (HBB.out.trans (hb2.mono HBB.out.size))
  have hBlt:B < w2.heap.size:=block_lt_of_cell hc2
  have hwB:w.heap.size ≤ B:=Nat.le_trans HBB.out.size hB2
  have hAb:∀ b off,A=some ⟨b,off,none⟩ → w.heap.size ≤ b ∧ b < w2.heap.size:=fun b off e => by
    obtain ⟨ga,hga,h1,h2⟩:=hm2.form (by rw [HL.out]; decide)
    rw [hga] at e
    injection e with e
    injection e with e
    subst e
    exact ⟨Nat.le_trans HBB.out.size h1,h2⟩
  have HP2:=Lib.hid (HP.out.below HB2.out hplt)
  have K0:=Lib.hid (J0.out.below hb2 J0.out.lt)
  have K1:=Lib.hid (J1.out.below hb2 J1.out.lt)
  have K2:=Lib.hid (J2.out.below hb2 J2.out.lt)
  have HM2:=Lib.hid hm2
  have hs2:=hb2.size
  clear hm2 hb2 J0 J1 J2 HP
  refine wpIn_rangeFunc_ownF (n:=6) (w0:=w2) rfl (by decide) (gf:=122) (lb := #[.pointer (some ⟨B,0,none⟩)]) rfl trivial (enters_of Tryz.func122 (by kernel_rfl) rfl)
    (runs_stopsK 5 (by decide) B l.length cap A l rfl (by rw [HL.out]; decide) (KeepB w2.heap.size (·=p)) (fun W1 W2 k h1 h2 => ⟨(World.cell?_of_block (a:=⟨B,0,none⟩) (k B hBlt (by omega))).trans h1,by
        rcases h2 with h2 | ⟨b,off,hA,h2⟩
        · exact .inl h2
        · have:=hAb b off hA
          exact .inr ⟨b,off,hA,fun j hj => (World.cell?_of_block (a:=⟨b,off + j,none⟩) (k b this.2 (by omega))).trans (h2 j hj)⟩⟩) w2 hc2 HM2.out.bytes) keepB_t (keepB_b (Nat.le_refl _)) (Below.refl _ _) (fun _ => rfl)
    (fun pre W => (Is W p 3 #[.int .i64 0] ∧ Keeps (·=p) w2 W) ∧ (∀ x ∈ pre,¬ clipF first D x.1 < clipT first n x.1))
    (fun c pre W => ((c=.ret ∧ ∃ f,Found l first D n f ∧ Is W p 3 #[.int .i64 f]) ∧ Keeps (·=p) w2 W)) ((OwnFrom.and (ownFrom_is (cs:=fun _ => #[.int .i64 0])) (ownFrom_keeps (Nat.le_refl _))).and ownFrom_const) ?hIx ⟨⟨HP2.out,Keeps.refl _ _⟩,fun x hx => (by cases hx)⟩
    ?a₁ ?assign ?body ?done ?stop
  case hIx =>
    rintro c s X Y row ⟨⟨h1,f,h2,h3⟩,h4⟩ hg hr
    exact ⟨⟨h1,f,h2,(ownFrom_is (B:=w2.heap.size) (cs:=fun _:Unit => #[.int .i64 f]) () X Y row h3 hg hr)⟩,ownFrom_keeps (β:=Unit) (Nat.le_refl _) () X Y row h4 hg hr⟩
  case assign =>
    intro r x W K hK
    unfold rowArgs
    gi_wp2
    exact hK
  case body =>
    rintro r pre ⟨⟨a,k⟩,hrow⟩ W ⟨⟨hI,hK⟩,hpre⟩ hlt
    have hr:=hrow
    obtain ⟨r1,r2,_⟩:=hr
    simp only [HL.out] at r1 r2
    have G0:=K0.out.keeps hK (by omega)
    have G1:=K1.out.keeps hK (by omega)
    have G2:=K2.out.keeps hK (by omega)
    have c00:W.cell? ⟨w.heap.size,0,none⟩=some (.int .i64 (n:Int)):=G0.cell 0
    have c03:W.cell? ⟨w.heap.size,3,none⟩=some (.int .i64 (D:Int)):=G0.cell 3
    have c1:W.cell? ⟨w.heap.size + 1,0,none⟩=some (.int .i64 (first:Int)):=G1.cell 0
    have c2:W.cell? ⟨w.heap.size + 2,0,none⟩=some (.func (.func 103) #[] #[.pointer (some ⟨p,0,none⟩)]):=G2.cell 0
    have HI:=Lib.hid hI
    have HK:=Lib.hid hK
    have HPRE:=Lib.hid hpre
    have HROW:=Lib.hid hrow
    have hcell:W.cell? ⟨p,0,none⟩=some (.int .i64 0):=hI.cell 0
    have s1:IntKind.i64.wrap ((first:Int) + (a:Int))=(first:Int) + (a:Int):=IntWalk.i64_in _ (by omega)
    have s2:IntKind.i64.wrap ((first:Int) + (a:Int) + (k:Int))=(first:Int) + (a:Int) + (k:Int):=IntWalk.i64_in _ (by omega)
    obtain ⟨x,hx⟩:∃ x,clipF first D (a,k)=x:=⟨_,rfl⟩
    obtain ⟨y,hy⟩:∃ y,clipT first n (a,k)=y:=⟨_,rfl⟩
    have hmx:=run_max_ii ((first:Int) + (a:Int)) (D:Int) (x:Int) (by rw [← hx]; unfold clipF; simp only; split <;> omega)
    have hmn:=run_min_ii ((first:Int) + (a:Int) + (k:Int)) (n:Int) (y:Int) (by rw [← hy]; unfold clipT; simp only; split <;> omega)
    have HX:=Lib.hid hx
    have HY:=Lib.hid hy
    clear hI hK hpre G0 G1 G2 hx hy
    gi_wp2
    refine quiet_round (by kernel_rfl) (by kernel_rfl) (by kernel_rfl) ?_
    repeat (go_big_quiet_step (fail))
    refine wpQuiet_nil ?_
    rintro _ ⟨nq,rfl⟩
    have c2':(W.drewN nq).cell? ⟨w.heap.size + 2,0,none⟩=some (.func (.func 103) #[] #[.pointer (some ⟨p,0,none⟩)]):=c2
    have HI':=Lib.hid (show Is (W.drewN nq) p 3 #[.int .i64 0] from HI.out)
    by_cases hxy:x < y
    · gi_wp2_with (refine ⟨trivial,?_⟩; gi_at_call 103; refine (CallsIn.inRound r (callsIn_wide.2 (take11_any p (x:Int) (y:Int) 0 _ HI'.out))).mono ?_; rintro e w' ⟨rfl,rfl⟩)
      obtain ⟨q1,q2,q3,q4,q5⟩:=clip_off (first:=first) (D:=D) (N:=n) HROW.out (by rw [HX.out,HY.out]; exact hxy)
      rw [HX.out] at q1 q2 q3 q4 q5
      exact ⟨(show KeepsOthers W (W.drewN nq) from ⟨Nat.le_refl _,fun _ _ h _ => h⟩).trans (KeepsOthers.setCell _ _ _),⟨rfl,(x:Int),.inr ⟨x,rfl,q1,q2,q3,q4,q5⟩,HI'.out.put 0 (.int .i64 (x:Int))⟩,HK.out.trans ((show Keeps (·=p) W (W.drewN nq) from ⟨rfl,rfl,rfl,Nat.le_refl _,fun _ _ _ => rfl⟩).trans (keeps_set _ p 0 _))⟩
    · gi_wp2
      refine ⟨fun f h => (by cases h),?_⟩
      gi_wp2
      refine ⟨(show KeepsOthers W (W.drewN nq) from ⟨Nat.le_refl _,fun _ _ h _ => h⟩),fun _ _ _ => rfl,⟨HI'.out,HK.out.trans (show Keeps (·=p) W (W.drewN nq) from ⟨rfl,rfl,rfl,Nat.le_refl _,fun _ _ _ => rfl⟩)⟩,fun z hz => ?_⟩
      rcases List.mem_append.1 hz with hz | hz
      · exact HPRE.out z hz
      · obtain rfl:=List.mem_singleton.1 hz
        show ¬ clipF first D (a,k) < clipT first n (a,k)
        rw [HX.out,HY.out]
        exact hxy
  case done =>
    rintro D' ys W hD hys ⟨⟨hI,hK⟩,hno⟩ hd
    have hK2:Keeps (·=p) w W:=(Keeps.of_below HB2.out).trans hK
    have hz:offs l first D n (8 * l.length)=0:=offs_none l first D n (fun x hx => by
      rw [← hys] at hx
      obtain ⟨z,hz,rfl⟩:=List.mem_map.1 hx
      exact hno z hz)
    gi_wp2
    refine ⟨by simp,.inl ⟨_,_,rfl,run_takeDeferred hd,?_⟩⟩
    exact ⟨.tuple #[],by simp [results,Tryz.f48,go_sem],rfl,⟨0,.inl ⟨rfl,hz⟩,(ownFrom_is (B:=0) (cs:=fun _:Unit => #[.int .i64 0])) () W _ (some D') hI (grownBy_putObj' _ _ _) (fun r e => by cases e; exact ⟨Nat.zero_le _,_,hd,rfl⟩)⟩,hK2.putObj (by omega) _⟩
  case stop =>
    rintro D' c pre W hD hpre ⟨⟨rfl,f,hf2,hI⟩,hK⟩ hd
    have hK2:Keeps (·=p) w W:=(Keeps.of_below HB2.out).trans hK
    gi_wp2
    refine ⟨by simp,.inl ⟨_,_,rfl,run_takeDeferred hd,?_⟩⟩
    exact ⟨.tuple #[],by simp [results,Tryz.f48,go_sem],rfl,⟨f,hf2,(ownFrom_is (B:=0) (cs:=fun _:Unit => #[.int .i64 f])) () W _ (some D') hI (grownBy_putObj' _ _ _) (fun r e => by cases e; exact ⟨Nat.zero_le _,_,hd,rfl⟩)⟩,hK2.putObj (by omega) _⟩
end Go.Proofs.YthkijogloebdoaaGreatDoor
end
section
namespace Go.Proofs.YthkijogloebdoaaGreatDoor
open Go.RowKit Go.Shelf Bt Gp
attribute [local go_sem] Oper.semAt_some
theorem clipSum_le (first D N:Nat)(rs:List (Nat × Nat)):clipSum first D N rs ≤ rs.length * N:=by
  unfold clipSum
  induction rs with
  | nil => simp
  | cons x r ih =>
    rw [List.map_cons,List.sum_cons,List.length_cons,Nat.succ_mul]
    have:clipT first N x ≤ N:=by unfold clipT; omega
    omega
set_option maxRecDepth 100000 in
set_option maxHeartbeats 4000000 in
theorem rowsF_any (n first g cp p s:Nat)(l:List UInt8)(hl:l.length=512)(w:World)(hn:Disk n)(hf:first ≤ 20000)(hs:s ≤ 1000000)(hb:Bytes w (some ⟨g,0,none⟩) l)(hp:Is w p 3 #[.int .i64 (s:Int)]) :
    Calls Tryz.prog 48 #[.agg #[.int .i64 (n:Int),.int .i64 98,.int .i64 (ino n:Int),.int .i64 (dat n:Int),.int .i64 (cnt n:Int)],.int .i64 (first:Int),.slice (some ⟨g,0,none⟩) 512 cp,.func (.func 49) #[] #[.pointer (some ⟨p,0,none⟩)]] w fun e w' =>
      e=.returned (.tuple #[]) ∧ Is w' p 3 #[.int .i64 ((s + offs l first (dat n) n (8 * l.length):Nat):Int)] ∧ Keeps (·=p) w w':=by
  have hn2:(n:Int) ≤ 16384:=hn.2
  have hD2:dat n ≤ 1000:=by have h1:128 ≤ (n:Int):=hn.1; unfold dat ino; omega
  obtain ⟨D,hD⟩:∃ D,dat n=D:=⟨_,rfl⟩
  obtain ⟨I,hI⟩:∃ I,ino n=I:=⟨_,rfl⟩
  obtain ⟨C,hC⟩:∃ C,cnt n=C:=⟨_,rfl⟩
  rw [hD] at hD2
  rw [hD,hI,hC]
  clear hD hI hC hn
  have HL:=Lib.hid hl
  have HB:=Lib.hid hb
  have HP:=Lib.hid hp
  have hplt:=hp.lt
  clear hl hb hp
  refine (callsIn_wide (n:=6)).1 ?_
  refine callsIn_of_wp_marks Tryz.func48 rfl trivial ?_ rfl
  simp only [Tryz.ntmps48,List.size_toArray,List.length_cons,List.length_nil,Nat.reduceAdd,Nat.reduceSub,Array.replicate_succ,Array.replicate_zero,List.push_toArray,List.append_toArray,List.nil_append,List.cons_append]
  obtain ⟨hb2,i0,i1⟩:=two_new w #[.int .i64 (n:Int),.int .i64 98,.int .i64 (I:Int),.int .i64 (D:Int),.int .i64 (C:Int)] #[.int .i64 (first:Int)] 31 3
  obtain ⟨hb3,i2⟩:=one_new ((w.alloc (.cells #[.int .i64 (n:Int),.int .i64 98,.int .i64 (I:Int),.int .i64 (D:Int),.int .i64 (C:Int)] 31)).alloc (.cells #[.int .i64 (first:Int)] 3)) #[.func (.func 49) #[] #[.pointer (some ⟨p,0,none⟩)]] 120
  have j0:=i0.below hb3 i0.lt
  have j1:=i1.below hb3 i1.lt
  rw [World.size_alloc,World.size_alloc] at i2
  have hb:Below w.heap.size w _:=hb2.trans (hb3.mono (by rw [World.size_alloc,World.size_alloc]; omega))
  obtain ⟨W0,hW0⟩:∃ W0,(((w.alloc (.cells #[.int .i64 (n:Int),.int .i64 98,.int .i64 (I:Int),.int .i64 (D:Int),.int .i64 (C:Int)] 31)).alloc (.cells #[.int .i64 (first:Int)] 3)).alloc (.cells #[.func (.func 49) #[] #[.pointer (some ⟨p,0,none⟩)]] 120))=W0:=⟨_,rfl⟩
  have hsz:W0.heap.size=w.heap.size + 3:=by rw [← hW0]; simp [World.size_alloc]
  rw [hW0] at hb j0 j1 i2
  have HBB:=Lib.hid hb
  have J0:=Lib.hid j0
  have J1:=Lib.hid j1
  have J2:=Lib.hid i2
  clear hb hb2 hb3 i0 i1 i2 j0 j1
  gi_wp2_with (refine ⟨trivial,?_⟩; gi_at_call 88; refine (callsIn_wide.2 (runs_any (some ⟨g,0,none⟩) 512 cp l HL.out _ (HB.out.later HBB.out) (fun h => by cases h) (by decide))).mono ?_; rintro e w2 ⟨⟨v,rfl,B,A,cap,rfl,hc2,hm2,hB2⟩,hb2⟩)
  have HB2:=Lib.hid (HBB.out.trans (hb2.mono HBB.out.size))
  have hBlt:B < w2.heap.size:=block_lt_of_cell hc2
  have hwB:w.heap.size ≤ B:=Nat.le_trans HBB.out.size hB2
  have hAb:∀ b off,A=some ⟨b,off,none⟩ → w.heap.size ≤ b ∧ b < w2.heap.size:=fun b off e => by
    obtain ⟨ga,hga,h1,h2⟩:=hm2.form (by rw [HL.out]; decide)
    rw [hga] at e
    injection e with e
    injection e with e
    subst e
    exact ⟨Nat.le_trans HBB.out.size h1,h2⟩
  have HP2:=Lib.hid (HP.out.below HB2.out hplt)
  have K0:=Lib.hid (J0.out.below hb2 J0.out.lt)
  have K1:=Lib.hid (J1.out.below hb2 J1.out.lt)
  have K2:=Lib.hid (J2.out.below hb2 J2.out.lt)
  have HM2:=Lib.hid hm2
  have hs2:=hb2.size
  clear hm2 hb2 J0 J1 J2 HP
  refine wpIn_rangeFunc_ownF (n:=6) (w0:=w2) rfl (by decide) (gf:=122) (lb := #[.pointer (some ⟨B,0,none⟩)]) rfl trivial (enters_of Tryz.func122 (by kernel_rfl) rfl)
    (runs_stopsK 5 (by decide) B l.length cap A l rfl (by rw [HL.out]; decide) (KeepB w2.heap.size (·=p)) (fun W1 W2 k h1 h2 => ⟨(World.cell?_of_block (a:=⟨B,0,none⟩) (k B hBlt (by omega))).trans h1,by
        rcases h2 with h2 | ⟨b,off,hA,h2⟩
        · exact .inl h2
        · have:=hAb b off hA
          exact .inr ⟨b,off,hA,fun j hj => (World.cell?_of_block (a:=⟨b,off + j,none⟩) (k b this.2 (by omega))).trans (h2 j hj)⟩⟩) w2 hc2 HM2.out.bytes) keepB_t (keepB_b (Nat.le_refl _)) (Below.refl _ _) (fun _ => rfl)
    (fun pre W => (Is W p 3 #[.int .i64 ((s + clipSum first D n (pre.map (·.1)):Nat):Int)] ∧ Keeps (·=p) w2 W))
    (fun c pre W => False) (OwnFrom.and (ownFrom_is (cs:=fun pre:List (RowOf l) => #[.int .i64 ((s + clipSum first D n (pre.map (·.1)):Nat):Int)])) (ownFrom_keeps (Nat.le_refl _))) (fun c s A B row hs hg hr => hs) ⟨HP2.out,Keeps.refl _ _⟩
    ?a₁ ?assign ?body ?done ?stop
  case assign =>
    intro r x W K hK
    unfold rowArgs
    gi_wp2
    exact hK
  case body =>
    rintro r pre ⟨⟨a,k⟩,hrow⟩ W ⟨hI,hK⟩ hlt
    have hr:=hrow
    obtain ⟨r1,r2,_⟩:=hr
    simp only [HL.out] at r1 r2
    have G0:=K0.out.keeps hK (by omega)
    have G1:=K1.out.keeps hK (by omega)
    have G2:=K2.out.keeps hK (by omega)
    have c00:W.cell? ⟨w.heap.size,0,none⟩=some (.int .i64 (n:Int)):=G0.cell 0
    have c03:W.cell? ⟨w.heap.size,3,none⟩=some (.int .i64 (D:Int)):=G0.cell 3
    have c1:W.cell? ⟨w.heap.size + 1,0,none⟩=some (.int .i64 (first:Int)):=G1.cell 0
    have c2:W.cell? ⟨w.heap.size + 2,0,none⟩=some (.func (.func 49) #[] #[.pointer (some ⟨p,0,none⟩)]):=G2.cell 0
    have HK:=Lib.hid hK
    have HROW:=Lib.hid hrow
    have hle:=clipSum_le first D n (pre.map (·.1))
    have hrl:(runs l).length ≤ 4096:=by have:=rows_length l (8 * l.length); unfold runs; rw [HL.out] at this ⊢; omega
    rw [List.length_map] at hle
    have hle2:pre.length * n ≤ 4096 * 16384:=Nat.mul_le_mul (by omega) (by omega)
    obtain ⟨S,hS⟩:∃ S,s + clipSum first D n (pre.map (·.1))=S:=⟨_,rfl⟩
    rw [hS] at hI
    have hS9:S ≤ 100000000:=by omega
    have HS:=Lib.hid hS
    have s1:IntKind.i64.wrap ((first:Int) + (a:Int))=(first:Int) + (a:Int):=IntWalk.i64_in _ (by omega)
    have s2:IntKind.i64.wrap ((first:Int) + (a:Int) + (k:Int))=(first:Int) + (a:Int) + (k:Int):=IntWalk.i64_in _ (by omega)
    obtain ⟨x,hx⟩:∃ x,clipF first D (a,k)=x:=⟨_,rfl⟩
    obtain ⟨y,hy⟩:∃ y,clipT first n (a,k)=y:=⟨_,rfl⟩
    have hmx:=run_max_ii ((first:Int) + (a:Int)) (D:Int) (x:Int) (by rw [← hx]; unfold clipF; simp only; split <;> omega)
    have hmn:=run_min_ii ((first:Int) + (a:Int) + (k:Int)) (n:Int) (y:Int) (by rw [← hy]; unfold clipT; simp only; split <;> omega)
    have HX:=Lib.hid hx
    have HY:=Lib.hid hy
    have HI:=Lib.hid hI
    clear hI hK hS hle hle2 hrl hlt G0 G1 G2 hx hy
    gi_wp2
    refine quiet_round (by kernel_rfl) (by kernel_rfl) (by kernel_rfl) ?_
    repeat (go_big_quiet_step (fail))
    refine wpQuiet_nil ?_
    rintro _ ⟨nq,rfl⟩
    have c2':(W.drewN nq).cell? ⟨w.heap.size + 2,0,none⟩=some (.func (.func 49) #[] #[.pointer (some ⟨p,0,none⟩)]):=c2
    have HI':=Lib.hid (show Is (W.drewN nq) p 3 #[.int .i64 (S:Int)] from HI.out)
    have hsum:clipSum first D n ((pre ++ [(⟨(a,k),hrow⟩:RowOf l)]).map (·.1))=clipSum first D n (pre.map (·.1)) + (y - x):=by
      rw [List.map_append,clipSum_append,List.map_cons,List.map_nil,clipSum_one,HX.out,HY.out]
    have HSUM:=Lib.hid hsum
    clear hsum
    have hyn:y ≤ 16384:=by rw [← HY.out]; unfold clipT; omega
    by_cases hxy:x < y
    · gi_wp2_with (refine ⟨trivial,?_⟩; gi_at_call 49; refine (CallsIn.inRound r (callsIn_wide.2 (free11_any p x y (S:Int) ((S + (y - x):Nat):Int) _ HI'.out (by omega) (by omega) (by omega) (by omega) (by omega)))).mono ?_; rintro e w' ⟨rfl,rfl⟩)
      refine ⟨(show KeepsOthers W (W.drewN nq) from ⟨Nat.le_refl _,fun _ _ h _ => h⟩).trans (KeepsOthers.setCell _ _ _),keepB_t (S:=(·=p)) (B:=W.drewN nq) (fun _ _ _ => rfl) (keepB_set _ p 0 _ (by rfl)),?_,HK.out.trans ((show Keeps (·=p) W (W.drewN nq) from ⟨rfl,rfl,rfl,Nat.le_refl _,fun _ _ _ => rfl⟩).trans (keeps_set _ p 0 _))⟩
      rw [HSUM.out,← Nat.add_assoc,HS.out]
      exact HI'.out.put 0 (.int .i64 ((S + (y - x):Nat):Int))
    · gi_wp2
      refine ⟨fun f h => (by cases h),?_⟩
      gi_wp2
      refine ⟨(show KeepsOthers W (W.drewN nq) from ⟨Nat.le_refl _,fun _ _ h _ => h⟩),fun _ _ _ => rfl,?_,HK.out.trans (show Keeps (·=p) W (W.drewN nq) from ⟨rfl,rfl,rfl,Nat.le_refl _,fun _ _ _ => rfl⟩)⟩
      rw [HSUM.out,← Nat.add_assoc,HS.out,show y - x=0 by omega]
      exact HI'.out
  case done =>
    rintro D' ys W hD hys ⟨hI,hK⟩ hd
    have hK2:Keeps (·=p) w W:=(Keeps.of_below HB2.out).trans hK
    rw [hys,clipSum_runs] at hI
    gi_wp2
    refine ⟨by simp,.inl ⟨_,_,rfl,run_takeDeferred hd,?_⟩⟩
    exact ⟨.tuple #[],by simp [results,Tryz.f48,go_sem],rfl,(ownFrom_is (B:=0) (cs:=fun _:Unit => #[.int .i64 ((s + offs l first D n (8 * l.length):Nat):Int)])) () W _ (some D') hI (grownBy_putObj' _ _ _) (fun r e => by cases e; exact ⟨Nat.zero_le _,_,hd,rfl⟩),hK2.putObj (by omega) _⟩
  case stop =>
    rintro D' c pre W hD hpre h hd
    exact h.elim
end Go.Proofs.YthkijogloebdoaaGreatDoor
end
section
namespace Go.Proofs.YthkijogloebdoaaGreatDoor
open Go.RowKit Go.Maps Bt Gp
def geoL (n:Nat):Array Value := #[.int .i64 (n:Int),.int .i64 98,.int .i64 (ino n:Int),.int .i64 (dat n:Int),.int .i64 (cnt n:Int)]
set_option maxRecDepth 100000 in
theorem take1_any (n first g cp p gb:Nat)(l:List UInt8)(hl:l.length=512)(w:World)(hn:Disk n)(hf:first ≤ 20000)(hb:Bytes w (some ⟨g,0,none⟩) l)(hp:Is w p 3 #[.int .i64 0])(hg:Is w gb 31 (geoL n)) :
    Calls Tryz.prog 102 #[.int .i64 (first:Int),.slice (some ⟨g,0,none⟩) 512 cp,.pointer (some ⟨gb,0,none⟩),.pointer (some ⟨p,0,none⟩)] w fun e w' =>
      ∃ f,Found l first (dat n) n f ∧ e=.returned (.bool (f == 0)) ∧ Is w' p 3 #[.int .i64 f] ∧ Keeps (·=p) w w':=by
  have H:=Lib.hid (rowsT_any n first g cp p l hl w hn hf hb hp)
  have c0:w.cell? ⟨gb,0,none⟩=some (.int .i64 (n:Int)):=hg.cell 0
  have c1:w.cell? ⟨gb,1,none⟩=some (.int .i64 98):=hg.cell 1
  have c2:w.cell? ⟨gb,2,none⟩=some (.int .i64 (ino n:Int)):=hg.cell 2
  have c3:w.cell? ⟨gb,3,none⟩=some (.int .i64 (dat n:Int)):=hg.cell 3
  have c4:w.cell? ⟨gb,4,none⟩=some (.int .i64 (cnt n:Int)):=hg.cell 4
  clear hg hb hp hl hn
  go_enter Tryz.func102,Tryz.ntmps102
  go_wp2_with (go_at_call 48; refine H.out.mono ?_; rintro e w1 ⟨rfl,⟨f,hF,hI⟩,hK⟩; have HF:=Lib.hid hF; have HI:=Lib.hid hI; have HK:=Lib.hid hK; have cp:=hI.cell 0; have cp:w1.cell? ⟨p,0,none⟩=some (.int .i64 f):=cp; clear hF hI hK)
  go_ret
  exact ⟨f,HF.out,rfl,HI.out,HK.out⟩
set_option maxRecDepth 100000 in
theorem free1_any (n first g cp p gb s:Nat)(l:List UInt8)(hl:l.length=512)(w:World)(hn:Disk n)(hf:first ≤ 20000)(hs:s ≤ 1000000)(hb:Bytes w (some ⟨g,0,none⟩) l)(hp:Is w p 3 #[.int .i64 (s:Int)])(hg:Is w gb 31 (geoL n)) :
    Calls Tryz.prog 47 #[.int .i64 (first:Int),.slice (some ⟨g,0,none⟩) 512 cp,.pointer (some ⟨gb,0,none⟩),.pointer (some ⟨p,0,none⟩)] w fun e w' =>
      e=.returned (.bool true) ∧ Is w' p 3 #[.int .i64 ((s + offs l first (dat n) n (8 * l.length):Nat):Int)] ∧ Keeps (·=p) w w':=by
  have H:=Lib.hid (rowsF_any n first g cp p s l hl w hn hf hs hb hp)
  have c0:w.cell? ⟨gb,0,none⟩=some (.int .i64 (n:Int)):=hg.cell 0
  have c1:w.cell? ⟨gb,1,none⟩=some (.int .i64 98):=hg.cell 1
  have c2:w.cell? ⟨gb,2,none⟩=some (.int .i64 (ino n:Int)):=hg.cell 2
  have c3:w.cell? ⟨gb,3,none⟩=some (.int .i64 (dat n:Int)):=hg.cell 3
  have c4:w.cell? ⟨gb,4,none⟩=some (.int .i64 (cnt n:Int)):=hg.cell 4
  clear hg hb hp hl hn
  go_enter Tryz.func47,Tryz.ntmps47
  go_wp2_with (go_at_call 48; refine H.out.mono ?_; rintro e w1 ⟨rfl,hI,hK⟩; have HI:=Lib.hid hI; have HK:=Lib.hid hK; clear hI hK)
  go_ret
  exact ⟨rfl,HI.out,HK.out⟩
def FoundIn (V:Nat → List UInt8)(n m:Nat)(f:Int):Prop :=
  (f=0 ∧ ∀ k,k < m → offs (V (98 + k)) (4096 * k) (dat n) n 4096=0) ∨ ∃ q:Nat,f=(q:Int) ∧ dat n ≤ q ∧ q < n ∧ bit (V (98 + q / 4096)) (q % 4096)=false
theorem dat_pos (n:Nat):98 ≤ dat n:=by unfold dat ino; omega
theorem ino_le {n:Nat}(hn:Disk n):98 ≤ ino n ∧ ino n ≤ 102 ∧ ino n=98 + (n + 4095) / 4096:=by have h1:128 ≤ (n:Int):=hn.1; have h2:(n:Int) ≤ 16384:=hn.2; unfold ino; omega
theorem ino_lt {n:Nat}(hn:Disk n):ino n < n:=by have:=ino_le hn; have h1:128 ≤ (n:Int):=hn.1; omega
set_option maxRecDepth 100000 in
set_option maxHeartbeats 1600000 in
theorem eachT_any (c:Cx)(w:World)(O:Nat → Prop)(T:Tn)(h:TxnAt c w O T)(n p gb:Nat)(hn:Disk n)(hN:c.N=n)(hp:Is w p 3 #[.int .i64 0])(hg:Is w gb 31 (geoL n))(np:¬ O p)(hne:gb ≠ p) :
    Calls Tryz.prog 46 #[.pointer (some ⟨c.t,0,none⟩),.agg #[.int .i64 (n:Int),.int .i64 98,.int .i64 (ino n:Int),.int .i64 (dat n:Int),.int .i64 (cnt n:Int)],.func (.func 102) #[] #[.pointer (some ⟨gb,0,none⟩),.pointer (some ⟨p,0,none⟩)]] w fun e w' =>
      e=.returned (.int .i64 0) ∧ (∃ f,FoundIn (T.view c.D) n (ino n - 98) f ∧ Is w' p 3 #[.int .i64 f]) ∧ Keeps (·=p) w w':=by
  obtain ⟨hi1,hi2,hi3⟩:=ino_le hn
  have hi4:=ino_lt hn
  have hd0:=dat_pos n
  obtain ⟨hb0,i0⟩:=one_new w #[.int .i64 (n:Int),.int .i64 98,.int .i64 (ino n:Int),.int .i64 (dat n:Int),.int .i64 (cnt n:Int)] 31
  obtain ⟨I,hI⟩:∃ I,ino n=I:=⟨_,rfl⟩
  rw [hI] at hb0 i0
  have HIE:=Lib.hid hI
  have HNd:=Lib.hid hn
  have HCN:=Lib.hid hN
  have hpl:=hp.lt
  have hgl:=hg.lt
  obtain ⟨W,hW⟩:∃ W,w.alloc (.cells #[.int .i64 (n:Int),.int .i64 98,.int .i64 (I:Int),.int .i64 (dat n:Int),.int .i64 (cnt n:Int)] 31)=W:=⟨_,rfl⟩
  rw [hW] at hb0 i0
  have HB0:=Lib.hid hb0
  have HI0:=Lib.hid i0
  have HT:=Lib.hid (h.later hb0)
  have HP:=Lib.hid (hp.below hb0 hp.lt)
  have HG:=Lib.hid (hg.below hb0 hg.lt)
  have c0:W.cell? ⟨w.heap.size,1,none⟩=some (.int .i64 98):=HI0.out.cell 1
  rw [hI] at hi1 hi2 hi4 ⊢
  clear hb0 i0 h hp hg hn hN hi3
  obtain ⟨t,ht⟩:∃ t,c.t=t:=⟨_,rfl⟩
  have HTT:=Lib.hid ht
  rw [ht]
  clear ht
  go_enter Tryz.func46,Tryz.ntmps46
  go_wp2_with fail
  go_loopw [7] (fun v wr => ∃ m k:Nat,98 + m=k ∧ k ≤ I ∧ v=.int .i64 k ∧ Is wr p 3 #[.int .i64 0] ∧ (∀ j,j < m → offs (T.view c.D (98 + j)) (4096 * j) (dat n) n 4096=0) ∧ Keeps (·=p) W wr) (fun v _ => I - (intOf v).toNat)
  case atStart => exact ⟨0,98,rfl,hi1,rfl,HP.out,fun j hj => by omega,Keeps.refl _ _⟩
  case round =>
    obtain ⟨m,k,hk1,hk2,rfl,hP,hall,hK⟩:=hrel
    have hw0:w.heap.size ≠ p:=by omega
    have HIr:=Lib.hid (HI0.out.keeps hK hw0)
    have HGr:=Lib.hid (HG.out.keeps hK hne)
    have HTr:=Lib.hid (HT.out.keep1 hK np)
    have cr1:wr.cell? ⟨w.heap.size,1,none⟩=some (.int .i64 98):=HIr.out.cell 1
    have cr2:wr.cell? ⟨w.heap.size,2,none⟩=some (.int .i64 (I:Int)):=HIr.out.cell 2
    have HPr:=Lib.hid hP
    have HALL:=Lib.hid hall
    have HK:=Lib.hid hK
    clear hP hall hK
    by_cases hlt:k < I
    · have HR:=Lib.hid (tread_any c wr O T HTr.out k (by rw [HCN.out]; omega))
      rw [HTT.out] at HR
      have HVL:=Lib.hid (HTr.out.view_len (i:=k) (by rw [HCN.out]; omega))
      have hkk:(k:Int) - 98=(m:Int):=by omega
      have hm4:m ≤ 4:=by omega
      obtain ⟨ff,hff⟩:∃ ff,4096 * m=ff:=⟨_,rfl⟩
      have hkk2:(4096:Int) * (m:Int)=(ff:Int):=by omega
      have hff2:ff ≤ 20000:=by omega
      have HFF:=Lib.hid hff
      clear hff
      go_wp2_with (first
        | (go_at_call 37
           refine HR.out.mono ?_
           rintro e w1 ⟨⟨g,cp,rfl,hg,hgs,_⟩,hb1⟩
           have HG1:=Lib.hid hg
           have HB1:=Lib.hid hb1
           have hpp:p < wr.heap.size:=HPr.out.lt
           have HP1:=Lib.hid (HPr.out.below hb1 HPr.out.lt)
           have HGB1:=Lib.hid (HGr.out.below hb1 HGr.out.lt)
           have HI1:=Lib.hid (HIr.out.below hb1 HIr.out.lt)
           have ci1:w1.cell? ⟨w.heap.size,1,none⟩=some (.int .i64 98):=HI1.out.cell 1
           clear hg hb1)
        | (go_at_call 102
           refine (take1_any n ff g cp p gb (T.view c.D k) HVL.out _ HNd.out hff2 HG1.out.bytes HP1.out HGB1.out).mono ?_
           rintro e w2 ⟨f,hF,rfl,hI2,hK2⟩
           have HF:=Lib.hid hF
           have HI2:=Lib.hid hI2
           have HK2:=Lib.hid (HK.out.trans ((Keeps.of_below HB1.out).trans hK2))
           clear hF hI2 hK2))
      · rename_i hf0
        go_ret
        have hfound:FoundIn (T.view c.D) n (I - 98) f:=by
          rcases HF.out with ⟨h0,_⟩ | ⟨q,rfl,h1,h2,h3,h4,h5⟩
          · rw [h0] at hf0; exact absurd hf0 (by decide)
          · rw [HVL.out] at h4
            have hff:=HFF.out
            refine .inr ⟨q,rfl,h2,h3,?_⟩
            rw [show 98 + q / 4096=k by omega,show q % 4096=q - ff by omega]
            exact h5
        exact ⟨rfl,⟨f,hfound,HI2.out⟩,(Keeps.of_below HB0.out).trans HK2.out⟩
      · rename_i hf0
        go_roundw
        case rel =>
          have hz:f=0 ∧ offs (T.view c.D k) ff (dat n) n 4096=0:=by
            rcases HF.out with ⟨h0,h1⟩ | ⟨q,rfl,h1,h2,_⟩
            · rw [HVL.out] at h1; exact ⟨h0,h1⟩
            · exfalso; simp at hf0; omega
          refine ⟨m + 1,k + 1,by omega,by omega,by go_num,by rw [← hz.1]; exact HI2.out,fun j hj => ?_,HK2.out⟩
          by_cases hjm:j < m
          · exact HALL.out j hjm
          · obtain rfl:j=m:=by omega
            rw [hk1,HFF.out]
            exact hz.2
        case measure => simp [intOf]; omega
    · have hmI:I - 98=m:=by omega
      go_wp2_with fail
      go_ret
      refine ⟨rfl,⟨0,.inl ⟨rfl,by rw [hmI]; exact HALL.out⟩,HPr.out⟩,(Keeps.of_below HB0.out).trans HK.out⟩
def freeIn (V:Nat → List UInt8)(n:Nat):Nat → Nat
  | 0 => 0
  | m + 1 => freeIn V n m + offs (V (98 + m)) (4096 * m) (dat n) n 4096
theorem freeIn_le (V:Nat → List UInt8)(n m:Nat):freeIn V n m ≤ 4096 * m:=by
  induction m with
  | zero => exact Nat.le_refl _
  | succ m ih =>
    have:=offs_le (V (98 + m)) (4096 * m) (dat n) n 4096
    unfold freeIn; omega
set_option maxRecDepth 100000 in
set_option maxHeartbeats 1600000 in
theorem eachF_any (c:Cx)(w:World)(O:Nat → Prop)(T:Tn)(h:TxnAt c w O T)(n p gb:Nat)(hn:Disk n)(hN:c.N=n)(hp:Is w p 3 #[.int .i64 0])(hg:Is w gb 31 (geoL n))(np:¬ O p)(hne:gb ≠ p) :
    Calls Tryz.prog 46 #[.pointer (some ⟨c.t,0,none⟩),.agg #[.int .i64 (n:Int),.int .i64 98,.int .i64 (ino n:Int),.int .i64 (dat n:Int),.int .i64 (cnt n:Int)],.func (.func 47) #[] #[.pointer (some ⟨gb,0,none⟩),.pointer (some ⟨p,0,none⟩)]] w fun e w' =>
      e=.returned (.int .i64 0) ∧ Is w' p 3 #[.int .i64 (freeIn (T.view c.D) n (ino n - 98):Int)] ∧ Keeps (·=p) w w':=by
  obtain ⟨hi1,hi2,hi3⟩:=ino_le hn
  have hi4:=ino_lt hn
  have hd0:=dat_pos n
  obtain ⟨hb0,i0⟩:=one_new w #[.int .i64 (n:Int),.int .i64 98,.int .i64 (ino n:Int),.int .i64 (dat n:Int),.int .i64 (cnt n:Int)] 31
  obtain ⟨I,hI⟩:∃ I,ino n=I:=⟨_,rfl⟩
  rw [hI] at hb0 i0
  have HIE:=Lib.hid hI
  have HNd:=Lib.hid hn
  have HCN:=Lib.hid hN
  have hpl:=hp.lt
  have hgl:=hg.lt
  obtain ⟨W,hW⟩:∃ W,w.alloc (.cells #[.int .i64 (n:Int),.int .i64 98,.int .i64 (I:Int),.int .i64 (dat n:Int),.int .i64 (cnt n:Int)] 31)=W:=⟨_,rfl⟩
  rw [hW] at hb0 i0
  have HB0:=Lib.hid hb0
  have HI0:=Lib.hid i0
  have HT:=Lib.hid (h.later hb0)
  have HP:=Lib.hid (hp.below hb0 hp.lt)
  have HG:=Lib.hid (hg.below hb0 hg.lt)
  have c0:W.cell? ⟨w.heap.size,1,none⟩=some (.int .i64 98):=HI0.out.cell 1
  rw [hI] at hi1 hi2 hi4 ⊢
  clear hb0 i0 h hp hg hn hN hi3
  obtain ⟨t,ht⟩:∃ t,c.t=t:=⟨_,rfl⟩
  have HTT:=Lib.hid ht
  rw [ht]
  clear ht
  go_enter Tryz.func46,Tryz.ntmps46
  go_wp2_with fail
  go_loopw [7] (fun v wr => ∃ m k:Nat,98 + m=k ∧ k ≤ I ∧ v=.int .i64 k ∧ Is wr p 3 #[.int .i64 (freeIn (T.view c.D) n m:Int)] ∧ Keeps (·=p) W wr) (fun v _ => I - (intOf v).toNat)
  case atStart => exact ⟨0,98,rfl,hi1,rfl,HP.out,Keeps.refl _ _⟩
  case round =>
    obtain ⟨m,k,hk1,hk2,rfl,hP,hK⟩:=hrel
    have hw0:w.heap.size ≠ p:=by omega
    have HIr:=Lib.hid (HI0.out.keeps hK hw0)
    have HGr:=Lib.hid (HG.out.keeps hK hne)
    have HTr:=Lib.hid (HT.out.keep1 hK np)
    have cr1:wr.cell? ⟨w.heap.size,1,none⟩=some (.int .i64 98):=HIr.out.cell 1
    have cr2:wr.cell? ⟨w.heap.size,2,none⟩=some (.int .i64 (I:Int)):=HIr.out.cell 2
    have HPr:=Lib.hid hP
    have HK:=Lib.hid hK
    clear hP hK
    by_cases hlt:k < I
    · have HR:=Lib.hid (tread_any c wr O T HTr.out k (by rw [HCN.out]; omega))
      rw [HTT.out] at HR
      have HVL:=Lib.hid (HTr.out.view_len (i:=k) (by rw [HCN.out]; omega))
      have hkk:(k:Int) - 98=(m:Int):=by omega
      have hm4:m ≤ 4:=by omega
      obtain ⟨ff,hff⟩:∃ ff,4096 * m=ff:=⟨_,rfl⟩
      have hkk2:(4096:Int) * (m:Int)=(ff:Int):=by omega
      have hff2:ff ≤ 20000:=by omega
      have HFF:=Lib.hid hff
      clear hff
      go_wp2_with (first
        | (go_at_call 37
           refine HR.out.mono ?_
           rintro e w1 ⟨⟨g,cp,rfl,hg,hgs,_⟩,hb1⟩
           have HG1:=Lib.hid hg
           have HB1:=Lib.hid hb1
           have hpp:p < wr.heap.size:=HPr.out.lt
           have HP1:=Lib.hid (HPr.out.below hb1 HPr.out.lt)
           have HGB1:=Lib.hid (HGr.out.below hb1 HGr.out.lt)
           have HI1:=Lib.hid (HIr.out.below hb1 HIr.out.lt)
           have ci1:w1.cell? ⟨w.heap.size,1,none⟩=some (.int .i64 98):=HI1.out.cell 1
           clear hg hb1)
        | (go_at_call 47
           refine (free1_any n ff g cp p gb (freeIn (T.view c.D) n m) (T.view c.D k) HVL.out _ HNd.out hff2 (by have:=freeIn_le (T.view c.D) n m; omega) HG1.out.bytes HP1.out HGB1.out).mono ?_
           rintro e w2 ⟨rfl,hI2,hK2⟩
           have HI2:=Lib.hid hI2
           have HK2:=Lib.hid (HK.out.trans ((Keeps.of_below HB1.out).trans hK2))
           clear hI2 hK2))
      go_roundw
      case rel =>
        refine ⟨m + 1,k + 1,by omega,by omega,by go_num,?_,HK2.out⟩
        have:=HI2.out
        rw [HVL.out] at this
        show Is w2 p 3 #[.int .i64 ((freeIn (T.view c.D) n m + offs (T.view c.D (98 + m)) (4096 * m) (dat n) n 4096:Nat):Int)]
        rw [hk1,HFF.out]
        exact this
      case measure => simp [intOf]; omega
    · have hmI:I - 98=m:=by omega
      go_wp2_with fail
      go_ret
      refine ⟨rfl,by rw [hmI]; exact HPr.out,(Keeps.of_below HB0.out).trans HK.out⟩
end Go.Proofs.YthkijogloebdoaaGreatDoor
end
