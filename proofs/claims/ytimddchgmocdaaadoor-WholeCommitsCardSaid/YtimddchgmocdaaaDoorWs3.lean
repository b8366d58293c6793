/-
  THE STEPS OF A LOG IN MEMORY: a row of function values; to add one; to carry them out.
  THE STEPS OF A LOG (2): a write is added; the steps are carried out.
  THE STEPS OF A LOG (3): the steps are carried out.
-/
import Derived.Test.YtimddchgmocdaaaDoorDw8
import Derived.Test.YtimddchgmocdaaaDoorWp
set_option linter.unusedVariables false
set_option linter.unusedSimpArgs false
namespace Go.Proofs.YtimddchgmocdaaaDoor
open Go.RowKit

abbrev Stp := Option (Nat × List UInt8)
/-- a function value that carries out a step -/
def StepV (w : World) (base a : Nat) (v : Value) : Stp → Prop
  | none => v = .func (.func 54) #[] #[]
  | some x => x.2.length = 512 ∧ ∃ bi bb A c, v = .func (.func 52) #[] #[.pointer (some ⟨bi, 0, none⟩), .pointer (some ⟨bb, 0, none⟩)] ∧ Is w bi 3 #[.int .i64 (x.1 : Int)] ∧ Is w bb 42 #[.slice A 512 c] ∧ Buf w base (some a) A x.2
theorem StepV.one {w : World} {base a : Nat} {v : Value} {s : Stp} (h : StepV w base a v s) : v.oneCell' = true := by
  cases s with
  | none => rw [show v = _ from h]; rfl
  | some x => obtain ⟨_, bi, bb, A, c, rfl, _⟩ := h; rfl
theorem Buf.kt2 {w w2 : World} {base sb : Nat} {a s : Option Nat} {A : Option Addr} {l : List UInt8} {Ts : List TypeId} (h : Buf w base a A l) (k : KT s sb Ts w w2) (hb : base ≤ sb) (h1 : 5 ∉ Ts) (h2 : 74 ∉ Ts) (hs : ∀ g, s = some g → base ≤ g ∧ ¬ Tk w g [5, 74]) : Buf w2 base a A l := by
  rcases h with h | ⟨g, off, cs, t, f, rfl, hg, hs', hc⟩
  · exact .inl h
  · have hlt : g < w.heap.size := (Array.getElem?_eq_some_iff.1 hg).1
    have e : w2.heap[g]? = w.heap[g]? := by
      rcases hs' with hs' | ⟨h3, h4⟩
      · exact k.block g hlt (.inl (by omega))
      · refine k.block g hlt (.inr ⟨fun e => ?_, fun ⟨cs', t', f', h5, h6⟩ => ?_⟩)
        · exact (hs g e.symm).2 ⟨_, _, _, hg, h4⟩
        · rw [hg] at h5
          injection h5 with h5
          injection h5 with _ h5
          subst h5
          simp at h4
          rcases h4 with h4 | h4
          · rw [h4] at h6; exact h1 h6
          · rw [h4] at h6; exact h2 h6
    exact .inr ⟨g, off, cs, t, f, rfl, e.trans hg, hs', fun i hi => (World.cell?_of_block (a := ⟨g, off + i, none⟩) e).trans (hc i hi)⟩
theorem Buf.later {w w2 : World} {base : Nat} {a : Option Nat} {A : Option Addr} {l : List UInt8} (h : Buf w base a A l) (hb : Below w.heap.size w w2) : Buf w2 base a A l := h.kt (KT.of_below (base := base) (Ts := []) hb (Nat.le_refl _)) (by simp) (by simp)
/-- the types of the steps' rows -/
def stepT : List TypeId := [93]
theorem StepV.ktS {w w2 : World} {base a sp sb : Nat} {v : Value} {s : Stp} {cs : Array Value} (h : StepV w base a v s) (hsp : Is w sp 90 cs) (k : KT (some sp) sb stepT w w2) (hb : base ≤ sb) (hs : sb ≤ sp) : StepV w2 base a v s := by
  cases s with
  | none => exact h
  | some x =>
    obtain ⟨h5, bi, bb, A, c, h1, h2, h3, h4⟩ := h
    refine ⟨h5, bi, bb, A, c, h1, h2.kt k (.inr ⟨fun e => ?_, by simp [stepT]⟩), h3.kt k (.inr ⟨fun e => ?_, by simp [stepT]⟩), h4.kt2 k hb (by simp [stepT]) (by simp [stepT]) fun g e => ?_⟩
    · injection e with e; exact is_ne h2 hsp (by decide) e
    · injection e with e; exact is_ne h3 hsp (by decide) e
    · injection e with e
      subst e
      refine ⟨by omega, fun ⟨cs', t, f, q1, q2⟩ => ?_⟩
      rw [show w.heap[sp]? = _ from hsp] at q1
      injection q1 with q1
      injection q1 with _ q1
      subst q1
      simp at q2
theorem StepV.ktD {w w2 : World} {base a : Nat} {v : Value} {s : Stp} (h : StepV w base a v s) (hA : ∃ cur, Is w a 74 cur) (k : KT (some a) base diskT w w2) : StepV w2 base a v s := by
  cases s with
  | none => exact h
  | some x =>
    obtain ⟨h5, bi, bb, A, c, h1, h2, h3, h4⟩ := h
    exact ⟨h5, bi, bb, A, c, h1, h2.kt k (.inr ⟨ne_a hA (by decide) ⟨_, h2⟩, by simp [diskT]⟩), h3.kt k (.inr ⟨ne_a hA (by decide) ⟨_, h3⟩, by simp [diskT]⟩), h4.kt k (diskT_ne (by simp)) (diskT_ne (by simp))⟩
theorem StepV.later {w w2 : World} {base a : Nat} {v : Value} {s : Stp} (h : StepV w base a v s) (hb : Below w.heap.size w w2) : StepV w2 base a v s := by
  cases s with
  | none => exact h
  | some x =>
    obtain ⟨h5, bi, bb, A, c, h1, h2, h3, h4⟩ := h
    exact ⟨h5, bi, bb, A, c, h1, h2.below hb h2.lt, h3.below hb h3.lt, h4.later hb⟩
/-- the steps in a row -/
def StepsRow (w : World) (base a sb : Nat) (A : Option Addr) (cap : Nat) (S : List Stp) : Prop :=
  ∃ vs, Own w sb 93 1 A S.length cap vs ∧ ∀ k (h : k < S.length), ∃ v, vs[k]? = some v ∧ StepV w base a v S[k]
/-- the steps at sp -/
def StepsAt (w : World) (base a sp sb : Nat) (S : List Stp) : Prop := ∃ A cap, Is w sp 90 #[.slice A S.length cap] ∧ StepsRow w base a sb A cap S
theorem infoFn : (Tryd.prog.info? 93).map (fun i => (i.zero, i.size, i.bytes)) = some (some .nilFunc, 1, 8) := by kernel_rfl
/-- a step is added -/
theorem steps_grown {w W w1 : World} {base a sp sb gg cap cap2 : Nat} {A : Option Addr} {S : List Stp} {v : Value} {s : Stp} {vs : List Value} (hb : Below w.heap.size w W) (hsp : Is w sp 90 #[.slice A S.length cap])
    (hO : Own w sb 93 1 A S.length cap vs) (hS : ∀ k (h : k < S.length), ∃ v, vs[k]? = some v ∧ StepV w base a v S[k]) (hv : StepV W base a v s) (hbs : base ≤ sb) (hss : sb ≤ sp)
    (hown : w1.ownsRow sb 93 1 (.slice (some ⟨gg, 0, none⟩) (S.length + 1) cap2) (S.length + 1) (vs ++ [v])) (hgrow : W.grownBy w1 (Value.slice A S.length cap).ownBlock) :
    StepsAt (w1.setCell ⟨sp, 0, none⟩ (.slice (some ⟨gg, 0, none⟩) (S.length + 1) cap2)) base a sp sb (S ++ [s]) ∧ KT (some sp) sb stepT w (w1.setCell ⟨sp, 0, none⟩ (.slice (some ⟨gg, 0, none⟩) (S.length + 1) cap2)) := by
  have hl : (S ++ [s]).length = S.length + 1 := by simp
  have k0 : KT (some sp) sb stepT W w1 := KT.of_grown (hO.later hb) (Nat.le_refl _) (by simp [stepT]) hgrow
  have hspW : Is W sp 90 #[.slice A S.length cap] := hsp.below hb hsp.lt
  have kn : KT none sb stepT W w1 := KT.of_grown (hO.later hb) (Nat.le_refl _) (by simp [stepT]) hgrow
  have hsp1 : Is w1 sp 90 #[.slice A S.length cap] := hspW.kt0 kn (by simp [stepT])
  have k1 : KT (some sp) sb stepT w1 (w1.setCell ⟨sp, 0, none⟩ (.slice (some ⟨gg, 0, none⟩) (S.length + 1) cap2)) := KT.setCell hsp1 hss (.inl rfl) _
  refine ⟨⟨some ⟨gg, 0, none⟩, cap2, ?_, vs ++ [v], ?_, fun k hk => ?_⟩, ((KT.of_below hb (Nat.le_refl _)).trans k0).trans k1⟩
  · rw [hl]; exact hsp1.put 0 _
  · rw [hl]
    refine (show Own w1 sb _ 1 _ (S.length + 1) cap2 (vs ++ [v]) from hown).kept fun g hg => heap_setCell_other w1 ⟨sp, 0, none⟩ g _ fun e => ?_
    have e : g = sp := e
    subst e
    obtain ⟨_, cur, hi⟩ := (show Own w1 sb _ 1 _ (S.length + 1) cap2 (vs ++ [v]) from hown).typed g hg
    exact is_ne hi hsp1 (by decide) rfl
  · have hvl : vs.length = S.length := by rw [hO.1, Nat.mul_one]
    rw [hl] at hk
    by_cases hk2 : k < S.length
    · obtain ⟨u, h1, h2⟩ := hS k hk2
      refine ⟨u, by rw [List.getElem?_append_left (by omega)]; exact h1, ?_⟩
      rw [List.getElem_append_left hk2]
      exact ((h2.later hb).ktS hspW k0 hbs hss).ktS hsp1 k1 hbs hss
    · obtain rfl : k = S.length := by omega
      refine ⟨v, by rw [List.getElem?_append_right (by omega), hvl]; simp, ?_⟩
      have e : (S ++ [s])[S.length]'(by simp) = s := by simp
      rw [e]
      exact (hv.ktS hspW k0 hbs hss).ktS hsp1 k1 hbs hss

set_option maxRecDepth 100000 in
set_option maxHeartbeats 1600000 in
theorem sflush_any (base a sp sb : Nat) (S : List Stp) (w : World) (h : StepsAt w base a sp sb S) (hbs : base ≤ sb) (hss : sb ≤ sp) (hsw : sb ≤ w.heap.size) (hn : S.length ≤ 100000) :
    Calls Tryd.prog 37 #[.pointer (some ⟨sp, 0, none⟩)] w fun e w' => e = .returned (.tuple #[]) ∧ StepsAt w' base a sp sb (S ++ [none]) ∧ KT (some sp) sb stepT w w' := by
  obtain ⟨A, cap, hsp, vs, hO, hS⟩ := h
  obtain ⟨i0, hi, hz0, hz1, hz2⟩ := info_parts infoFn
  have c0 := hsp.cell 0
  have f0 := hsp.free 0
  have HI := Lib.hid hi
  have HZ0 := Lib.hid hz0
  have HZ1 := Lib.hid hz1
  have HZ2 := Lib.hid hz2
  have HO := Lib.hid hO
  have HS := Lib.hid hS
  have HSP := Lib.hid hsp
  have hb := below_new w (.cells #[.func (.func 54) #[] #[]] 93)
  have c0' : (w.alloc (.cells #[.func (.func 54) #[] #[]] 93)).cell? ⟨sp, 0, none⟩ = some (.slice A S.length cap) := (hb.cell (p := ⟨sp, 0, none⟩) hsp.lt).trans c0
  have HNE := Lib.hid (show some sp ≠ (Value.slice A S.length cap).ownBlock from fun e => by
    rcases hO.shape with h0 | ⟨g, h0⟩
    · rw [h0] at e; cases e
    · obtain ⟨_, cur, hi5⟩ := hO.typed g h0
      rw [h0] at e
      injection e with e
      exact is_ne hi5 hsp (by decide) (show g = sp from e.symm))
  have HB := Lib.hid hb
  clear hi hz0 hz1 hz2 hO hS hsp hb
  go_enter Tryd.func37, Tryd.ntmps37
  go_wp2_with (at_builtin
               refine wpList_append_lies _ rfl _ _ _ (by rfl) sb 93 i0 .nilFunc 1 8 Tryd.underlying90 HI.out HZ0.out HZ1.out HZ2.out rfl (by decide) (.slice A S.length cap) S.length vs (by rfl) (HO.out.later HB.out) ⟨w.heap.size, 0, none⟩ 1 1 [.func (.func 54) #[] #[]] (by rfl) (by rfl) (by have := World.news_of_block (heap_alloc_new w (.cells #[.func (.func 54) #[] #[]] 93)); exact this) (by simp [Value.oneCell']) (by omega) (by simp only [maxLen]; omega) (by omega) (by simp; omega) (w.heap.size + 1) (by simp) ?_
               intro gg cap2 w1 hown1 hgrow hat hlt
               have hspl : sp < (w.alloc (.cells #[.func (.func 54) #[] #[]] 93)).heap.size := by rw [World.size_alloc]; have q : sp < w.heap.size := HSP.out.lt; omega
               have c1' : w1.cell? ⟨sp, 0, none⟩ = some (.slice A S.length cap) := (hgrow.cell_far ⟨sp, 0, none⟩ hspl HNE.out).trans c0'
               have f1' : w1.frozen? ⟨sp, 0, none⟩ = false := (hgrow.frozen_far ⟨sp, 0, none⟩ hspl HNE.out).trans ((HB.out.frozen (p := ⟨sp, 0, none⟩) HSP.out.lt).trans f0)
               have HOW := Lib.hid hown1
               have HGR := Lib.hid hgrow
               clear hown1 hgrow hat hlt)
  go_end0
  obtain ⟨q1, q2⟩ := steps_grown (base := base) (a := a) (s := none) HB.out HSP.out HO.out HS.out (show StepV _ base a _ none from rfl) hbs hss HOW.out HGR.out
  exact ⟨rfl, q1, q2⟩
end Go.Proofs.YtimddchgmocdaaaDoor
set_option linter.unusedVariables false
set_option linter.unusedSimpArgs false
namespace Go.Proofs.YtimddchgmocdaaaDoor
open Go.RowKit

set_option maxRecDepth 100000 in
set_option maxHeartbeats 1600000 in
theorem swrite_any (base a sp sb : Nat) (S : List Stp) (i : Nat) (A0 : Option Addr) (c0 : Nat) (b : List UInt8) (w : World) (h : StepsAt w base a sp sb S) (hA : ∃ cur, Is w a 74 cur) (hbs : base ≤ sb) (hss : sb ≤ sp) (hsw : sb ≤ w.heap.size) (hn : S.length ≤ 100000) (hb5 : b.length = 512) (hbuf : Buf w base (some a) A0 b) :
    Calls Tryd.prog 36 #[.pointer (some ⟨sp, 0, none⟩), .int .i64 (i : Int), .slice A0 512 c0] w fun e w' => e = .returned (.tuple #[]) ∧ StepsAt w' base a sp sb (S ++ [some (i, b)]) ∧ KT (some sp) sb stepT w w' := by
  obtain ⟨A, cap, hsp, vs, hO, hS⟩ := h
  obtain ⟨i0, hi, hz0, hz1, hz2⟩ := info_parts infoFn
  have cc0 := hsp.cell 0
  have f0 := hsp.free 0
  have HI := Lib.hid hi
  have HZ0 := Lib.hid hz0
  have HZ1 := Lib.hid hz1
  have HZ2 := Lib.hid hz2
  have HO := Lib.hid hO
  have HS := Lib.hid hS
  have HSP := Lib.hid hsp
  obtain ⟨v, hv⟩ : ∃ v : Value, v = .func (.func 52) #[] #[.pointer (some ⟨w.heap.size, 0, none⟩), .pointer (some ⟨w.heap.size + 1, 0, none⟩)] := ⟨_, rfl⟩
  have k1 := below_new w (.cells #[.int .i64 (i : Int)] 3)
  have k2 := below_new (w.alloc (.cells #[.int .i64 (i : Int)] 3)) (.cells #[.slice A0 512 c0] 42)
  have k3 := below_new ((w.alloc (.cells #[.int .i64 (i : Int)] 3)).alloc (.cells #[.slice A0 512 c0] 42)) (.cells #[v] 93)
  have j1 := Is.new w 3 #[.int .i64 (i : Int)]
  have j2 := Is.new (w.alloc (.cells #[.int .i64 (i : Int)] 3)) 42 #[.slice A0 512 c0]
  rw [World.size_alloc] at j2
  have e1 := k1.trans (k2.mono (by rw [World.size_alloc]; omega))
  have hb := e1.trans (k3.mono (by rw [World.size_alloc, World.size_alloc]; omega))
  have HV := Lib.hid (show StepV (((w.alloc (.cells #[.int .i64 (i : Int)] 3)).alloc (.cells #[.slice A0 512 c0] 42)).alloc (.cells #[v] 93)) base a v (some (i, b)) from
    ⟨hb5, w.heap.size, w.heap.size + 1, A0, c0, hv, (j1.below k2 j1.lt).below k3 ((j1.below k2 j1.lt).lt), j2.below k3 j2.lt, hbuf.later hb⟩)
  have c0' : (((w.alloc (.cells #[.int .i64 (i : Int)] 3)).alloc (.cells #[.slice A0 512 c0] 42)).alloc (.cells #[v] 93)).cell? ⟨sp, 0, none⟩ = some (.slice A S.length cap) := (hb.cell (p := ⟨sp, 0, none⟩) hsp.lt).trans cc0
  have c0e : ((w.alloc (.cells #[.int .i64 (i : Int)] 3)).alloc (.cells #[.slice A0 512 c0] 42)).cell? ⟨sp, 0, none⟩ = some (.slice A S.length cap) := (e1.cell (p := ⟨sp, 0, none⟩) hsp.lt).trans cc0
  have HNE := Lib.hid (show some sp ≠ (Value.slice A S.length cap).ownBlock from fun e => by
    rcases hO.shape with h0 | ⟨g, h0⟩
    · rw [h0] at e; cases e
    · obtain ⟨_, cur, hi5⟩ := hO.typed g h0
      rw [h0] at e
      injection e with e
      exact is_ne hi5 hsp (by decide) (show g = sp from e.symm))
  have HB := Lib.hid hb
  have HVV := Lib.hid hv
  have HV1 := Lib.hid (show v.oneCell' = true by rw [hv]; rfl)
  clear hi hz0 hz1 hz2 hO hS hsp hb k1 k2 k3 j1 j2 e1 hbuf hA
  go_enter Tryd.func36, Tryd.ntmps36
  go_wp2_with (at_builtin
               rw [← hv]
               clear hv
               refine wpList_append_lies _ rfl _ _ _ (by rfl) sb 93 i0 .nilFunc 1 8 Tryd.underlying90 HI.out HZ0.out HZ1.out HZ2.out rfl (by decide) (.slice A S.length cap) S.length vs (by rfl) (HO.out.later HB.out) ⟨w.heap.size + 1 + 1, 0, none⟩ 1 1 [v] (by rfl) (by rfl) (by have := World.news_of_block (heap_alloc_new ((w.alloc (.cells #[.int .i64 (i : Int)] 3)).alloc (.cells #[.slice A0 512 c0] 42)) (.cells #[v] 93)); rw [World.size_alloc, World.size_alloc] at this; exact this) (by intro u hu; simp at hu; rw [hu]; exact HV1.out) (by omega) (by simp only [maxLen]; omega) (by omega) (by simp; omega) (w.heap.size + 3) (by simp) ?_
               intro gg cap2 w1 hown1 hgrow hat hlt
               have hspl : sp < (((w.alloc (.cells #[.int .i64 (i : Int)] 3)).alloc (.cells #[.slice A0 512 c0] 42)).alloc (.cells #[v] 93)).heap.size := by have q : sp < w.heap.size := HSP.out.lt; have := HB.out.size; omega
               have c1' : w1.cell? ⟨sp, 0, none⟩ = some (.slice A S.length cap) := (hgrow.cell_far ⟨sp, 0, none⟩ hspl HNE.out).trans c0'
               have f1' : w1.frozen? ⟨sp, 0, none⟩ = false := (hgrow.frozen_far ⟨sp, 0, none⟩ hspl HNE.out).trans ((HB.out.frozen (p := ⟨sp, 0, none⟩) HSP.out.lt).trans f0)
               have HOW := Lib.hid hown1
               have HGR := Lib.hid hgrow
               clear hown1 hgrow hat hlt)
  go_end0
  obtain ⟨q1, q2⟩ := steps_grown (base := base) (a := a) (s := some (i, b)) HB.out HSP.out HO.out HS.out HV.out hbs hss HOW.out HGR.out
  exact ⟨rfl, q1, q2⟩

theorem Dk.does_facts (S : List Stp) : ∀ D : Dk, (D.does S).2 = 0 → D.down = false → (D.does S).1.down = false ∧ (D.does S).1.lasts.length = D.lasts.length ∧ (D.does S).1.n ≤ D.n + S.length := by
  induction S with
  | nil => intro D _ h; exact ⟨h, rfl, Nat.le_refl _⟩
  | cons s S ih =>
    intro D h hd
    have e : D.does (s :: S) = if D.err = 0 then (D.step1 s).does S else (D.step1 s, D.err) := rfl
    rw [e] at h ⊢
    rcases D.err_two with ⟨h1, h2⟩ | ⟨h1, h2⟩
    · rw [if_neg (by rw [h2]; decide)] at h; rw [h2] at h; cases h
    · rw [if_pos h2] at h ⊢
      have q : (D.step1 s).down = false ∧ (D.step1 s).lasts.length = D.lasts.length ∧ (D.step1 s).n = D.n + 1 := by
        cases s with
        | none =>
          have f : D.flush = { D with lasts := Dk.puts D.lasts D.pend, pend := [], left := D.left - 1, n := D.n + 1 } := by unfold Dk.flush; rw [if_neg h1]
          show D.flush.down = false ∧ D.flush.lasts.length = _ ∧ D.flush.n = _
          rw [f]
          exact ⟨hd, Dk.puts_length _ _, rfl⟩
        | some x =>
          have f : D.write x.1 x.2 = { D with pend := D.pend ++ [x], left := D.left - 1, n := D.n + 1 } := by unfold Dk.write; rw [if_neg h1]
          show (D.write x.1 x.2).down = false ∧ (D.write x.1 x.2).lasts.length = _ ∧ (D.write x.1 x.2).n = _
          rw [f]
          exact ⟨hd, rfl, rfl⟩
      obtain ⟨q1, q2, q3⟩ := ih _ h q.1
      exact ⟨q1, q2.trans q.2.1, by rw [List.length_cons]; omega⟩
theorem Dk.does_one (D : Dk) (s : Stp) : D.does [s] = (D.step1 s, D.err) := by
  show (if D.err = 0 then (D.step1 s, 0) else (D.step1 s, D.err)) = _
  split
  · rename_i h; rw [h]
  · rfl
theorem Dk.does_next (D : Dk) (S : List Stp) (k : Nat) (hk : k < S.length) (h0 : (D.does (S.take k)).2 = 0) :
    D.does (S.take (k + 1)) = ((D.does (S.take k)).1.step1 S[k], (D.does (S.take k)).1.err) := by
  rw [take_snoc S k hk, Dk.does_append, if_pos h0, Dk.does_one]
theorem Dk.does_stop (D : Dk) (S : List Stp) (k : Nat) (h0 : (D.does (S.take k)).2 ≠ 0) : D.does S = D.does (S.take k) := by
  have e := Dk.does_append (S.take k) (S.drop k) D
  rw [List.take_append_drop, if_neg h0] at e
  exact e
end Go.Proofs.YtimddchgmocdaaaDoor
set_option linter.unusedVariables false
set_option linter.unusedSimpArgs false
namespace Go.Proofs.YtimddchgmocdaaaDoor
open Go.RowKit

set_option maxRecDepth 100000 in
theorem flush1_any (base a d : Nat) (D : Dk) (w : World) (h : DiskAt w base a d D) (hdn : D.down = false) (hbw : base ≤ w.heap.size) (hn0 : D.n ≤ 1000000) :
    Calls Tryd.prog 54 #[.pointer (some ⟨d, 0, none⟩)] w fun e w' => e = .returned (.int .i64 D.err) ∧ DiskAt w' base a d D.flush ∧ KT (some a) base diskT w w' := by
  go_enter Tryd.func54, Tryd.ntmps54
  have HD := Lib.hid h
  have HDN := Lib.hid hdn
  clear h hdn
  go_wp2_with (go_at_call 55
               refine (dflush_any base a d D w HD.out HDN.out hbw hn0).mono ?_
               rintro e w9 ⟨rfl, hD9, hk9⟩
               have HD9 := Lib.hid hD9
               have HK9 := Lib.hid hk9
               clear hD9 hk9)
  go_ret
  exact ⟨rfl, HD9.out, HK9.out⟩
set_option maxRecDepth 100000 in
theorem write1_any (base a d bi bb : Nat) (D : Dk) (i : Nat) (A : Option Addr) (c : Nat) (b : List UInt8) (w : World) (h : DiskAt w base a d D) (hdn : D.down = false) (hbw : base ≤ w.heap.size) (hn0 : D.n ≤ 1000000) (hi : i < D.lasts.length) (hb5 : b.length = 512)
    (h1 : Is w bi 3 #[.int .i64 (i : Int)]) (h2 : Is w bb 42 #[.slice A 512 c]) (hb : Buf w base (some a) A b) :
    Calls Tryd.prog 52 #[.pointer (some ⟨d, 0, none⟩), .pointer (some ⟨bi, 0, none⟩), .pointer (some ⟨bb, 0, none⟩)] w fun e w' => e = .returned (.int .i64 D.err) ∧ DiskAt w' base a d (D.write i b) ∧ KT (some a) base diskT w w' := by
  have c1 : w.cell? ⟨bi, 0, none⟩ = some (.int .i64 (i : Int)) := h1.cell 0
  have c2 : w.cell? ⟨bb, 0, none⟩ = some (.slice A 512 c) := h2.cell 0
  have HD := Lib.hid h
  have HDN := Lib.hid hdn
  have HB := Lib.hid hb
  clear h hdn hb h1 h2
  go_enter Tryd.func52, Tryd.ntmps52
  go_wp2_with (go_at_call 53
               refine (dwrite_any base a d D i A c b w HD.out HDN.out hi hb5 HB.out hbw hn0).mono ?_
               rintro e w9 ⟨rfl, hD9, hk9⟩
               have HD9 := Lib.hid hD9
               have HK9 := Lib.hid hk9
               clear hD9 hk9)
  go_ret
  exact ⟨rfl, HD9.out, HK9.out⟩

theorem Own.at1 {w : World} {base n cap : Nat} {t : TypeId} {A : Option Addr} {cs : List Value} (h : Own w base t 1 A n cap cs) {k : Nat} (hk : k < n) {v : Value} (hv : cs[k]? = some v) : ∃ g, A = some ⟨g, 0, none⟩ ∧ w.cell? ⟨g, k, none⟩ = some v := by
  obtain ⟨g, rfl, _, _⟩ := h.form (by omega)
  exact ⟨g, rfl, (h.cell k (by omega)).trans hv⟩
set_option maxRecDepth 100000 in
set_option maxHeartbeats 1600000 in
theorem sdo_any (base a d sb : Nat) (D : Dk) (S : List Stp) (A : Option Addr) (cap : Nat) (w : World) (h : DiskAt w base a d D) (hdn : D.down = false) (hS : StepsRow w base a sb A cap S) (hok : ∀ x, some x ∈ S → x.1 < D.lasts.length) (hbw : base ≤ w.heap.size) (hn0 : D.n + S.length ≤ 1000000) :
    Calls Tryd.prog 39 #[.slice A S.length cap, .pointer (some ⟨d, 0, none⟩)] w fun e w' => e = .returned (.int .i64 (D.does S).2) ∧ DiskAt w' base a d (D.does S).1 ∧ KT (some a) base diskT w w' := by
  obtain ⟨vs, hO, hV⟩ := hS
  obtain ⟨_, _, hisA⟩ := h.a_ne
  have HD := Lib.hid h
  have HDN := Lib.hid hdn
  have HO := Lib.hid hO
  have HV := Lib.hid hV
  have HIA := Lib.hid hisA
  have HOK := Lib.hid hok
  have hsl : S.length ≤ 1000000 := by omega
  clear h hdn hO hV hisA hok
  go_enter Tryd.func39, Tryd.ntmps39
  go_wp2_with fail
  go_loopw [10] (fun v wr => ∃ k : Nat, k ≤ S.length ∧ v = .int .i64 k ∧ (D.does (S.take k)).2 = 0 ∧ DiskAt wr base a d (D.does (S.take k)).1 ∧ KT (some a) base diskT w wr) (fun v _ => S.length - (intOf v).toNat)
  case atStart => exact ⟨0, Nat.zero_le _, rfl, rfl, HD.out, KT.refl _ _ _ _⟩
  case round =>
    obtain ⟨k, hk, rfl, h0, hDr, hKT⟩ := hrel
    obtain ⟨hdr, hlr, hnr⟩ := Dk.does_facts (S.take k) D h0 HDN.out
    have HDr := Lib.hid hDr
    have HKT := Lib.hid hKT
    have H0 := Lib.hid h0
    have HDR := Lib.hid hdr
    have HLR := Lib.hid hlr
    have hnr2 : (D.does (S.take k)).1.n ≤ 1000000 := by rw [List.length_take] at hnr; omega
    have hbr : base ≤ wr.heap.size := Nat.le_trans hbw hKT.size
    clear hDr hKT h0 hdr hlr hnr
    by_cases hlt : k < S.length
    · have hk0 : (k : Int) < (S.length : Int) := by omega
      have hk1 : (0 : Int) ≤ (k : Int) := by omega
      obtain ⟨v, hv, hsv⟩ := HV.out k hlt
      have hOr := HO.out.kt HKT.out (by simp [diskT]) (fun g hg => ne_a HIA.out (by decide) (HO.out.typed g hg).2)
      obtain ⟨g, rfl, hcell⟩ := hOr.at1 hlt hv
      have hsr := hsv.ktD HIA.out HKT.out
      have hnext := Dk.does_next D S k hlt H0.out
      have hstop := Dk.does_stop D S (k + 1)
      have hmem : S[k] ∈ S := List.getElem_mem hlt
      have HNX := Lib.hid hnext
      have HST := Lib.hid hstop
      have HMEM := Lib.hid hmem
      clear hnext hstop hOr hsv hmem
      obtain ⟨E, hE⟩ : ∃ E, (D.does (S.take k)).1 = E := ⟨_, rfl⟩
      obtain ⟨s, hs⟩ : ∃ s, S[k] = s := ⟨_, rfl⟩
      have HSK := Lib.hid hs
      rw [hE] at hnr2 HDr HDR HLR HNX
      rw [hs] at hsr HNX HMEM
      have hsr : StepV wr base a v s := hsr
      clear hE hs hv
      cases s with
      | none =>
        have hvv : v = .func (.func 54) #[] #[] := hsr
        subst hvv
        clear hsr
        rcases E.err_two with ⟨e1, e2⟩ | ⟨e1, e2⟩
        · have E2 := Lib.hid e2
          clear e1 e2
          go_wp2_with (go_at_call 54
                       refine (flush1_any base a d E _ HDr.out HDR.out hbr hnr2).mono ?_
                       rw [E2.out]
                       rintro e w9 ⟨rfl, hD9, hk9⟩
                       have HD9 := Lib.hid hD9
                       have HK9 := Lib.hid hk9
                       clear hD9 hk9)
          go_ret
          have q : D.does (S.take (k + 1)) = (E.flush, 30) := by rw [HNX.out, E2.out]; rfl
          rw [HST.out (by rw [q]; show (30 : Int) ≠ 0; decide), q]
          exact ⟨rfl, HD9.out, HKT.out.trans HK9.out⟩
        · have E2 := Lib.hid e2
          clear e1 e2
          go_wp2_with (go_at_call 54
                       refine (flush1_any base a d E _ HDr.out HDR.out hbr hnr2).mono ?_
                       rw [E2.out]
                       rintro e w9 ⟨rfl, hD9, hk9⟩
                       have HD9 := Lib.hid hD9
                       have HK9 := Lib.hid hk9
                       clear hD9 hk9)
          go_roundw
          case rel => exact ⟨k + 1, by omega, by go_num, by rw [HNX.out]; exact E2.out, by rw [HNX.out]; exact HD9.out, HKT.out.trans HK9.out⟩
          case measure => simp [intOf]; omega
      | some x =>
        obtain ⟨hb5, bi, bb, A2, c2, hvv, q1, q2, q3⟩ := hsr
        subst hvv
        have HQ1 := Lib.hid q1
        have HQ2 := Lib.hid q2
        have HQ3 := Lib.hid q3
        have hxl := HOK.out x HMEM.out
        rw [← HLR.out] at hxl
        have HXL := Lib.hid hxl
        have HB5 := Lib.hid hb5
        clear q1 q2 q3 hxl hb5
        rcases E.err_two with ⟨e1, e2⟩ | ⟨e1, e2⟩
        · have E2 := Lib.hid e2
          clear e1 e2
          go_wp2_with (go_at_call 52
                       refine (write1_any base a d bi bb E x.1 A2 c2 x.2 _ HDr.out HDR.out hbr hnr2 HXL.out HB5.out HQ1.out HQ2.out HQ3.out).mono ?_
                       rw [E2.out]
                       rintro e w9 ⟨rfl, hD9, hk9⟩
                       have HD9 := Lib.hid hD9
                       have HK9 := Lib.hid hk9
                       clear hD9 hk9)
          go_ret
          have q : D.does (S.take (k + 1)) = (E.write x.1 x.2, 30) := by rw [HNX.out, E2.out]; rfl
          rw [HST.out (by rw [q]; show (30 : Int) ≠ 0; decide), q]
          exact ⟨rfl, HD9.out, HKT.out.trans HK9.out⟩
        · have E2 := Lib.hid e2
          clear e1 e2
          go_wp2_with (go_at_call 52
                       refine (write1_any base a d bi bb E x.1 A2 c2 x.2 _ HDr.out HDR.out hbr hnr2 HXL.out HB5.out HQ1.out HQ2.out HQ3.out).mono ?_
                       rw [E2.out]
                       rintro e w9 ⟨rfl, hD9, hk9⟩
                       have HD9 := Lib.hid hD9
                       have HK9 := Lib.hid hk9
                       clear hD9 hk9)
          go_roundw
          case rel => exact ⟨k + 1, by omega, by go_num, by rw [HNX.out]; exact E2.out, by rw [HNX.out]; exact HD9.out, HKT.out.trans HK9.out⟩
          case measure => simp [intOf]; omega
    · obtain rfl : S.length = k := by omega
      have hall : S.take S.length = S := List.take_length
      rw [hall] at HDr H0
      go_wp2_with fail
      go_ret
      exact ⟨by rw [H0.out]; rfl, HDr.out, HKT.out⟩
end Go.Proofs.YtimddchgmocdaaaDoor
