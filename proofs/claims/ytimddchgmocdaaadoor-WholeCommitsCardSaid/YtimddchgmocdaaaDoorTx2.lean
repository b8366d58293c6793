/-
  A TRANSACTION IN MEMORY; its short calls.
  A TRANSACTION's Read.
-/
import Derived.Test.YtimddchgmocdaaaDoorSw
set_option linter.unusedVariables false
set_option linter.unusedSimpArgs false
namespace Go.Proofs.YtimddchgmocdaaaDoor
open Go.RowKit Go.Maps

/-- how an element of the map is told -/
def RV (v : Value) : Option (DataW Value × List MemPlace) := some (.held v, [])
def nilD : DataW Value := .held (.slice none 0 0)
abbrev keyD (i : Nat) : Lit := .int .i64 (i : Int)
/-- the map of the blocks that are put: P tells the bytes -/
structure MapAt (w : World) (a b n N : Nat) (P : Nat → Option (List UInt8)) (D : DataW Value) : Prop where
  own : w.ownsMap Tryd.prog 3 RV b n D
  keys : ∀ x : Int, Maps.has D (.int .i64 x) = true → ∃ i : Nat, x = (i : Int) ∧ 98 ≤ i ∧ i < N ∧ (P i).isSome = true
  no : ∀ i : Nat, P i = none → Maps.has D (keyD i) = false
  yes : ∀ (i : Nat) (l : List UInt8), P i = some l → Maps.has D (keyD i) = true ∧ l.length = 512 ∧ ∃ g c, D.atKey (keyD i) nilD = .held (.slice (some g) 512 c) ∧ Buf w 0 (some a) (some g) l
theorem ownsMap_heap {w w2 : World} {k : TypeId} {R : Value → Option (DataW Value × List MemPlace)} {b n : Nat} {D : DataW Value} (h : w.ownsMap Tryd.prog k R b n D) (e : w2.heap[b]? = w.heap[b]?) : w2.ownsMap Tryd.prog k R b n D := by
  obtain ⟨es, clock, hb, r⟩ := h
  exact ⟨es, clock, e.trans hb, r⟩
theorem ownsMap_isMap {w : World} {k : TypeId} {R : Value → Option (DataW Value × List MemPlace)} {b n : Nat} {D : DataW Value} (h : w.ownsMap Tryd.prog k R b n D) : ∃ es clock, w.heap[b]? = some (.map es clock) := by
  obtain ⟨es, clock, hb, _⟩ := h
  exact ⟨es, clock, hb⟩
theorem not_tk {w : World} {b : Nat} {es : Array MapEntry} {clock : Nat} (h : w.heap[b]? = some (.map es clock)) (Ts : List TypeId) : ¬ Tk w b Ts := fun ⟨cs, t, f, h1, _⟩ => by
  rw [h] at h1
  injection h1 with h1
  cases h1
theorem Buf.kt3 {w w2 : World} {base : Nat} {a : Option Nat} {A : Option Addr} {l : List UInt8} {Ts : List TypeId} (h : Buf w 0 a A l) (k : KT a base Ts w w2) (h1 : 5 ∉ Ts) (h2 : 74 ∉ Ts) : Buf w2 0 a A l := by
  rcases h with h | ⟨g, off, cs, t, f, rfl, hg, hs, hc⟩
  · exact .inl h
  · have hlt : g < w.heap.size := (Array.getElem?_eq_some_iff.1 hg).1
    have hs' : some g ≠ a ∧ t ∈ [5, 74] := by
      rcases hs with hs | hs
      · omega
      · exact hs
    have e : w2.heap[g]? = w.heap[g]? := k.block g hlt (.inr ⟨hs'.1, fun ⟨cs', t', f', h5, h6⟩ => by
      rw [hg] at h5
      injection h5 with h5
      injection h5 with _ h5
      subst h5
      have h4 := hs'.2
      simp at h4
      rcases h4 with h4 | h4
      · rw [h4] at h6; exact h1 h6
      · rw [h4] at h6; exact h2 h6⟩)
    exact .inr ⟨g, off, cs, t, f, rfl, e.trans hg, hs, fun i hi => (World.cell?_of_block (a := ⟨g, off + i, none⟩) e).trans (hc i hi)⟩
theorem Buf.up {w : World} {base : Nat} {a : Option Nat} {A : Option Addr} {l : List UInt8} (h : Buf w 0 a A l) : Buf w base a A l := by
  rcases h with h | ⟨g, off, cs, t, f, rfl, hg, hs, hc⟩
  · exact .inl h
  · refine .inr ⟨g, off, cs, t, f, rfl, hg, .inr ?_, hc⟩
    rcases hs with hs | hs
    · omega
    · exact hs
theorem MapAt.kt {w w2 : World} {a b n N base : Nat} {P : Nat → Option (List UInt8)} {D : DataW Value} {Ts : List TypeId} {s : Option Nat} (h : MapAt w a b n N P D) (k : KT s base Ts w w2) (hs : s = none ∨ (s = some a ∧ ∃ cur, Is w a 74 cur)) (h1 : 5 ∉ Ts) (h2 : 74 ∉ Ts) : MapAt w2 a b n N P D := by
  obtain ⟨es, clock, hb⟩ := ownsMap_isMap h.own
  have hlt : b < w.heap.size := (Array.getElem?_eq_some_iff.1 hb).1
  have hne : some b ≠ s := by
    rcases hs with rfl | ⟨rfl, cur, hi⟩
    · intro e; cases e
    · intro e
      injection e with e
      subst e
      rw [show w.heap[b]? = _ from hi] at hb
      injection hb with hb
      cases hb
  refine ⟨ownsMap_heap h.own (k.block b hlt (.inr ⟨hne, not_tk hb _⟩)), h.keys, h.no, fun i l hi => ?_⟩
  obtain ⟨q1, q2, g, c, q3, q4⟩ := h.yes i l hi
  refine ⟨q1, q2, g, c, q3, ?_⟩
  rcases hs with rfl | ⟨rfl, _⟩
  · exact q4.kt2 k (Nat.zero_le _) h1 h2 (fun g e => by cases e)
  · exact q4.kt3 k h1 h2
theorem MapAt.later {w w2 : World} {a b n N : Nat} {P : Nat → Option (List UInt8)} {D : DataW Value} (h : MapAt w a b n N P D) (hb : Below w.heap.size w w2) : MapAt w2 a b n N P D :=
  h.kt (s := none) (base := 0) (Ts := []) (KT.of_below hb (Nat.le_refl _)) (.inl rfl) (by simp) (by simp)
theorem wf_i64 (x : Int) (h0 : -9223372036854775808 ≤ x) (h1 : x ≤ 9223372036854775807) : (Lit.int .i64 x).wf = true := by
  show (decide (IntKind.i64.min ≤ x) && decide (x ≤ IntKind.i64.max)) = true
  rw [show IntKind.i64.min = -9223372036854775808 from rfl, show IntKind.i64.max = 9223372036854775807 from rfl, decide_eq_true h0, decide_eq_true h1]
  rfl
/-- what a look-up hands back -/
theorem MapAt.look {w : World} {a b n N : Nat} {P : Nat → Option (List UInt8)} {D : DataW Value} (h : MapAt w a b n N P D) (i : Nat) (hi : i ≤ 1000000) (X : World) (hX : X.heap[b]? = w.heap[b]?) :
    (∃ v ps, (Instr.lookup 61 (.map (some b)) (.int .i64 (i : Int)) true).run Tryd.prog X = .ok (.tuple #[v, .bool (Maps.has D (keyD i))]) X ∧ RV v = some (D.atKey (keyD i) nilD, ps)) ∧
    (∃ v ps, (Instr.lookup 61 (.map (some b)) (.int .i64 (i : Int)) false).run Tryd.prog X = .ok v X ∧ RV v = some (D.atKey (keyD i) nilD, ps)) := by
  have hk : keyOf Tryd.prog 3 (.int .i64 (i : Int)) = some (keyD i) := keyOf_int_mk Tryd.underlying3 (wf_i64 _ (by omega) (by omega))
  exact ⟨(ownsMap_heap h.own hX).look_ok (int_keyed Tryd.underlying3) Tryd.underlying61 (z := .slice none 0 0) (by kernel_rfl) (zd := nilD) (zp := []) rfl hk,
    (ownsMap_heap h.own hX).lookup (int_keyed Tryd.underlying3) Tryd.underlying61 (z := .slice none 0 0) (by kernel_rfl) (zd := nilD) (zp := []) rfl hk⟩
/-- the value that a look-up hands back, by what the map holds -/
theorem MapAt.val {w : World} {a b n N : Nat} {P : Nat → Option (List UInt8)} {D : DataW Value} (h : MapAt w a b n N P D) {i : Nat} {v : Value} {ps : List MemPlace} (hv : RV v = some (D.atKey (keyD i) nilD, ps)) :
    (P i = none ∧ Maps.has D (keyD i) = false ∧ v = .slice none 0 0) ∨ (∃ l g c, P i = some l ∧ Maps.has D (keyD i) = true ∧ l.length = 512 ∧ v = .slice (some g) 512 c ∧ Buf w 0 (some a) (some g) l) := by
  have hv2 : DataW.held v = D.atKey (keyD i) nilD := by
    unfold RV at hv
    injection hv with hv
    exact (Prod.mk.inj hv).1
  cases hP : P i with
  | none =>
    left
    have hn := h.no i hP
    refine ⟨rfl, hn, ?_⟩
    rw [Maps.atKey_of_not_has hn] at hv2
    unfold nilD at hv2
    injection hv2
  | some l =>
    right
    obtain ⟨q1, q2, g, c, q3, q4⟩ := h.yes i l hP
    rw [q3] at hv2
    injection hv2 with hv2
    exact ⟨l, g, c, rfl, q1, q2, hv2, q4⟩
/-- an open transaction at t, over the disk at d whose sectors lie in block a; its own blocks lie from B on -/
def TxnAt (w : World) (B a d t N n : Nat) (P : Nat → Option (List UInt8)) : Prop :=
  B ≤ t ∧ ∃ (b : Nat) (D : DataW Value) (U : Option Addr) (un uc : Nat) (ucs : List Value), B ≤ b ∧ Is w t 64 #[.pointer (some ⟨d, 0, none⟩), .map (some b), .slice U un uc, .bool false] ∧ MapAt w a b n N P D ∧ Own w B 1 1 U un uc ucs ∧ un ≤ n
theorem TxnAt.kt {w w2 : World} {B a d t n N base : Nat} {P : Nat → Option (List UInt8)} {Ts : List TypeId} {s : Option Nat} (h : TxnAt w B a d t N n P) (k : KT s base Ts w w2) (hs : s = none ∨ (s = some a ∧ ∃ cur, Is w a 74 cur)) (h1 : 5 ∉ Ts) (h2 : 74 ∉ Ts) (h3 : 64 ∉ Ts) (h4 : 1 ∉ Ts) : TxnAt w2 B a d t N n P := by
  obtain ⟨ht, b, D, U, un, uc, ucs, hb, hI, hM, hO, hn⟩ := h
  have ne : ∀ g u, u ≠ 74 → (∃ cur, Is w g u cur) → some g ≠ s := fun g u hu ⟨cur, hg⟩ e => by
    rcases hs with rfl | ⟨rfl, cur2, hi⟩
    · cases e
    · injection e with e
      exact is_ne hg hi hu e
  exact ⟨ht, b, D, U, un, uc, ucs, hb, hI.kt k (.inr ⟨ne t _ (by decide) ⟨_, hI⟩, h3⟩), hM.kt k hs h1 h2, hO.kt k h4 (fun g hg => ne g _ (by decide) (hO.typed g hg).2), hn⟩
theorem TxnAt.later {w w2 : World} {B a d t n N : Nat} {P : Nat → Option (List UInt8)} (h : TxnAt w B a d t N n P) (hb : Below w.heap.size w w2) : TxnAt w2 B a d t N n P :=
  h.kt (s := none) (base := 0) (Ts := []) (KT.of_below hb (Nat.le_refl _)) (.inl rfl) (by simp) (by simp) (by simp) (by simp)
set_option maxRecDepth 100000 in
set_option maxHeartbeats 800000 in
theorem begin_any (a d N : Nat) (w : World) : Calls Tryd.prog 6 #[.pointer (some ⟨d, 0, none⟩)] w fun e w' => (∃ t, e = .returned (.pointer (some ⟨t, 0, none⟩)) ∧ TxnAt w' w.heap.size a d t N 0 (fun _ => none)) ∧ Below w.heap.size w w' := by
  have hmm := @run_makeMap Tryd.prog
  go_enter Tryd.func6, Tryd.ntmps6
  go_wp2_with fail
  go_ret
  have hb1 := below_new w (.map #[] 0)
  have hb2 := below_new (w.alloc (.map #[] 0)) (.cells #[.pointer (some ⟨d, 0, none⟩), .map (some w.heap.size), .slice none 0 0, .bool false] 64)
  have hI := Is.new (w.alloc (.map #[] 0)) 64 #[.pointer (some ⟨d, 0, none⟩), .map (some w.heap.size), .slice none 0 0, .bool false]
  rw [World.size_alloc] at hI
  refine ⟨⟨w.heap.size + 1, rfl, by omega, w.heap.size, .map [], none, 0, 0, [], Nat.le_refl _, hI, ?_, Own.nil _ _ _ _, Nat.le_refl _⟩, hb1.trans (hb2.mono (by rw [World.size_alloc]; omega))⟩
  exact ⟨(World.ownsMap_made w _ _ _).alloc _, (fun x hx => by cases hx), (fun i _ => rfl), (fun i l hl => by cases hl)⟩
theorem over_any (t : Nat) (o : Bool) (w : World) (h : w.cell? ⟨t, 3, none⟩ = some (.bool o)) : Calls Tryd.prog 13 #[.pointer (some ⟨t, 0, none⟩)] w fun e w' => e = .returned (.bool o) ∧ w = w' := by
  go_enter Tryd.func13, Tryd.ntmps13
  go_wp2_with fail
  go_ret
  exact ⟨rfl, rfl⟩
def overCs (d : Nat) : Array Value := #[.pointer (some ⟨d, 0, none⟩), .map none, .slice none 0 0, .bool true]
set_option maxRecDepth 100000 in
theorem end_any (B a d t N n : Nat) (P : Nat → Option (List UInt8)) (w : World) (h : TxnAt w B a d t N n P) :
    Calls Tryd.prog 24 #[.pointer (some ⟨t, 0, none⟩)] w fun e w' => e = .returned (.tuple #[]) ∧ Is w' t 64 (overCs d) ∧ KT (some t) B [] w w' := by
  obtain ⟨ht, b, D, U, un, uc, ucs, hb, hI, hM, hO, hn⟩ := h
  have c1 : w.cell? ⟨t, 1, none⟩ = some (.map (some b)) := hI.cell 1
  have c2 : w.cell? ⟨t, 2, none⟩ = some (.slice U un uc) := hI.cell 2
  have c3 : w.cell? ⟨t, 3, none⟩ = some (.bool false) := hI.cell 3
  have f1 := hI.free 1
  have f2 := hI.free 2
  have f3 := hI.free 3
  have HI := Lib.hid hI
  clear hI hM hO
  go_enter Tryd.func24, Tryd.ntmps24
  go_wp2_with fail
  go_end0
  have h1 := HI.out.put 1 (.map none)
  have h2 := h1.put 2 (.slice none 0 0)
  have h3 := h2.put 3 (.bool true)
  exact ⟨rfl, h3, ((KT.setCell (a := some t) (i := 1) (Ts := []) HI.out ht (.inl rfl) (.map none)).trans (KT.setCell (a := some t) (i := 2) h1 ht (.inl rfl) (.slice none 0 0))).trans (KT.setCell (a := some t) (i := 3) h2 ht (.inl rfl) (.bool true))⟩
end Go.Proofs.YtimddchgmocdaaaDoor
set_option linter.unusedVariables false
set_option linter.unusedSimpArgs false
namespace Go.Proofs.YtimddchgmocdaaaDoor
open Go.RowKit Go.Maps

def seen (P : Nat → Option (List UInt8)) (D : Dk) (i : Nat) : List UInt8 := (P i).getD (D.read i)
theorem Own.bytes_sec {w : World} {g : Nat} {b : List UInt8} (h : Is w g 74 (u8s b)) : Bytes w (some ⟨g, 0, none⟩) b :=
  .inr ⟨g, 0, rfl, fun k hk => by
    rw [show (⟨g, 0 + k, none⟩ : Addr) = ⟨g, k, none⟩ by rw [Nat.zero_add], h.cell k]
    simp [u8s, hk]⟩
set_option maxRecDepth 100000 in
set_option maxHeartbeats 1600000 in
theorem tread_any (base B a d t N n : Nat) (P : Nat → Option (List UInt8)) (D : Dk) (i : Nat) (w : World) (h : TxnAt w B a d t N n P) (hD : DiskAt w base a d D) (hdn : D.down = false) (hN : D.lasts.length = N) (hi : i < N) :
    Calls Tryd.prog 10 #[.pointer (some ⟨t, 0, none⟩), .int .i64 (i : Int)] w fun e w' => (∃ A c, e = .returned (.tuple #[.slice A 512 c, .int .i64 0]) ∧ Bytes w' A (seen P D i)) ∧ Below w.heap.size w w' := by
  obtain ⟨ht, b, Dm, U, un, uc, ucs, hb, hI, hM, hO, hn⟩ := h
  have hlN : D.lasts.length ≤ 16384 := hD.1.2.1
  have c0 : w.cell? ⟨t, 0, none⟩ = some (.pointer (some ⟨d, 0, none⟩)) := hI.cell 0
  have c1 : w.cell? ⟨t, 1, none⟩ = some (.map (some b)) := hI.cell 1
  have c3 : w.cell? ⟨t, 3, none⟩ = some (.bool false) := hI.cell 3
  obtain ⟨v, ps, hrun, hv⟩ := (hM.look i (by omega) w rfl).1
  have hval := hM.val hv
  have HD := Lib.hid hD
  have HDN := Lib.hid hdn
  have HNN := Lib.hid hN
  have hi1 : (0 : Int) ≤ (i : Int) := by omega
  have hi2 : (i : Int) < (N : Int) := by omega
  have HIL := Lib.hid (show i < D.lasts.length by omega)
  clear hD hdn hI hM hO hv hN hlN
  rcases hval with ⟨hP, hh, rfl⟩ | ⟨l, g, c, hP, hh, hl5, rfl, hbuf⟩
  · rw [hh] at hrun
    have HS := Lib.hid (show seen P D i = D.read i by unfold seen; rw [hP]; rfl)
    clear hP hh
    go_enter Tryd.func10, Tryd.ntmps10
    go_wp2_with (first
      | (go_at_call 20
         refine (blocks_any base a d D _ HD.out).mono ?_
         rw [HNN.out]
         rintro e w1 ⟨rfl, rfl⟩)
      | (go_at_call 23
         refine (dread_ok base a d D i w HD.out HDN.out HIL.out).mono ?_
         rintro e w2 ⟨⟨g2, rfl, hg2, hIg⟩, hb2⟩
         have HB2 := Lib.hid hb2
         have HBY := Lib.hid (Own.bytes_sec hIg)
         clear hb2 hIg))
    go_ret2
    exact ⟨⟨_, 512, rfl, by rw [HS.out]; exact HBY.out⟩, HB2.out⟩
  · rw [hh] at hrun
    have HS := Lib.hid (show seen P D i = l by unfold seen; rw [hP]; rfl)
    have HB5 := Lib.hid hl5
    have HBF := Lib.hid hbuf.bytes
    clear hP hh hl5 hbuf
    go_enter Tryd.func10, Tryd.ntmps10
    go_wp2_with (first
      | (go_at_call 20
         refine (blocks_any base a d D _ HD.out).mono ?_
         rw [HNN.out]
         rintro e w1 ⟨rfl, rfl⟩)
      | (go_at_call 22
         refine (clone8_any (some g) 512 c l HB5.out _ HBF.out (fun h => by cases h) (by simp) (by decide)).mono ?_
         rintro e w5 ⟨⟨A5, c5, rfl, hM5⟩, hb5⟩
         have HB2 := Lib.hid hb5
         have HBY := Lib.hid hM5.bytes
         clear hb5 hM5))
    go_ret2
    exact ⟨⟨A5, c5, rfl, by rw [HS.out]; exact HBY.out⟩, HB2.out⟩
end Go.Proofs.YtimddchgmocdaaaDoor
