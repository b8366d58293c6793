/-
  THE WALK OF WholeCommits.
-/
import Derived.Test.YtimddchgmocdaaaDoorTo
import Derived.Deep.CutBlock
set_option linter.unusedVariables false
set_option linter.unusedSimpArgs false
namespace Go.Proofs.YtimddchgmocdaaaDoor
open Go.RowKit Rec

def bigT : List TypeId := [60, 76, 121, 74, 64, 1]
/-- puts in a block below B, or in a row of their own type -/
def PutsB (w : World) (B : Nat) (A : Option Addr) (ps : List (Int × Int)) : Prop :=
  ps = [] ∨ ∃ g off, A = some ⟨g, off, none⟩ ∧ (g < B ∨ Tk w g [31]) ∧ ∀ k (h : k < ps.length), w.cell? ⟨g, off + k * 2, none⟩ = some (.int .i64 ps[k].1) ∧ w.cell? ⟨g, off + k * 2 + 1, none⟩ = some (.int .i64 ps[k].2)
theorem PutsB.at_ {w : World} {B : Nat} {A : Option Addr} {ps : List (Int × Int)} (h : PutsB w B A ps) : PutsAt w A ps := by
  rcases h with h | ⟨g, off, h1, _, h2⟩
  · exact .inl h
  · exact .inr ⟨g, off, h1, h2⟩
theorem PutsB.kt {w w2 : World} {B : Nat} {A : Option Addr} {ps : List (Int × Int)} {Ts : List TypeId} (h : PutsB w B A ps) (k : KT none B Ts w w2) (ht : 31 ∉ Ts) : PutsB w2 B A ps := by
  rcases h with h | ⟨g, off, rfl, hb, hc⟩
  · exact .inl h
  · by_cases hl : ps = []
    · exact .inl hl
    have hlt : g < w.heap.size := block_lt_of_cell (hc 0 (List.length_pos_iff.2 hl)).1
    have e : w2.heap[g]? = w.heap[g]? := k.block g hlt (hb.imp id fun ⟨cs, t, f, h1, h2⟩ => ⟨(fun e => by cases e), fun ⟨cs', t', f', h3, h4⟩ => by
      rw [h1] at h3
      injection h3 with h3
      injection h3 with _ h3
      simp at h2
      rw [← h3, h2] at h4
      exact ht h4⟩)
    refine .inr ⟨g, off, rfl, hb.imp id fun ⟨cs, t, f, h1, h2⟩ => ⟨cs, t, f, e.trans h1, h2⟩, fun i hi => ?_⟩
    exact ⟨(World.cell?_of_block (a := ⟨g, off + i * 2, none⟩) e).trans (hc i hi).1, (World.cell?_of_block (a := ⟨g, off + i * 2 + 1, none⟩) e).trans (hc i hi).2⟩
/-- a job's five cells -/
def JobCells (w : World) (B : Nat) (cs : List Value) (o : Nat) (j : Job) : Prop :=
  ∃ PA pc KA kc CA cc, cs[o]? = some (.slice PA j.puts.length pc) ∧ cs[o + 1]? = some (.bool j.lets) ∧ cs[o + 2]? = some (.int .i64 j.at_) ∧ cs[o + 3]? = some (.slice KA j.keep.length kc) ∧ cs[o + 4]? = some (.slice CA j.again.length cc) ∧
    PutsB w B PA j.puts ∧ FlagsAt w B KA kc j.keep ∧ CutsAt w B CA j.again
def JobsRow (w : World) (B : Nat) (cs : List Value) (jobs : List Job) : Prop := cs.length = jobs.length * 5 ∧ (∀ v ∈ cs, v.oneCell' = true) ∧ ∀ k (h : k < jobs.length), JobCells w B cs (k * 5) jobs[k]
theorem JobsRow.kt {w w2 : World} {B : Nat} {cs : List Value} {jobs : List Job} {Ts : List TypeId} (h : JobsRow w B cs jobs) (k : KT none B Ts w w2) (hB : B ≤ w.heap.size) (ht : 31 ∉ Ts) : JobsRow w2 B cs jobs :=
  ⟨h.1, h.2.1, fun i hi => by
    obtain ⟨PA, pc, KA, kc, CA, cc, h1, h2, h3, h4, h5, h6, h7, h8⟩ := h.2.2 i hi
    exact ⟨PA, pc, KA, kc, CA, cc, h1, h2, h3, h4, h5, h6.kt k ht, h7.below (k.below hB), h8.below (k.below hB)⟩⟩
/-- the jobs that came in -/
def JobsArg (w : World) (B : Nat) (A : Option Addr) (cs : List Value) : Prop := cs = [] ∨ ∃ g off, A = some ⟨g, off, none⟩ ∧ ∀ j (h : j < cs.length), w.cell? ⟨g, off + j, none⟩ = some cs[j]
theorem JobsArg.below {w w2 : World} {B : Nat} {A : Option Addr} {cs : List Value} (h : JobsArg w B A cs) (hb : Below w.heap.size w w2) : JobsArg w2 B A cs := by
  rcases h with h | ⟨g, off, rfl, hc⟩
  · exact .inl h
  · exact .inr ⟨g, off, rfl, fun j hj => (hb.cell (p := ⟨g, off + j, none⟩) (block_lt_of_cell (hc j hj))).trans (hc j hj)⟩
theorem JobsRow.below {w w2 : World} {B : Nat} {cs : List Value} {jobs : List Job} (h : JobsRow w B cs jobs) (hb : Below w.heap.size w w2) (hB : B ≤ w.heap.size) : JobsRow w2 B cs jobs := h.kt (Ts := []) (KT.of_below hb (Nat.le_refl _)) hB (by simp)
theorem JobsRow.cons {w : World} {B : Nat} {first cs : List Value} {j0 : Job} {jobs : List Job} (h : JobsRow w B cs jobs) (h0 : JobCells w B first 0 j0) (hl : first.length = 5) (h1 : ∀ v ∈ first, v.oneCell' = true) : JobsRow w B (first ++ cs) (j0 :: jobs) := by
  refine ⟨by rw [List.length_append, h.1, hl, List.length_cons]; omega, fun v hv => (List.mem_append.1 hv).elim (h1 v) (h.2.1 v), fun k hk => ?_⟩
  cases k with
  | zero =>
    obtain ⟨PA, pc, KA, kc, CA, cc, q1, q2, q3, q4, q5, r⟩ := h0
    exact ⟨PA, pc, KA, kc, CA, cc, by rw [List.getElem?_append_left (by omega)]; exact q1, by rw [List.getElem?_append_left (by omega)]; exact q2, by rw [List.getElem?_append_left (by omega)]; exact q3, by rw [List.getElem?_append_left (by omega)]; exact q4, by rw [List.getElem?_append_left (by omega)]; exact q5, r⟩
  | succ k =>
    obtain ⟨PA, pc, KA, kc, CA, cc, q1, q2, q3, q4, q5, r⟩ := h.2.2 k (by simpa using hk)
    refine ⟨PA, pc, KA, kc, CA, cc, ?_, ?_, ?_, ?_, ?_, r⟩
    · rw [List.getElem?_append_right (by omega), hl, show (k + 1) * 5 - 5 = k * 5 by omega]; exact q1
    · rw [List.getElem?_append_right (by omega), hl, show (k + 1) * 5 + 1 - 5 = k * 5 + 1 by omega]; exact q2
    · rw [List.getElem?_append_right (by omega), hl, show (k + 1) * 5 + 2 - 5 = k * 5 + 2 by omega]; exact q3
    · rw [List.getElem?_append_right (by omega), hl, show (k + 1) * 5 + 3 - 5 = k * 5 + 3 by omega]; exact q4
    · rw [List.getElem?_append_right (by omega), hl, show (k + 1) * 5 + 4 - 5 = k * 5 + 4 by omega]; exact q5
def job0 : Job := ⟨[(0, 5), (1, 6)], false, 0, [], []⟩
theorem job0_ok : JobOk job0 := ⟨by intro p hp; simp [job0] at hp; rcases hp with rfl | rfl <;> decide, by decide, by decide, by decide, by decide, by intro c hc; cases hc⟩
theorem job0_cells (w : World) (B g : Nat) (h : Is w g 31 #[.int .i64 0, .int .i64 5, .int .i64 1, .int .i64 6]) : JobCells w B [.slice (some ⟨g, 0, none⟩) 2 2, .bool false, .int .i64 0, .slice none 0 0, .slice none 0 0] 0 job0 :=
  ⟨some ⟨g, 0, none⟩, 2, none, 0, none, 0, rfl, rfl, rfl, rfl, rfl, .inr ⟨g, 0, rfl, .inr ⟨_, _, _, h, by simp⟩, fun k hk => by
    have hk : k < 2 := hk
    match k, hk with
    | 0, _ => exact ⟨h.cell 0, h.cell 1⟩
    | 1, _ => exact ⟨h.cell 2, h.cell 3⟩⟩, .inl ⟨rfl, rfl, rfl⟩, .inl rfl⟩
theorem infoJob : (Tryd.prog.info? 38).map (fun i => (i.zero, i.size, i.bytes)) = some (some (.agg #[.slice none 0 0, .bool false, .int .i64 0, .slice none 0 0, .slice none 0 0]), 5, 88) := by kernel_rfl
theorem wpList_make_int {ops : Array Oper} {rest : List Oper} {o : Oper} {a : Act} {w : World} {Q : Exit → Act → World → Prop} (hgd : o.guard = none) (l c : Operand) (ho : o.op = .makeSlice 29 l c)
    (base n : Nat) (hl : a.eval l = .int .i64 (n : Int)) (hc : a.eval c = .int .i64 (n : Int)) (hn : n ≤ 1000000) (hb : base ≤ w.heap.size)
    (h : ∀ w', Nums w' base (some ⟨w.heap.size, 0, none⟩) n (List.replicate n 0) → w.grownBy w' none → wpList Tryd.prog ops Q rest (a.put o.dst (.slice (some ⟨w.heap.size, 0, none⟩) n n)) w') :
    wpList Tryd.prog ops Q (o :: rest) a w := by
  obtain ⟨i0, hi, hz0, hz1, hz2⟩ := info_parts infoNum
  refine wpList_make_full w hgd l c 29 ho base 3 i0 (.int .i64 0) 1 Tryd.underlying29 hi hz0 hz1 .i64 .i64 n n n hl hc rfl rfl (by rw [hz2]; omega) (by simp only [maxLen]; omega) hb ?_
  intro w' ho hg
  refine h w' ?_ hg
  have e : (madeCells (Value.int .i64 0).cells (n * 1)).toList = numCells (List.replicate n 0) := by
    rw [Nat.mul_one]
    refine (toList_madeCells_one _ _).trans ?_
    unfold numCells; rw [List.map_replicate]
  rw [e] at ho
  unfold Nums
  rw [List.length_replicate]
  exact ho
set_option maxRecDepth 100000 in
theorem wpList_append_jobs {ops : Array Oper} {rest : List Oper} {o : Oper} {a' : Act} {w : World} {Q : Exit → Act → World → Prop} (hgd : o.guard = none) (s x : Operand)
    (ho : o.op = .call { callee := .builtin .append, args := #[s, x], argTypes := #[22, 22] })
    (base g0 : Nat) (first : List Value) (hs : a'.eval s = .slice (some ⟨g0, 0, none⟩) 1 1) (hown : w.ownsRow base 38 5 (.slice (some ⟨g0, 0, none⟩) 1 1) 1 first)
    (JA : Option Addr) (jl jc : Nat) (cs : List Value) (hx : a'.eval x = .slice JA jl jc) (hJ : JobsArg w base JA cs) (hn : JA = none → jl = 0 ∧ jc = 0) (hcl : cs.length = jl * 5) (h1 : ∀ v ∈ cs, v.oneCell' = true) (hb : (jl + 1) * 88 ≤ 140737488355328) (hbase : base ≤ w.heap.size)
    (h : ∀ A' cap' w', Own w' base 38 5 A' (jl + 1) cap' (first ++ cs) → w.grownBy w' (some g0) → wpList Tryd.prog ops Q rest (a'.put o.dst (.slice A' (jl + 1) cap')) w') :
    wpList Tryd.prog ops Q (o :: rest) a' w := by
  obtain ⟨i0, hi, hz0, hz1, hz2⟩ := info_parts infoJob
  cases JA with
  | none =>
    obtain ⟨rfl, rfl⟩ := hn rfl
    have hc : cs = [] := List.eq_nil_of_length_eq_zero (by omega)
    subst hc
    refine wpList_append_own_none hgd s x 22 ho base 38 i0 5 Tryd.underlying22 hi _ 1 first hs hown hx ?_
    refine h (some ⟨g0, 0, none⟩) 1 w ?_ ⟨rfl, rfl, rfl, Nat.le_refl _, fun _ _ _ => rfl⟩
    rw [List.append_nil]
    exact hown
  | some ad =>
    have hnews : ∀ j u, cs[j]? = some u → w.cell? (ad.add j) = some u := fun j u hu => by
      have hj := (List.getElem?_eq_some_iff.1 hu).1
      rcases hJ with rfl | ⟨g, off, e, hc⟩
      · simp at hj
      · injection e with e
        subst e
        have hadd : (⟨g, off, none⟩ : Addr).add j = ⟨g, off + j, none⟩ := by unfold Addr.add; split <;> simp_all
        rw [hadd, hc j hj, ← hu, List.getElem?_eq_getElem hj]
    refine wpList_append_own_at w hgd s x 22 ho base 38 i0 _ 5 88 Tryd.underlying22 hi hz0 hz1 hz2 rfl (by decide) _ 1 first hs hown ad jl jc cs hx hcl hnews h1 (by simp only [maxLen]; omega) (by omega) hbase ?_
    intro v' w' hown' hg _ _
    obtain ⟨A', cap', rfl, hO⟩ := own_form hown'
    rw [Nat.add_comm 1 jl] at hO ⊢
    exact h A' cap' w' hO hg
theorem calm_new {N m : Nat} {l : List Int} (hm : 98 + m = N) (h1 : 2 ≤ m) (hb : ∀ j, j < m → blk (l.getD j 0) = Tx.zero) : Calm N l (newDk N) := by
  refine ⟨rfl, rfl, rfl, List.length_replicate, ?_, fun j h2 h3 => ?_⟩
  · show (List.replicate N zero512).getD 1 [] = _
    rw [List.getD_eq_getElem?_getD, List.getElem?_replicate, if_pos (by omega)]
    rfl
  · show (List.replicate N zero512).getD j [] = _
    rw [List.getD_eq_getElem?_getD, List.getElem?_replicate, if_pos (by omega)]
    show zero512 = oldf l j
    unfold oldf
    rw [hb (j - 98) (by omega)]
    rfl
theorem Nums.base_le {w : World} {base b cap : Nat} {A : Option Addr} {ts : List Int} (h : Nums w base A cap ts) (hb : b ≤ base) : Nums w b A cap ts := (show Own w base 3 1 A ts.length cap (numCells ts) from h).base_le hb
set_option maxRecDepth 100000 in
theorem abort_any (B a d t N n : Nat) (P : Nat → Option (List UInt8)) (w : World) (h : TxnAt w B a d t N n P) :
    Calls Tryd.prog 12 #[.pointer (some ⟨t, 0, none⟩)] w fun e w' => e = .returned (.tuple #[]) ∧ Is w' t 64 (overCs d) ∧ KT (some t) B [] w w' := by
  have H := Lib.hid h
  clear h
  go_enter Tryd.func12, Tryd.ntmps12
  go_wp2_with (go_at_call 24
               refine (end_any B a d t N n P w H.out).mono ?_
               rintro e w2 ⟨rfl, hI, hk⟩
               have HI := Lib.hid hI
               have HK := Lib.hid hk
               clear hI hk)
  go_end0
  exact ⟨rfl, HI.out, HK.out⟩
theorem holds_yes (base a d nb : Nat) (D : Dk) (IA : Option Addr) (ic : Nat) (is : List Int) (m : Nat) (w : World) (h : DiskAt w base a d D) (hdn : D.down = false) (hI : Nums w nb IA ic is) (hm : is.length = m) (hN : 98 + m ≤ D.lasts.length) (hf : Fits is) (hh : Holds is D) :
    Calls Tryd.prog 14 #[.slice IA m ic, .pointer (some ⟨d, 0, none⟩)] w fun e w' => e = .returned (.bool true) ∧ Below w.heap.size w w' :=
  (holds_any base a d nb D IA ic is m w h hdn hI hm hN hf).mono fun e w' ⟨hor, hb⟩ => ⟨hor.elim (fun q => q.1) (fun q => absurd hh q.2), hb⟩
theorem holds_not (base a d nb : Nat) (D : Dk) (IA : Option Addr) (ic : Nat) (is : List Int) (m : Nat) (w : World) (h : DiskAt w base a d D) (hdn : D.down = false) (hI : Nums w nb IA ic is) (hm : is.length = m) (hN : 98 + m ≤ D.lasts.length) (hf : Fits is) (hh : ¬ Holds is D) :
    Calls Tryd.prog 14 #[.slice IA m ic, .pointer (some ⟨d, 0, none⟩)] w fun e w' => e = .returned (.bool false) ∧ Below w.heap.size w w' :=
  (holds_any base a d nb D IA ic is m w h hdn hI hm hN hf).mono fun e w' ⟨hor, hb⟩ => ⟨hor.elim (fun q => absurd q.2 hh) (fun q => q.1), hb⟩
theorem big_of {t : TypeId} (h : t ∈ 74 :: 64 :: diskT) : t ∈ bigT := by
  simp only [diskT, List.mem_cons, List.not_mem_nil, or_false] at h
  simp only [bigT, List.mem_cons, List.not_mem_nil, or_false]
  rcases h with h | h | h | h | h <;> simp [h]
set_option maxRecDepth 100000 in
set_option maxHeartbeats 6400000 in
theorem whole_any (n : Int) (JA : Option Addr) (jl jc : Nat) (cs : List Value) (jobs : List Job) (w : World) (hn0 : -9223372036854775808 ≤ n) (hn1 : n ≤ 9223372036854775807) (hJ : JobsArg w w.heap.size JA cs) (hJn : JA = none → jl = 0 ∧ jc = 0) (hR : JobsRow w w.heap.size cs jobs) (hjl : jobs.length = jl) (hjok : ∀ j ∈ jobs, JobOk j)
    (hjb : (jl + 1) * 88 ≤ 140737488355328) (hw : WidthsAt w) (hh : HalfAt w) :
    Calls Tryd.prog 3 #[.int .i64 n, .slice JA jl jc] w fun e w' => e = .returned (.bool true) ∧ Below w.heap.size w w' := by
  obtain ⟨r, hr⟩ : ∃ r : Nat, n % 60 = (r : Int) := ⟨(n % 60).toNat, by omega⟩
  have hr60 : r < 60 := by omega
  obtain ⟨N, hN⟩ : ∃ N : Nat, 100 + (r : Int) = (N : Int) := ⟨100 + r, by omega⟩
  obtain ⟨m, hm⟩ : ∃ m : Nat, 98 + m = N := ⟨r + 2, by omega⟩
  have hN1 : 100 ≤ N := by omega
  have hN2 : N < 160 := by omega
  have hm1 : 2 ≤ m := by omega
  have hm2 : m < 62 := by omega
  obtain ⟨i0, hi, hz0, hz1, hz2⟩ := info_parts infoNum
  have HRM := Lib.hid hr
  have HNR := Lib.hid hN
  have HNM := Lib.hid (show (N : Int) - 98 = (m : Int) by omega)
  have HJ := Lib.hid hJ
  have HR := Lib.hid hR
  have HJL := Lib.hid hjl
  have HJOK := Lib.hid hjok
  have HW := Lib.hid hw
  have HH := Lib.hid hh
  have HJB := Lib.hid hjb
  have Hi := Lib.hid hi
  have Hz0 := Lib.hid hz0
  have Hz1 := Lib.hid hz1
  have Hz2 := Lib.hid hz2
  have HMN := Lib.hid hm
  clear hJ hR hjl hjok hw hh hjb hi hz0 hz1 hz2 hm
  go_enter Tryd.func3, Tryd.ntmps3
  go_wp2_with (first
    | (go_at_call 4
       refine (mod_any n 60 _ (by decide) (by decide) hn0 hn1).mono ?_
       rw [HRM.out]
       rintro e w1 ⟨rfl, rfl⟩)
    | (go_at_call 5
       refine (dnew_any N (by omega) (by omega) w).mono ?_
       rintro e w2 ⟨⟨a, d, rfl, hD⟩, hb⟩
       have HD := Lib.hid hD
       have HB2 := Lib.hid hb
       have hs2 := hb.size
       clear hD hb)
    | (refine wpList_make_int rfl _ _ rfl w.heap.size m (by show Value.int .i64 ((N : Int) - 98) = _; rw [HNM.out]) (by show Value.int .i64 ((N : Int) - 98) = _; rw [HNM.out]) (by omega) hs2 ?_
       intro w3 hN3 hg3
       have hb3 := grown_below_none (Nat.le_refl w2.heap.size) hg3
       have HN3 := Lib.hid hN3
       have HD3 := Lib.hid (HD.out.later hb3)
       have HB3 := Lib.hid (HB2.out.trans (hb3.mono hs2))
       have hs3 := HB3.out.size
       clear hN3 hg3 hb3))
  obtain ⟨gi, hgi⟩ : ∃ gi, w2.heap.size = gi := ⟨_, rfl⟩
  rw [hgi] at HN3 ⊢
  clear hgi
  go_loopw [8] (fun u wr => ∃ (k : Nat) (l : List Int), k ≤ m ∧ u = .int .i64 k ∧ Nums wr w.heap.size (some ⟨gi, 0, none⟩) m l ∧ l.length = m ∧ (∀ j (h : j < l.length), j < k → l[j] = -1) ∧ KT none w.heap.size [3] w3 wr) (fun u _ => m - (intOf u).toNat)
  case atStart => exact ⟨0, List.replicate m 0, Nat.zero_le _, rfl, HN3.out, List.length_replicate, fun j _ h => by omega, KT.refl _ _ _ _⟩
  case round =>
    obtain ⟨k, l, hk, rfl, hNu, hll, hall, hKT⟩ := hrel
    have HNu := Lib.hid hNu
    have HALL := Lib.hid hall
    have HKT := Lib.hid hKT
    have HLL := Lib.hid hll
    clear hall hKT
    by_cases hlt : k < m
    · have hk0 : (k : Int) < (m : Int) := by omega
      have hk1 : (0 : Int) ≤ (k : Int) := by omega
      obtain ⟨cv, ck⟩ : ∃ cv, wr.cell? ⟨gi, k, none⟩ = some (.int .i64 cv) := by
        obtain ⟨_, hg, cj⟩ := nums_cell hNu (k := k) (by omega)
        injection hg with hg
        injection hg with hg
        subst hg
        exact ⟨_, cj⟩
      have fk := hNu.free k
      clear hNu hll
      go_wp2_with fail
      go_roundw
      case rel =>
        refine ⟨k + 1, l.set k (-1), by omega, by go_num, HNu.out.put k (-1), by rw [List.length_set]; exact HLL.out, fun j hj hjk => ?_, ?_⟩
        · rw [List.getElem_set]
          by_cases e : k = j
          · rw [if_pos e]
          · rw [if_neg e]; exact HALL.out j (by rw [List.length_set] at hj; exact hj) (by omega)
        · obtain ⟨_, cur, hi⟩ := (show Own wr w.heap.size 3 1 (some ⟨gi, 0, none⟩) l.length m (numCells l) from HNu.out).typed gi rfl
          exact HKT.out.trans (KT.setCell (a := none) (i := k) hi (HNu.out.ge gi rfl) (.inr (by simp)) _)
      case measure => simp [intOf]; omega
    · obtain rfl : m = k := by omega
      have hfit : Fits l := fun v hv => by
        obtain ⟨j, hj, e⟩ := List.mem_iff_getElem.1 hv
        rw [← e, HALL.out j hj (by rw [HLL.out] at hj; exact hj)]
        omega
      have hblk : ∀ j, j < m → blk (l.getD j 0) = Tx.zero := fun j hj => by
        rw [List.getD_eq_getElem?_getD, List.getElem?_eq_getElem (by rw [HLL.out]; exact hj), Option.getD_some, HALL.out j (by rw [HLL.out]; exact hj) hj]
        rfl
      clear hNu hll
      have hsr := HKT.out.size
      obtain ⟨i5, hi5, _⟩ := info_parts infoJob
      have hb5 := below_new wr (.cells #[.int .i64 0, .int .i64 5, .int .i64 1, .int .i64 6] 31)
      have hb6 := below_new (wr.alloc (.cells #[.int .i64 0, .int .i64 5, .int .i64 1, .int .i64 6] 31)) (.cells #[.slice (some ⟨wr.heap.size, 0, none⟩) 2 2, .bool false, .int .i64 0, .slice none 0 0, .slice none 0 0] 38)
      have HB56 := Lib.hid (hb5.trans (hb6.mono (by rw [World.size_alloc]; omega)))
      have hO6 := World.ownsRow_lit (base := w.heap.size) (e := 38) (size := 5) (wr.alloc (.cells #[.int .i64 0, .int .i64 5, .int .i64 1, .int .i64 6] 31)) #[.slice (some ⟨wr.heap.size, 0, none⟩) 2 2, .bool false, .int .i64 0, .slice none 0 0, .slice none 0 0] 1 (by rw [World.size_alloc]; omega) (by simp [maxLen]) (by simp)
      rw [World.size_alloc] at hO6
      have HO6 := Lib.hid hO6
      have hi5' := (Is.new wr 31 #[.int .i64 0, .int .i64 5, .int .i64 1, .int .i64 6]).below hb6 (Is.new wr 31 #[.int .i64 0, .int .i64 5, .int .i64 1, .int .i64 6]).lt
      have HI5 := Lib.hid hi5'
      have HBr := Lib.hid (HB3.out.trans (HKT.out.below hs3))
      have hB6 := HBr.out.trans (HB56.out.mono HBr.out.size)
      have HJ6 := Lib.hid (HJ.out.below hB6)
      have hs6 : w.heap.size ≤ wr.heap.size + 1 + 1 := by have := HBr.out.size; omega
      have HCL := Lib.hid (show cs.length = jl * 5 by rw [HR.out.1, HJL.out])
      clear hb5 hb6 hi5 hO6 hi5' hB6
      go_wp2_with (first
        | (at_builtin
           refine wpList_append_jobs rfl _ _ (by rfl) w.heap.size (wr.heap.size + 1) _ (by rfl) HO6.out JA jl jc cs (by rfl) HJ6.out hJn HCL.out HR.out.2.1 HJB.out (by rw [World.size_alloc, World.size_alloc]; exact hs6) ?_
           intro A7 cap7 w7 hO7 hg7
           have HO7 := Lib.hid hO7
           have HB7 := Lib.hid (HB56.out.grown hg7 (by rw [World.size_alloc, World.size_alloc]; omega) (fun k hk => by injection hk with hk; omega))
           have HI7 := Lib.hid ((hg7.block wr.heap.size (by rw [World.size_alloc, World.size_alloc]; omega) (by intro e; injection e with e; omega)).trans HI5.out)
           clear hO7 hg7))
      have hB7 := HBr.out.trans (HB7.out.mono HBr.out.size)
      have hs7 := hB7.size
      have hD7 : DiskAt w7 w.heap.size a d (newDk N) := (HD3.out.kt (Ts := [3]) (s := none) HKT.out (by simp) (by simp) (by simp) (by simp) (by simp) (fun b e => by cases e)).later HB7.out
      have hN7 := HNu.out.later HB7.out
      have hR7 := (HR.out.below hB7 (Nat.le_refl _)).cons (job0_cells w7 w.heap.size wr.heap.size HI7.out) rfl (by intro v hv; simp at hv; rcases hv with rfl | rfl | rfl | rfl <;> rfl)
      have hC7 := calm_new HMN.out hm1 hblk
      have HD7 := Lib.hid hD7
      have HN7 := Lib.hid hN7
      have HR7 := Lib.hid hR7
      have HC7 := Lib.hid hC7
      have HBw7 := Lib.hid hB7
      have HFT := Lib.hid hfit
      obtain ⟨js, hjs⟩ : ∃ js, job0 :: jobs = js := ⟨_, rfl⟩
      rw [hjs] at HR7
      have HJN := Lib.hid (show js.length = jl + 1 by rw [← hjs, List.length_cons, HJL.out])
      have HJK := Lib.hid (show ∀ j ∈ js, JobOk j by rw [← hjs]; intro j hj; rcases List.mem_cons.1 hj with rfl | hj; exact job0_ok; exact HJOK.out j hj)
      obtain ⟨fcs, hfcs⟩ : ∃ fcs, (#[.slice (some ⟨wr.heap.size, 0, none⟩) 2 2, .bool false, .int .i64 0, .slice none 0 0, .slice none 0 0] : Array Value).toList ++ cs = fcs := ⟨_, rfl⟩
      rw [hfcs] at HO7
      have HR7 := Lib.hid (show JobsRow w7 w.heap.size fcs js by rw [← hfcs]; exact HR7.out)
      obtain ⟨jn, hjn⟩ : ∃ jn, jl + 1 = jn := ⟨_, rfl⟩
      rw [hjn] at HJN HO7 ⊢
      have HJB2 := Lib.hid (show jn * 88 ≤ 140737488355328 by rw [← hjn]; exact HJB.out)
      obtain ⟨B, hB⟩ : ∃ B, w.heap.size = B := ⟨_, rfl⟩
      have HBB := Lib.hid hB
      rw [hB] at HD7 HN7 HO7 HR7 hs7
      clear hD7 hN7 hR7 hC7 hB7 hfit hjs hfcs hjn hB HI7 HB7 HO6 HI5 HBr HJ6 HJ HR HB56 HNu HD HD3 HN3 HB2 HB3 HKT HALL HJOK HJL HJB hblk hr hN hJn hs6 hsr hs2 hs3
      go_loopw [5, 7, 9] (fun v5 v7 u wr => ∃ (i a d gs ic : Nat) (D : Dk) (is : List Int), i ≤ jn ∧ i ≤ 30 ∧ u = .int .i64 i ∧ v5 = .pointer (some ⟨d, 0, none⟩) ∧ v7 = .slice (some ⟨gs, 0, none⟩) m ic ∧ DiskAt wr B a d D ∧ Calm N is D ∧ D.n ≤ 1000 * i ∧ Nums wr B (some ⟨gs, 0, none⟩) ic is ∧ is.length = m ∧ Fits is ∧ KT none B bigT w7 wr) (fun v5 v7 u _ => 30 - (intOf u).toNat)
      case atStart => exact ⟨0, a, d, gi, m, newDk N, l, Nat.zero_le _, Nat.zero_le _, rfl, rfl, rfl, HD7.out, HC7.out, Nat.zero_le _, HN7.out, HLL.out, HFT.out, KT.refl _ _ _ _⟩
      case round =>
        obtain ⟨i, a, d, gs, ic, D, is, hi, hi30, rfl, rfl, rfl, hD, hC, hDn, hNu, hil, hfit, hKT⟩ := hrel
        have HDr := Lib.hid hD
        have HCr := Lib.hid hC
        have HNr := Lib.hid hNu
        have HIL := Lib.hid hil
        have HFr := Lib.hid hfit
        have HKT := Lib.hid hKT
        have hBr : B ≤ wr.heap.size := Nat.le_trans hs7 hKT.size
        have hDn2 : D.n ≤ 30000 := by omega
        clear hD hC hNu hil hfit hKT
        by_cases hgo : i < jn ∧ i < 30
        · obtain ⟨hg1, hg2⟩ := hgo
          have hi0 : (i : Int) < (jn : Int) := by omega
          have hi1 : (i : Int) < 30 := by omega
          have hi2 : (0 : Int) ≤ (i : Int) := by omega
          have hij : i < js.length := by rw [HJN.out]; exact hg1
          have hRr := HR7.out.kt HKT.out hs7 (by simp [bigT])
          have hOr := HO7.out.kt HKT.out (by simp [bigT]) (fun g _ e => by cases e)
          obtain ⟨gj, rfl, _, _⟩ := hOr.form (by omega)
          obtain ⟨PA, pc, KA, kc, CA, cc, q1, q2, q3, q4, q5, q6, q7, q8⟩ := hRr.2.2 i hij
          have hln := hRr.1
          have cj0 := (hOr.cell (i * 5) (by omega)).trans q1
          have cj1 := (hOr.cell (i * 5 + 1) (by omega)).trans q2
          have cj2 := (hOr.cell (i * 5 + 2) (by omega)).trans q3
          have cj3 := (hOr.cell (i * 5 + 3) (by omega)).trans q4
          have cj4 := (hOr.cell (i * 5 + 4) (by omega)).trans q5
          have hjk := HJK.out _ (List.getElem_mem hij)
          obtain ⟨j, hj⟩ : ∃ j, js[i] = j := ⟨_, rfl⟩
          rw [hj] at cj0 cj1 cj2 cj3 cj4 hjk q6 q7 q8
          have HJK1 := Lib.hid hjk
          have HPB := Lib.hid q6
          have HFB := Lib.hid q7
          have HCB := Lib.hid q8
          obtain ⟨pl, hpl⟩ : ∃ pl, j.puts.length = pl := ⟨_, rfl⟩
          obtain ⟨kl, hkl⟩ : ∃ kl, j.keep.length = kl := ⟨_, rfl⟩
          obtain ⟨al, hal⟩ : ∃ al, j.again.length = al := ⟨_, rfl⟩
          rw [hpl] at cj0
          rw [hkl] at cj3
          rw [hal] at cj4
          have HPL := Lib.hid hpl
          have HKL := Lib.hid hkl
          have HAL := Lib.hid hal
          have hplm : pl ≤ 140737488355328 := by rw [← hpl]; exact hjk.pl
          have hb2 := below_new wr (.cells #[.slice PA pl pc, .bool j.lets, .int .i64 j.at_, .slice KA kl kc, .slice CA al cc] 38)
          have hI2 := Is.new wr 38 #[.slice PA pl pc, .bool j.lets, .int .i64 j.at_, .slice KA kl kc, .slice CA al cc]
          have HB2 := Lib.hid hb2
          have HI2 := Lib.hid hI2
          obtain ⟨W2, hW2⟩ : ∃ W2, wr.alloc (.cells #[.slice PA pl pc, .bool j.lets, .int .i64 j.at_, .slice KA kl kc, .slice CA al cc] 38) = W2 := ⟨_, rfl⟩
          have hW2s : W2.heap.size = wr.heap.size + 1 := by rw [← hW2, World.size_alloc]
          have HW2 := Lib.hid hW2
          clear hRr hOr q1 q2 q3 q4 q5 q6 q7 q8 hj hpl hkl hal hjk hb2 hI2 hW2 hij hln
          go_upto_region 18 with (first
            | (go_at_call 6
               rw [HW2.out]
               refine (begin_any a d N W2).mono ?_
               rintro e w3 ⟨⟨t, rfl, hT⟩, hb3⟩
               have HT3 := Lib.hid hT
               have HB3 := Lib.hid hb3
               clear hT hb3))
          obtain ⟨B1, hB1⟩ : ∃ B1, W2.heap.size = B1 := ⟨_, rfl⟩
          have hB1s : B1 = wr.heap.size + 1 := by rw [← hB1, hW2s]
          have hW2e : W2.heap.size = B1 := hB1
          rw [hB1] at HT3 HB3
          have HB2' := Lib.hid (show Below wr.heap.size wr W2 by rw [← HW2.out]; exact HB2.out)
          have HI2' := Lib.hid (show Is W2 wr.heap.size 38 #[.slice PA pl pc, .bool j.lets, .int .i64 j.at_, .slice KA kl kc, .slice CA al cc] by rw [← HW2.out]; exact HI2.out)
          obtain ⟨c3, hc3⟩ : ∃ c3, min pl 90 = c3 := ⟨_, rfl⟩
          have hc31 : c3 ≤ pl := by omega
          have hc32 : c3 ≤ 90 := by omega
          have hc33 : c3 = pl ∨ c3 = 90 := by omega
          have HC3 := Lib.hid (show j.puts.take c3 = j.puts.take 90 by
            rcases hc33 with h | h
            · rw [h, List.take_of_length_le (by have := HPL.out; omega), List.take_of_length_le (by have := HPL.out; omega)]
            · rw [h])
          clear hc3 HB2 HI2 HW2 hW2s hB1
          go_upto_block 4 with fail
          have hBX : ∀ wx, Below B1 W2 wx → Below wr.heap.size wr wx := fun wx h => HB2'.out.trans (h.mono (by omega))
          have HDX := Lib.hid (show ∀ wx, Below B1 W2 wx → DiskAt wx B a d D from fun wx h => HDr.out.later (hBX wx h))
          have HPX := Lib.hid (show ∀ wx, Below B1 W2 wx → PutsAt wx PA j.puts from fun wx h => HPB.out.at_.later (hBX wx h))
          have HNX := Lib.hid (show ∀ wx, Below B1 W2 wx → Nums wx B (some ⟨gs, 0, none⟩) ic is from fun wx h => HNr.out.later (hBX wx h))
          have HFX := Lib.hid (show ∀ wx, Below B1 W2 wx → FlagsAt wx B KA kc j.keep from fun wx h => HFB.out.below ((hBX wx h).mono hBr))
          have HCX := Lib.hid (show ∀ wx, Below B1 W2 wx → CutsAt wx B CA j.again from fun wx h => HCB.out.below ((hBX wx h).mono hBr))
          have HKX := Lib.hid (show ∀ wx, Below B1 W2 wx → KT none B bigT w7 wx from fun wx h => HKT.out.trans (KT.of_below (hBX wx h) (Nat.le_refl _)))
          obtain ⟨jb, hjbe⟩ : ∃ jb, wr.heap.size = jb := ⟨_, rfl⟩
          rw [hjbe] at HI2' hB1s hBr ⊢
          have HJBE := Lib.hid hjbe
          have HW2S := Lib.hid hW2e
          have HIX := Lib.hid (show ∀ wx, Below B1 W2 wx → Is wx jb 38 #[.slice PA pl pc, .bool j.lets, .int .i64 j.at_, .slice KA kl kc, .slice CA al cc] from fun wx h => HI2'.out.below h (by omega))
          have HDL := Lib.hid HCr.out.rest.1
          clear hBX hjbe hW2e HB2' HI2'
          go_cut [12] from 72 to 103 (fun s12 wx => TxnAt wx B1 a d t N c3 (putP m (j.puts.take 90)) ∧ Below B1 W2 wx)
          case first =>
            go_wp2_with fail
            go_loopw [12] (fun u12 wk => ∃ k : Nat, k ≤ c3 ∧ u12 = .int .i64 k ∧ TxnAt wk B1 a d t N k (putP m (j.puts.take k)) ∧ Below B1 W2 wk) (fun u12 _ => c3 - (intOf u12).toNat)
            case atStart => exact ⟨0, Nat.zero_le _, rfl, HT3.out, HB3.out⟩
            case round =>
              obtain ⟨k, hk, rfl, hTk, hbk⟩ := hrel
              have HTk := Lib.hid hTk
              have HBk := Lib.hid hbk
              have cq0 : wr.cell? ⟨jb, 0, none⟩ = some (.slice PA pl pc) := (HIX.out wr hbk).cell 0
              clear hTk hbk
              by_cases hlt : k < c3
              · have hk0 : (k : Int) < (pl : Int) := by omega
                have hk1 : (k : Int) < 90 := by omega
                have hk2 : (0 : Int) ≤ (k : Int) := by omega
                have hkp : k < j.puts.length := by rw [HPL.out]; omega
                obtain ⟨gp, off, rfl, cp1, cp2⟩ := (HPX.out wr HBk.out).at_ hkp
                have HPC := Lib.hid (show ∀ wx, Below B1 W2 wx → wx.cell? ⟨gp, off + k * 2, none⟩ = some (.int .i64 j.puts[k].1) ∧ wx.cell? ⟨gp, off + k * 2 + 1, none⟩ = some (.int .i64 j.puts[k].2) from fun wx h => by
                  obtain ⟨g2, o2, e, c1, c2⟩ := (HPX.out wx h).at_ hkp
                  injection e with e
                  injection e with e1 e2
                  subst e1
                  subst e2
                  exact ⟨c1, c2⟩)
                have hok := HJK1.out.puts _ (List.getElem_mem hkp)
                have hsn : putP m (j.puts.take (k + 1)) = fun q => if q = 98 + (j.puts[k].1 % (m : Int)).toNat then some (filledB (j.puts[k].2 % 1000).toNat) else putP m (j.puts.take k) q := by rw [take_snoc j.puts k hkp, putP_snoc]
                obtain ⟨x, hx⟩ : ∃ x, j.puts[k].1 = x := ⟨_, rfl⟩
                obtain ⟨y, hy⟩ : ∃ y, j.puts[k].2 = y := ⟨_, rfl⟩
                rw [hx] at cp1 hok hsn HPC
                rw [hy] at cp2 hok hsn HPC
                obtain ⟨jx, hjx⟩ : ∃ jx : Nat, x % (m : Int) = (jx : Int) := ⟨(x % (m : Int)).toNat, by have := Int.emod_nonneg x (show (m : Int) ≠ 0 by omega); omega⟩
                have hjm : jx < m := by have := Int.emod_lt_of_pos x (show (0 : Int) < (m : Int) by omega); omega
                obtain ⟨z, hz⟩ : ∃ z : Nat, y % 1000 = (z : Int) := ⟨(y % 1000).toNat, by omega⟩
                have hzm : z < 1000 := by omega
                rw [hjx, hz, Int.toNat_natCast, Int.toNat_natCast] at hsn
                have HJX := Lib.hid hjx
                have HZ := Lib.hid hz
                have HSN := Lib.hid hsn
                obtain ⟨⟨hx0, hx1⟩, hy0, hy1⟩ := hok
                have hjN : 98 + jx < N := by have := HMN.out; omega
                have h9k : k < 96 := by omega
                have hsB : B1 ≤ wr.heap.size := by have := HBk.out.size; have := HW2S.out; omega
                have hbB1 : B ≤ B1 := by omega
                have hmp : (0 : Int) < (m : Int) := by omega
                have hmq : (m : Int) ≤ 1000000 := by omega
                clear hx hy hjx hz hsn hkp
                have hsum : IntKind.i64.wrap (98 + (jx : Int)) = ((98 + jx : Nat) : Int) := by rw [IntWalk.i64_in _ (by omega)]; omega
                go_wp2_with fail
                go_region_held3 (fun w' => w'.cell? ⟨jb, 0, none⟩ = some (.slice (some ⟨gp, off, none⟩) pl pc) ∧ w'.cell? ⟨gp, off + k * 2, none⟩ = some (.int .i64 x) ∧ w'.cell? ⟨gp, off + k * 2 + 1, none⟩ = some (.int .i64 y))
                  (first | exact ⟨cq0, cp1, cp2⟩ | exact ⟨cr0, cr1, cr2⟩ | exact ⟨cs0, cs1, cs2⟩)
                  (first
                    | (go_at_call 4; with_reducible refine (mod_any x (m : Int) _ hmp hmq hx0 hx1).mono ?_; rw [HJX.out]; rintro e w5 ⟨rfl, rfl⟩)
                    | (go_at_call 4; with_reducible refine (mod_any y 1000 _ (by decide) (by decide) hy0 hy1).mono ?_; rw [HZ.out]; rintro e w5 ⟨rfl, rfl⟩)
                    | (go_at_call 8
                       refine (filled_any z hzm _).mono ?_
                       rintro e w4 ⟨⟨g4, rfl, hM4⟩, hb4⟩
                       have hb4' : Below wr.heap.size wr w4 := ⟨hb4.os, hb4.tape, hb4.output, hb4.size, hb4.block⟩
                       have cr0 := (hb4'.cell (p := ⟨jb, 0, none⟩) (block_lt_of_cell cq0)).trans cq0
                       have cr1 := (hb4'.cell (p := ⟨gp, off + k * 2, none⟩) (block_lt_of_cell cp1)).trans cp1
                       have cr2 := (hb4'.cell (p := ⟨gp, off + k * 2 + 1, none⟩) (block_lt_of_cell cp2)).trans cp2)
                    | (go_at_call 7
                       have hB4 : Below B1 W2 w4 := HBk.out.trans (hb4'.mono hsB)
                       refine (twrite_any B B1 a d t N k (putP m (j.puts.take k)) D (98 + jx) (some ⟨g4, 0, none⟩) 512 (filledB z) w4 (HTk.out.later hb4') (HDX.out w4 hB4) HDL.out (by omega) hjN (filledB_length z) (Buf.of_mine hM4 (by obtain ⟨_, _, cur, hi⟩ := (HDX.out w4 hB4).a_ne; exact ⟨cur, hi⟩)) (Nat.le_trans hsB hb4'.size) hbB1 h9k).mono ?_
                       rintro e w6 ⟨rfl, hT6, hb6⟩
                       have hB6 : Below B1 W2 w6 := hB4.trans hb6
                       have cs0 : w6.cell? ⟨jb, 0, none⟩ = some (.slice (some ⟨gp, off, none⟩) pl pc) := (HIX.out w6 hB6).cell 0
                       have cs1 := (HPC.out w6 hB6).1
                       have cs2 := (HPC.out w6 hB6).2))
                go_wp2_with fail
                go_roundw
                case rel => exact ⟨k + 1, by omega, by go_num, by rw [HSN.out]; exact hT6, hB6⟩
                case measure => simp [intOf]; omega
              · obtain rfl : c3 = k := by omega
                have hfin := HTk.out
                rw [HC3.out] at hfin
                have HF := Lib.hid hfin
                clear hfin
                by_cases hp : c3 < pl
                · have hp0 : (c3 : Int) < (pl : Int) := by omega
                  have h90 : ¬ (c3 : Int) < 90 := by omega
                  go_wp2_with fail
                  go_meet
                  exact ⟨HF.out, HBk.out⟩
                · have hp0 : ¬ (c3 : Int) < (pl : Int) := by omega
                  go_wp2_with fail
                  go_meet
                  exact ⟨HF.out, HBk.out⟩
          case rest =>
            obtain ⟨hTc, hBc⟩ := hcut
            have HTc := Lib.hid hTc
            have HBc := Lib.hid hBc
            have cq0 : wc.cell? ⟨jb, 0, none⟩ = some (.slice PA pl pc) := (HIX.out wc hBc).cell 0
            have hBc1 : B1 ≤ wc.heap.size := by have := hBc.size; have := HW2S.out; omega
            have HJP := Lib.hid (show PutsOk j.puts from HJK1.out.puts)
            obtain ⟨nx, hnx⟩ : ∃ nx, putS m is (j.puts.take 90) = nx := ⟨_, rfl⟩
            have HNXE := Lib.hid hnx
            have HNXL := Lib.hid (show nx.length = m by rw [← hnx, putS_length]; exact HIL.out)
            have HNXF := Lib.hid (show Fits nx by rw [← hnx]; exact putS_fits m _ _ HFr.out)
            have HSEE := Lib.hid (show ∀ k, k < m → seen (putP m (j.puts.take 90)) D (98 + k) = blk (nx.getD k 0) from fun k hk => by
              rw [← hnx, ← put_blk m (by omega) is HIL.out (j.puts.take 90) k hk]
              unfold seen
              rw [Dk.read_quiet HCr.out.pend, HCr.out.rest.2.2 (98 + k) (by omega) (by have := HMN.out; omega)]
              unfold oldf
              rw [show 98 + k - 98 = k by omega])
            have HDN := Lib.hid HCr.out.down
            clear hTc hBc hnx
            go_upto_block 6 with (first
              | (go_at_call 9
                 refine (put_any2 B (some ⟨gs, 0, none⟩) ic is m PA pc j.puts pl wc (HNX.out wc HBc.out) HIL.out (by omega) (by omega) (HPX.out wc HBc.out) HPL.out HJP.out hplm).mono ?_
                 rw [HNXE.out]
                 rintro e w4 ⟨⟨gn, cn, rfl, hNn⟩, hb4⟩
                 have HNn := Lib.hid hNn
                 have HB4 := Lib.hid hb4
                 have hs4 := hb4.size
                 clear hNn hb4))
            have HTX := Lib.hid (show ∀ wx, Below w4.heap.size w4 wx → TxnAt wx B1 a d t N c3 (putP m (j.puts.take 90)) from fun wx h => (HTc.out.later HB4.out).later h)
            have HNNX := Lib.hid (show ∀ wx, Below w4.heap.size w4 wx → Nums wx B (some ⟨gn, 0, none⟩) cn nx from fun wx h => (HNn.out.later h).base_le (by omega))
            have HBX := Lib.hid (show ∀ wx, Below w4.heap.size w4 wx → Below B1 W2 wx from fun wx h => HBc.out.trans ((HB4.out.mono hBc1).trans (h.mono (Nat.le_trans hBc1 hs4))))
            go_cut [14, 15, 16, 17] from 108 to 139 (fun s14 s15 s16 s17 wx => Below w4.heap.size w4 wx)
            case first =>
              go_wp2_with fail
              go_loopw [14, 15, 16, 17] (fun u14 u15 u16 u17 wk => ∃ k : Nat, k ≤ m ∧ u14 = .int .i64 k ∧ Below w4.heap.size w4 wk) (fun u14 u15 u16 u17 _ => m - (intOf u14).toNat)
              case atStart => exact ⟨0, Nat.zero_le _, rfl, Below.refl _ _⟩
              case round =>
                obtain ⟨k, hk, rfl, hbk⟩ := hrel
                have HBk := Lib.hid hbk
                clear hbk
                by_cases hlt : k < m
                · have hk0 : (k : Int) < (m : Int) := by omega
                  have hk1 : (0 : Int) ≤ (k : Int) := by omega
                  have hkl : k < nx.length := by rw [HNXL.out]; exact hlt
                  have ci : wr.cell? ⟨gn, k, none⟩ = some (.int .i64 nx[k]) := by
                    obtain ⟨g, hg, ci⟩ := nums_cell (HNNX.out wr HBk.out) hkl
                    injection hg with hg
                    injection hg with hg
                    rw [hg]; exact ci
                  have hfv := HNXF.out _ (List.getElem_mem hkl)
                  have hse := HSEE.out k hlt
                  rw [List.getD_eq_getElem?_getD, List.getElem?_eq_getElem hkl, Option.getD_some] at hse
                  obtain ⟨v, hv⟩ : ∃ v, nx[k] = v := ⟨_, rfl⟩
                  rw [hv] at ci hfv hse
                  have HSE := Lib.hid hse
                  have HE := Lib.hid (show (98 + (k : Int)) = ((98 + k : Nat) : Int) by omega)
                  have hkN : 98 + k < N := by have := HMN.out; omega
                  have hBB1 : B ≤ B1 := by omega
                  clear hse hv hkl
                  by_cases hpos : 0 ≤ v
                  · obtain ⟨f, hf⟩ : ∃ f : Nat, v = (f : Int) := ⟨v.toNat, by omega⟩
                    subst hf
                    have hf1 : f < 1000 := by omega
                    have HBK := Lib.hid (show blk (f : Int) = filledB f by unfold blk; rw [if_pos hpos]; rfl)
                    go_wp2_with (first
                      | (go_at_call 10
                         rw [HE.out]
                         refine (tread_any B B1 a d t N c3 (putP m (j.puts.take 90)) D (98 + k) _ (HTX.out _ HBk.out) (HDX.out _ (HBX.out _ HBk.out)) HDN.out HDL.out hkN).mono ?_
                         rw [HSE.out, HBK.out]
                         rintro e w5 ⟨⟨A5, c5, rfl, hy5⟩, hb5⟩
                         have HY5 := Lib.hid hy5
                         have HB5 := Lib.hid (HBk.out.trans (hb5.mono HBk.out.size))
                         have ci5 : w5.cell? ⟨gn, k, none⟩ = some (.int .i64 (f : Int)) := (hb5.cell (p := ⟨gn, k, none⟩) (block_lt_of_cell ci)).trans ci
                         clear hb5 hy5)
                      | (refine wpList_make_u8 rfl _ _ rfl w5.heap.size 512 rfl rfl (by decide) (Nat.le_refl _) ?_
                         intro w6 hm6 hg6
                         have hb6 := grown_below_none (Nat.le_refl w5.heap.size) hg6
                         have HY6 := Lib.hid (HY5.out.later hb6)
                         have HB6 := Lib.hid (HB5.out.trans (hb6.mono HB5.out.size))
                         have ci6 : w6.cell? ⟨gn, k, none⟩ = some (.int .i64 (f : Int)) := (hb6.cell (p := ⟨gn, k, none⟩) (block_lt_of_cell ci5)).trans ci5
                         clear hm6 hg6 hb6)
                      | (go_at_call 8
                         refine (filled_any f hf1 w6).mono ?_
                         rintro e w7 ⟨⟨g7, rfl, hM7⟩, hb7⟩
                         have HM7 := Lib.hid hM7
                         have HY7 := Lib.hid (HY6.out.later hb7)
                         have HB7 := Lib.hid (HB6.out.trans (hb7.mono HB6.out.size))
                         clear hM7 hb7)
                      | (go_at_call 11
                         refine (same_any _ _ _ 512 (filledB f) (filledB f) w7 HY7.out HM7.out.bytes (filledB_length f) (filledB_length f)).mono ?_
                         rw [show decide (filledB f = filledB f) = true from decide_eq_true rfl]
                         rintro e w8 ⟨rfl, rfl⟩))
                    go_roundw
                    case rel => exact ⟨k + 1, by omega, by go_num, HB7.out⟩
                    case measure => simp [intOf]; omega
                  · have HBK := Lib.hid (show blk v = Tx.zero by unfold blk; rw [if_neg hpos])
                    have hneg : v < 0 := by omega
                    clear hpos
                    go_wp2_with (first
                      | (go_at_call 10
                         rw [HE.out]
                         refine (tread_any B B1 a d t N c3 (putP m (j.puts.take 90)) D (98 + k) _ (HTX.out _ HBk.out) (HDX.out _ (HBX.out _ HBk.out)) HDN.out HDL.out hkN).mono ?_
                         rw [HSE.out, HBK.out]
                         rintro e w5 ⟨⟨A5, c5, rfl, hy5⟩, hb5⟩
                         have HY5 := Lib.hid hy5
                         have HB5 := Lib.hid (HBk.out.trans (hb5.mono HBk.out.size))
                         have ci5 : w5.cell? ⟨gn, k, none⟩ = some (.int .i64 v) := (hb5.cell (p := ⟨gn, k, none⟩) (block_lt_of_cell ci)).trans ci
                         clear hb5 hy5)
                      | (refine wpList_make_u8 rfl _ _ rfl w5.heap.size 512 rfl rfl (by decide) (Nat.le_refl _) ?_
                         intro w6 hm6 hg6
                         have hb6 := grown_below_none (Nat.le_refl w5.heap.size) hg6
                         have HM6 := Lib.hid hm6
                         have HY6 := Lib.hid (HY5.out.later hb6)
                         have HB6 := Lib.hid (HB5.out.trans (hb6.mono HB5.out.size))
                         have ci6 : w6.cell? ⟨gn, k, none⟩ = some (.int .i64 v) := (hb6.cell (p := ⟨gn, k, none⟩) (block_lt_of_cell ci5)).trans ci5
                         clear hm6 hg6 hb6)
                      | (go_at_call 11
                         refine (same_any _ _ _ 512 Tx.zero Tx.zero w6 HY6.out (Mine.bytes HM6.out) zero_len zero_len).mono ?_
                         rw [show decide (Tx.zero = Tx.zero) = true from decide_eq_true rfl]
                         rintro e w8 ⟨rfl, rfl⟩))
                    go_roundw
                    case rel => exact ⟨k + 1, by omega, by go_num, HB6.out⟩
                    case measure => simp [intOf]; omega
                · obtain rfl : m = k := by omega
                  go_wp2_with fail
                  go_meet
                  exact HBk.out
            case rest =>
              have hB9 := HBX.out wc hcut
              have hK9 := HKX.out wc hB9
              have hB1c : B1 ≤ wc.heap.size := by have := hB9.size; have := HW2S.out; omega
              have hBB1 : B ≤ B1 := by omega
              have hBc0 : B ≤ wc.heap.size := by omega
              have HWX := Lib.hid (show ∀ wx, KT none B bigT wc wx → WidthsAt wx ∧ HalfAt wx from fun wx h => by
                have hb : Below w.heap.size w wx := by
                  have := (hK9.trans h).below hs7
                  rw [← HBB.out] at this
                  exact HBw7.out.trans this
                exact ⟨HW.out.below hb HW.out.lt, HH.out.below hb HH.out.lt⟩)
              have HIZ := Lib.hid (show ∀ wx, KT none B bigT wc wx → Nums wx B (some ⟨gs, 0, none⟩) ic is from fun wx h => (HNX.out wc hB9).kt h (by simp [bigT]))
              have HNZ := Lib.hid (show ∀ wx, KT none B bigT wc wx → Nums wx B (some ⟨gn, 0, none⟩) cn nx from fun wx h => (HNNX.out wc hcut).kt h (by simp [bigT]))
              have HJZ := Lib.hid (show ∀ wx, KT none B bigT wc wx → Is wx jb 38 #[.slice PA pl pc, .bool j.lets, .int .i64 j.at_, .slice KA kl kc, .slice CA al cc] from fun wx h => (HIX.out wc hB9).kt0 h (by simp [bigT]))
              have HCZ := Lib.hid (show ∀ wx, KT none B bigT wc wx → CutsAt wx B CA j.again from fun wx h => (HCX.out wc hB9).below (h.below hBc0))
              have HKZ := Lib.hid (show ∀ wx, KT none B bigT wc wx → KT none B bigT w7 wx from fun wx h => hK9.trans h)
              have HF9 := Lib.hid (HFX.out wc hB9)
              have HD9 := Lib.hid (HDX.out wc hB9)
              have HT9 := Lib.hid (HTX.out wc hcut)
              have HI9 := Lib.hid (HIX.out wc hB9)
              have HHI := Lib.hid (rest_holds HIL.out HMN.out HCr.out.pend HCr.out.rest)
              have hN9 : 98 + m ≤ N := by have := HMN.out; omega
              obtain ⟨lv, hlv⟩ : ∃ lv, j.lets = lv := ⟨_, rfl⟩
              have cq1 : wc.cell? ⟨jb, 1, none⟩ = some (.bool lv) := by rw [← hlv]; exact HI9.out.cell 1
              have cq2 : wc.cell? ⟨jb, 2, none⟩ = some (.int .i64 j.at_) := HI9.out.cell 2
              have cq3 : wc.cell? ⟨jb, 3, none⟩ = some (.slice KA kl kc) := HI9.out.cell 3
              clear hlv hcut hB9 hK9 HTX HNNX HBX HIX HKX HCX HFX HNX HPX HDX
              cases lv
              case true =>
                go_wp2_with (first
                  | (go_at_call 12
                     refine (abort_any B1 a d t N c3 (putP m (j.puts.take 90)) wc HT9.out).mono ?_
                     rintro e w5 ⟨rfl, hI5, hk5⟩
                     have hIt : ∃ cs, Is wc t 64 cs := by obtain ⟨_, b, _, U, un, uc, ucs, _, hI, _⟩ := HT9.out; exact ⟨_, hI⟩
                     have HI5 := Lib.hid hI5
                     have HK5 := Lib.hid (show KT none B bigT wc w5 from by obtain ⟨_, h⟩ := hIt; exact (KT.to_type (s := none) hk5 h hBB1).mono (fun u hu => big_of (by simp at hu; simp [hu])))
                     have HD5 := Lib.hid (show DiskAt w5 B a d D from by obtain ⟨_, h⟩ := hIt; exact HD9.out.ktE h hk5 hBB1)
                     clear hI5 hk5 hIt)
                  | (go_at_call 13
                     refine (over_any t true w5 (HI5.out.cell 3)).mono ?_
                     rintro e w6 ⟨rfl, rfl⟩)
                  | (go_at_call 14
                     refine (holds_yes B a d B D (some ⟨gs, 0, none⟩) ic is m w5 HD5.out HDN.out (HIZ.out w5 HK5.out) HIL.out (by rw [HDL.out]; exact hN9) HFr.out HHI.out).mono ?_
                     rintro e w8 ⟨rfl, hb8⟩
                     have HB8 := Lib.hid hb8
                     clear hb8))
                go_roundw
                case rel => exact ⟨i + 1, a, d, gs, ic, D, is, by omega, by omega, by go_num, rfl, rfl, HD5.out.later HB8.out, HCr.out, by omega, (HIZ.out w5 HK5.out).later HB8.out, HIL.out, HFr.out, (HKZ.out w5 HK5.out).trans (KT.of_below HB8.out (Nat.le_refl _))⟩
                case measure => simp [intOf]; omega
              case false =>
                go_upto_region 37 with fail
                go_cut [161] from 153 to 160 (fun s161 wx => s161 = .bool false ∧ ∃ Da : Dk, DiskAt wx B a d Da ∧ Da.down = false ∧ Da.pend = [] ∧ Da.lasts = D.lasts ∧ Da.n = D.n ∧ (Da.left ≠ 0 → 0 < i) ∧ TxnAt wx B1 a d t N c3 (putP m (j.puts.take 90)) ∧ KT none B bigT wc wx)
                case first =>
                  by_cases h0 : 0 < i
                  · have hi00 : (0 : Int) < (i : Int) := by omega
                    have hat := HJK1.out.at_
                    have hkl5 := HJK1.out.kl
                    have HARM := Lib.hid (darm_any B a d D j.at_ KA kc j.keep wc HD9.out HDN.out hBc0 HF9.out.arm hkl5 hat)
                    rw [HKL.out] at HARM
                    clear hat hkl5
                    go_wp2_with (go_at_call 15
                                 refine HARM.out.mono ?_
                                 rintro e w5 ⟨rfl, hD5, hk5⟩
                                 have HD5 := Lib.hid hD5
                                 have HK5 := Lib.hid hk5
                                 clear hD5 hk5)
                    go_meet
                    obtain ⟨_, _, cur, hia⟩ := HD9.out.a_ne
                    exact ⟨rfl, D.arm j.at_ j.keep, HD5.out, HDN.out, HCr.out.pend, rfl, rfl, fun _ => h0, HT9.out.kt HK5.out (.inr ⟨rfl, cur, hia⟩) (by simp [diskT]) (by simp [diskT]) (by simp [diskT]) (by simp [diskT]), (KT.to_type (s := none) HK5.out hia (Nat.le_refl _)).mono (fun u hu => big_of (by rcases List.mem_cons.1 hu with h | h; exact List.mem_cons.2 (.inl h); exact List.mem_cons_of_mem _ (List.mem_cons_of_mem _ h)))⟩
                  · have hi00 : ¬ (0 : Int) < (i : Int) := by omega
                    go_wp2_with fail
                    go_meet
                    exact ⟨rfl, D, HD9.out, HDN.out, HCr.out.pend, rfl, rfl, fun h => absurd HCr.out.left h, HT9.out, KT.refl _ _ _ _⟩
                case rest =>
                  obtain ⟨rfl, Da, hDa, hd1, hd2, hd3, hd4, hd5, hTa, hKa⟩ := hcut
                  have HDa := Lib.hid hDa
                  have HTa := Lib.hid hTa
                  have HKa := Lib.hid hKa
                  have HDa1 := Lib.hid hd1
                  have HDa2 := Lib.hid hd2
                  have HDa3 := Lib.hid hd3
                  have HDa5 := Lib.hid hd5
                  have hn5 : Da.n ≤ 500000 := by omega
                  have HWa := Lib.hid (HWX.out wc hKa)
                  have hB1a : B1 ≤ wc.heap.size := by have := hKa.size; omega
                  clear hDa hd1 hd2 hd3 hd5 hTa hKa cq1 cq2 cq3
                  go_upto_region 40 with (go_at_call 16
                                          refine (tcommit_any B B1 a d t N c3 (putP m (j.puts.take 90)) Da wc HTa.out HDa.out HDa1.out (by rw [HDa3.out]; exact HDL.out) (by omega) hB1a hBB1 (by omega) HWa.out.1 HWa.out.2 hn5).mono ?_
                                          rintro e w5 ⟨ws, hP5, rfl, hD5, hk5⟩
                                          have HP5 := Lib.hid hP5
                                          have HD5 := Lib.hid hD5
                                          have HK5 := Lib.hid hk5
                                          clear hP5 hD5 hk5)
                  have hCE := commit_ends (is := is) (ps := j.puts.take 90) (by omega) HIL.out HMN.out HP5.out HDa1.out HDa2.out (by rw [HDa3.out]; exact HCr.out.rest)
                  rw [HNXE.out] at hCE
                  obtain ⟨Dc, hDc⟩ : ∃ Dc, (Da.does (csteps ws)).1 = Dc := ⟨_, rfl⟩
                  obtain ⟨ec, hec⟩ : ∃ ec, (Da.does (csteps ws)).2 = ec := ⟨_, rfl⟩
                  rw [hDc] at HD5
                  rw [hDc, hec] at hCE
                  rw [hec]
                  have HKc := Lib.hid (show KT none B bigT w7 w5 ∧ KT none B bigT _ w5 from by
                    obtain ⟨_, _, cur, hia⟩ := HDa.out.a_ne
                    have hk := HKa.out.trans ((KT.to_type (s := none) HK5.out hia (Nat.le_refl _)).mono (fun u hu => big_of hu))
                    exact ⟨HKZ.out w5 hk, hk⟩)
                  have hs5 : B ≤ w5.heap.size := by have := HKc.out.2.size; omega
                  obtain ⟨hcn, hcp, hcl, hor⟩ := hCE
                  have HCP := Lib.hid hcp
                  have HCL5 := Lib.hid hcl
                  clear hcp hcl hDc hec
                  rcases hor with ⟨e0, hdn, hrest, hleft⟩ | ⟨e0, hdn, hw1, hmid, hleft⟩
                  ·
                    subst e0
                    have HDD := Lib.hid hdn
                    have HRE := Lib.hid hrest
                    have HHN := Lib.hid (show Holds nx (Dc.arm 0 []) from rest_holds HNXL.out HMN.out HCP.out hrest)
                    have HPL0 := Lib.hid (show (Dc.arm 0 []).pend.length = 0 by show Dc.pend.length = 0; rw [HCP.out]; rfl)
                    clear hdn hrest hleft
                    go_wp2_with (first
                      | (go_at_call 17
                         refine (down_any B a d Dc w5 HD5.out).mono ?_
                         rw [HDD.out]
                         rintro e w6 ⟨rfl, rfl⟩)
                      | (go_at_call 15
                         refine (darm_any B a d Dc 0 none 0 [] w5 HD5.out HDD.out hs5 (.inl ⟨rfl, rfl, rfl⟩) (by decide) (by decide)).mono ?_
                         rintro e w6 ⟨rfl, hD6, hk6⟩
                         have HD6 := Lib.hid hD6
                         have HK6 := Lib.hid (show KT none B bigT w5 w6 from by
                           obtain ⟨_, _, cur, hia⟩ := HD5.out.a_ne
                           exact (KT.to_type (s := none) hk6 hia (Nat.le_refl _)).mono (fun u hu => big_of (by rcases List.mem_cons.1 hu with h | h; exact List.mem_cons.2 (.inl h); exact List.mem_cons_of_mem _ (List.mem_cons_of_mem _ h))))
                         have HN6 := Lib.hid (HNZ.out w6 (HKc.out.2.trans HK6.out))
                         clear hD6 hk6)
                      | (go_at_call 14
                         refine (holds_yes B a d B (Dc.arm 0 []) (some ⟨gn, 0, none⟩) cn nx m w6 HD6.out HDD.out HN6.out HNXL.out (by rw [show (Dc.arm 0 []).lasts.length = N from HCL5.out]; exact hN9) HNXF.out HHN.out).mono ?_
                         rintro e w8 ⟨rfl, hb8⟩
                         have HB8 := Lib.hid hb8
                         clear hb8)
                      | (go_at_call 18
                         refine (dpending_any B a d (Dc.arm 0 []) w8 (HD6.out.later HB8.out) (by rw [HPL0.out]; decide)).mono ?_
                         rw [HPL0.out]
                         rintro e w9 ⟨⟨A9, c9, rfl⟩, hb9⟩
                         have HB9 := Lib.hid (HB8.out.trans (hb9.mono HB8.out.size))
                         clear hb9))
                    go_roundw
                    case rel => exact ⟨i + 1, a, d, gn, cn, Dc.arm 0 [], nx, by omega, by omega, by go_num, rfl, rfl, HD6.out.later HB9.out, ⟨HDD.out, HCP.out, rfl, HRE.out⟩, by show Dc.n ≤ _; omega, HN6.out.later HB9.out, HNXL.out, HNXF.out, (HKc.out.1.trans HK6.out).trans (KT.of_below HB9.out (Nat.le_refl _))⟩
                    case measure => simp [intOf]; omega
                  ·
                    subst e0
                    have h0i : 0 < i := HDa5.out hleft
                    have hi00 : ¬ (i : Int) = 0 := by omega
                    have HDD := Lib.hid hdn
                    have HMI := Lib.hid hmid
                    have HMA := Lib.hid (job_made (is := is) HP5.out (by omega) hw1)
                    have HC5 := Lib.hid (HCZ.out w5 HKc.out.2)
                    have HJ5 := Lib.hid (HJZ.out w5 HKc.out.2)
                    have cr4 : w5.cell? ⟨jb, 4, none⟩ = some (.slice CA al cc) := HJ5.out.cell 4
                    have hal5 : al ≤ 140737488355328 := by rw [← HAL.out]; exact HJK1.out.al
                    have HOA := Lib.hid (show ∀ c ∈ j.again, CutOk c from HJK1.out.again)
                    have HW5 := Lib.hid (HWX.out w5 HKc.out.2)
                    have HNEW := Lib.hid (show ∀ q, 98 ≤ q → q < N → (jobTx N is ws).new q = oldf nx q from fun q h1 h2 => by rw [← HNXE.out]; exact job_new (by omega) HIL.out HMN.out HP5.out q h1 h2)
                    clear hdn hmid hleft hw1
                    go_upto_region 50 with (first
                      | (go_at_call 17
                         refine (down_any B a d Dc w5 HD5.out).mono ?_
                         rw [HDD.out]
                         rintro e w6 ⟨rfl, rfl⟩)
                      | (go_at_call 19
                         refine (mended_any B a d B Dc (jobTx N is ws) CA cc j.again al w5 HD5.out HMA.out HMI.out HC5.out HAL.out hal5 HOA.out HW5.out.1 HW5.out.2 hs5).mono ?_
                         rintro e w6 ⟨⟨a2, d2, D2, rfl, hD6, hd6, hp6, hl6, hk6, hn6, hr6⟩, hb6⟩
                         have HD6 := Lib.hid (hD6.base_le hk6 hs5)
                         have HD61 := Lib.hid hd6
                         have HD62 := Lib.hid hp6
                         have HD63 := Lib.hid hl6
                         have HR6 := Lib.hid hr6
                         have HB6 := Lib.hid hb6
                         clear hD6 hd6 hp6 hl6 hk6 hr6 hb6))
                    have hK6 : KT none B bigT w5 w6 := KT.of_below HB6.out (Nat.le_refl _)
                    have HK6 := Lib.hid hK6
                    have HN6 := Lib.hid (HNZ.out w6 (HKc.out.2.trans hK6))
                    have HI6 := Lib.hid (HIZ.out w6 (HKc.out.2.trans hK6))
                    have hlen6 : D2.lasts.length = N ∧ D2.lasts.getD 1 [] = Tx.zero := by
                      rcases HR6.out with q | q
                      · exact ⟨q.1, q.2.1⟩
                      · exact ⟨q.1, q.2.1⟩
                    have HL6 := Lib.hid hlen6
                    clear hK6 hlen6
                    by_cases hh : Holds nx D2
                    · have HHN := Lib.hid hh
                      clear hh
                      go_wp2_with (go_at_call 14
                                   refine (holds_yes B a2 d2 B D2 (some ⟨gn, 0, none⟩) cn nx m w6 HD6.out HD61.out HN6.out HNXL.out (by rw [HL6.out.1]; exact hN9) HNXF.out HHN.out).mono ?_
                                   rintro e w8 ⟨rfl, hb8⟩
                                   have HB8 := Lib.hid hb8
                                   clear hb8)
                      go_roundw
                      case rel => exact ⟨i + 1, a2, d2, gn, cn, D2, nx, by omega, by omega, by go_num, rfl, rfl, HD6.out.later HB8.out, ⟨HD61.out, HD62.out, HD63.out, holds_rest HNXL.out HMN.out HD62.out HL6.out.1 HL6.out.2 HHN.out⟩, by omega, HN6.out.later HB8.out, HNXL.out, HNXF.out, (HKc.out.1.trans HK6.out).trans (KT.of_below HB8.out (Nat.le_refl _))⟩
                      case measure => simp [intOf]; omega
                    · have hri : Tx.Rest N (oldf is) D2.lasts := by
                        rcases HR6.out with q | q
                        · exact q
                        · exact absurd (rest_holds HNXL.out HMN.out HD62.out (rest_congr q HNEW.out)) hh
                      have HRI := Lib.hid hri
                      have HHI6 := Lib.hid (rest_holds HIL.out HMN.out HD62.out hri)
                      have HHN := Lib.hid hh
                      clear hh hri
                      go_wp2_with (first
                        | (go_at_call 14
                           with_reducible refine (holds_not B a2 d2 B D2 (some ⟨gn, 0, none⟩) cn nx m w6 HD6.out HD61.out HN6.out HNXL.out (by rw [HL6.out.1]; exact hN9) HNXF.out HHN.out).mono ?_
                           rintro e w8 ⟨rfl, hb8⟩
                           have HB8 := Lib.hid hb8
                           clear hb8)
                        | (go_at_call 14
                           with_reducible refine (holds_yes B a2 d2 B D2 (some ⟨gs, 0, none⟩) ic is m w8 (HD6.out.later HB8.out) HD61.out (HI6.out.later HB8.out) HIL.out (by rw [HL6.out.1]; exact hN9) HFr.out HHI6.out).mono ?_
                           rintro e w9 ⟨rfl, hb9⟩
                           have HB9 := Lib.hid (HB8.out.trans (hb9.mono HB8.out.size))
                           clear hb9))
                      go_roundw
                      case rel => exact ⟨i + 1, a2, d2, gs, ic, D2, is, by omega, by omega, by go_num, rfl, rfl, HD6.out.later HB9.out, ⟨HD61.out, HD62.out, HD63.out, HRI.out⟩, by omega, HI6.out.later HB9.out, HIL.out, HFr.out, (HKc.out.1.trans HK6.out).trans (KT.of_below HB9.out (Nat.le_refl _))⟩
                      case measure => simp [intOf]; omega
        ·
          by_cases hj0 : i < jn
          · have hi0 : (i : Int) < (jn : Int) := by omega
            have hi1 : ¬ (i : Int) < 30 := by omega
            go_wp2_with fail
            go_ret
            refine ⟨rfl, ?_⟩
            have := HKT.out.below hs7
            rw [← HBB.out] at this
            exact HBw7.out.trans this
          · have hi0 : ¬ (i : Int) < (jn : Int) := by omega
            go_wp2_with fail
            go_ret
            refine ⟨rfl, ?_⟩
            have := HKT.out.below hs7
            rw [← HBB.out] at this
            exact HBw7.out.trans this
end Go.Proofs.YtimddchgmocdaaaDoor
