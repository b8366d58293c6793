/-
  THE ARGUMENT OF WholeCommits, OPENED: rows of jobs, their puts, flags and power cuts.
-/
import Derived.Test.YtimddchgmocdaaaDoorWk
import Derived.Test.YtimddchgmocdaaaDoorArgs
import Derived.Deep.Fields
set_option linter.unusedVariables false
set_option linter.unusedSimpArgs false
set_option maxRecDepth 100000
namespace Go.Proofs.YtimddchgmocdaaaDoor
open Go.ChangeShapes Go.WideShapes Go.ChangeAt Go.RowKit

theorem waInt : Tryd.prog.cellsOf 3 = 1 := by kernel_rfl
theorem waBool : Tryd.prog.cellsOf 4 = 1 := by kernel_rfl
theorem waBoolB : Tryd.prog.bytesOf 4 = 1 := by kernel_rfl
theorem waFlags : Tryd.prog.cellsOf 33 = 1 := by kernel_rfl
theorem waPut : Tryd.prog.cellsOf 31 = 2 := by kernel_rfl
theorem waPutB : Tryd.prog.bytesOf 31 = 16 := by kernel_rfl
theorem waCut : Tryd.prog.cellsOf 35 = 2 := by kernel_rfl
theorem waCutB : Tryd.prog.bytesOf 35 = 32 := by kernel_rfl
theorem waCuts : Tryd.prog.cellsOf 36 = 1 := by kernel_rfl
theorem waPuts : Tryd.prog.cellsOf 32 = 1 := by kernel_rfl
theorem waJob : Tryd.prog.cellsOf 38 = 5 := by kernel_rfl
theorem waJobB : Tryd.prog.bytesOf 38 = 88 := by kernel_rfl

section
variable {H : Type} {enc : TypeId × Value → H} {W : World}
noncomputable abbrev TR (enc : TypeId × Value → H) (W : World) (fuel : Nat) (t : TypeId) (cs : List Value) := DataW.trod enc Tryd.prog W 0 (fun _ => true) true fuel t cs

/-- flags that came in, as they lie in a cell -/
theorem open_flags {fuel : Nat} {cs : List Value} {x : DataW H × List MemPlace} (hf : TR enc W fuel 33 cs = some x) (hr : ∀ n ∈ x.1.weights Tryd.prog 33, n ≤ 140737488351232) :
    ∃ K kc l, cs = [.slice K l.length kc] ∧ FlagsAt W W.heap.size K kc l ∧ l.length ≤ 140737488351232 := by
  rcases Go.Deep.open_slice Tryd.underlying33 hf with ⟨rfl, hx⟩ | ⟨a, len, cap, m, n, D, Pl, rfl, _, hl, hmax, hm, hx, hi⟩
  · exact ⟨none, 0, [], rfl, .inl ⟨rfl, rfl, rfl⟩, Nat.zero_le _⟩
  · simp only [if_true] at hm
    subst hm hx
    have hw := hr (((List.range len).map D).length + ((List.range (m - len)).map fun j => D (len + j)).length |>.mul 1) (by simp [DataW.weights, Tryd.underlying33, waBoolB])
    have key : ∀ i, ∃ b : Bool, i < len → W.cell? (a.add i) = some (.bool b) := fun i => by
      by_cases h : i < len
      · obtain ⟨cs', hc, ht⟩ := hi i (by omega)
        rw [waBool, Nat.mul_one] at hc
        obtain ⟨_, hcl, hat⟩ := World.cells?_some hc
        obtain ⟨b, rfl, _⟩ := DataW.trod_bool Tryd.underlying4 ht
        have h0 := hat 0 (by decide)
        exact ⟨b, fun _ => by simpa [Addr.add] using h0⟩
      · exact ⟨false, fun h' => absurd h' h⟩
    obtain ⟨f, hf'⟩ := Classical.axiomOfChoice key
    have hlen : ((List.range len).map f).length = len := by simp
    refine ⟨some a, m, (List.range len).map f, by rw [hlen], .inr ⟨a, rfl, ?_, fun k hk => ?_⟩, by rw [hlen]; simp at hw; omega⟩
    · by_cases h0 : len = 0
      · subst h0; exact .inl rfl
      · refine .inr ?_
        have hc0 := hf' 0 (by omega)
        have hc0 : W.cell? a = some _ := hc0
        exact block_lt_of_cell hc0
    · rw [hlen] at hk
      rw [hf' k hk]
      simp

/-- a power cut that came in -/
theorem open_cut {fuel : Nat} {cs : List Value} {x : DataW H × List MemPlace} (hf : TR enc W fuel 35 cs = some x) (hr : ∀ n ∈ x.1.weights Tryd.prog 35, n ≤ 140737488351232) :
    ∃ z K kc l, cs = [.int .i64 z, .slice K l.length kc] ∧ z ≤ 9223372036854775807 ∧ FlagsAt W W.heap.size K kc l ∧ l.length ≤ 140737488351232 := by
  obtain ⟨xs, n, _, rfl, hlen, hxl, hg⟩ := DataW.trod_struct Tryd.underlying35 hf
  rw [waCut] at hlen
  match cs, hlen, xs, hxl with
  | [c0, c1], _, [y0, y1], _ =>
    have g0 : TR enc W n 3 [c0] = some y0 := by
      have := hg 0 _ rfl
      simp [waInt] at this
      exact this
    have g1 : TR enc W n 33 [c1] = some y1 := by
      have := hg 1 _ rfl
      simp [waFlags] at this
      exact this
    clear hg
    obtain ⟨z0, e0, _, w0⟩ := DataW.trod_int Tryd.underlying3 g0
    obtain ⟨K, kc, l, e1, hF, hl⟩ := open_flags g1 (fun m hm => hr m (by
      simp only [DataW.weights, Tryd.underlying35, List.map_cons, List.map_nil, DataW.weightsEach, List.mem_append]
      exact .inr (.inl hm)))
    injection e0 with e0
    injection e1 with e1
    subst e0 e1
    exact ⟨z0, K, kc, l, rfl, (bounds_i64 w0).2, hF, hl⟩

/-- power cuts that came in -/
theorem open_cuts {fuel : Nat} {cs : List Value} {x : DataW H × List MemPlace} (hf : TR enc W fuel 36 cs = some x) (hr : ∀ n ∈ x.1.weights Tryd.prog 36, n ≤ 140737488351232) :
    ∃ A ac l, cs = [.slice A l.length ac] ∧ CutsAt W W.heap.size A l ∧ l.length ≤ 140737488355328 ∧ ∀ c ∈ l, CutOk c := by
  rcases Go.Deep.open_slice Tryd.underlying36 hf with ⟨rfl, hx⟩ | ⟨a, len, cap, m, n, D, Pl, rfl, _, hl, hmax, hm, hx, hi⟩
  · exact ⟨none, 0, [], rfl, .inl rfl, Nat.zero_le _, fun c hc => by cases hc⟩
  · simp only [if_true] at hm
    subst hm hx
    have hw := hr (((List.range len).map D).length + ((List.range (m - len)).map fun j => D (len + j)).length |>.mul 32) (by simp [DataW.weights, Tryd.underlying36, waCutB])
    have key : ∀ i, ∃ c : Int × List Bool, i < len → (W.cell? (a.add (i * 2)) = some (.int .i64 c.1) ∧ ∃ K kc, W.cell? (a.add (i * 2 + 1)) = some (.slice K c.2.length kc) ∧ FlagsAt W W.heap.size K kc c.2) ∧ CutOk c := fun i => by
      by_cases h : i < len
      · obtain ⟨cs', hc, ht⟩ := hi i (by omega)
        rw [waCut] at hc
        obtain ⟨_, hcl, hat⟩ := World.cells?_some hc
        have hmem : D i ∈ (List.range len).map D := List.mem_map.2 ⟨i, by simpa using h, rfl⟩
        obtain ⟨z, K, kc, l, rfl, hz, hF, hl2⟩ := open_cut ht (fun n hn => hr n (by
          simp only [DataW.weights, Tryd.underlying36, List.mem_cons, List.mem_append]
          exact .inr (.inl (weights_all hmem n hn))))
        have h0 := hat 0 (by decide)
        have h1 := hat 1 (by decide)
        exact ⟨(z, l), fun _ => ⟨⟨by simpa [Addr.add] using h0, K, kc, by rw [← Go.Deep.add_add]; simpa using h1, hF⟩, hz, by show l.length ≤ _; omega⟩⟩
      · exact ⟨(0, []), fun h' => absurd h' h⟩
    obtain ⟨f, hf'⟩ := Classical.axiomOfChoice key
    have hlen : ((List.range len).map f).length = len := by simp
    refine ⟨some a, m, (List.range len).map f, by rw [hlen], ?_, by rw [hlen]; simp at hw; omega, fun c hc => ?_⟩
    · by_cases h0 : len = 0
      · subst h0; exact .inl rfl
      · have hc0 := (hf' 0 (by omega)).1.1
        have hc0 : W.cell? a = some _ := hc0
        have ha := addr_of_cell hc0
        have hlt : a.block < W.heap.size := block_lt_of_cell hc0
        refine .inr ⟨a.block, a.off, by rw [← ha], hlt, fun k hk => ?_⟩
        rw [hlen] at hk
        obtain ⟨q1, K, kc, q2, q3⟩ := (hf' k hk).1
        have e : ((List.range len).map f)[k]'(by rw [hlen]; exact hk) = f k := by simp
        rw [e]
        exact ⟨by rw [← add_of_cell hc0 (k * 2)]; exact q1, K, kc, by rw [Nat.add_assoc, ← add_of_cell hc0 (k * 2 + 1)]; exact q2, q3⟩
    · obtain ⟨i, hi2, rfl⟩ := List.mem_map.1 hc
      exact (hf' i (by simpa using hi2)).2

/-- puts that came in -/
theorem open_puts {fuel : Nat} {cs : List Value} {x : DataW H × List MemPlace} (hf : TR enc W fuel 32 cs = some x) (hr : ∀ n ∈ x.1.weights Tryd.prog 32, n ≤ 140737488351232) :
    ∃ A ac l, cs = [.slice A l.length ac] ∧ PutsB W W.heap.size A l ∧ l.length ≤ 140737488355328 ∧ PutsOk l := by
  rcases Go.Deep.open_slice Tryd.underlying32 hf with ⟨rfl, hx⟩ | ⟨a, len, cap, m, n, D, Pl, rfl, _, hl, hmax, hm, hx, hi⟩
  · exact ⟨none, 0, [], rfl, .inl rfl, Nat.zero_le _, fun c hc => by cases hc⟩
  · simp only [if_true] at hm
    subst hm hx
    have hw := hr (((List.range len).map D).length + ((List.range (m - len)).map fun j => D (len + j)).length |>.mul 16) (by simp [DataW.weights, Tryd.underlying32, waPutB])
    have key : ∀ i, ∃ c : Int × Int, i < len → (W.cell? (a.add (i * 2)) = some (.int .i64 c.1) ∧ W.cell? (a.add (i * 2 + 1)) = some (.int .i64 c.2)) ∧ (-9223372036854775808 ≤ c.1 ∧ c.1 ≤ 9223372036854775807) ∧ (-9223372036854775808 ≤ c.2 ∧ c.2 ≤ 9223372036854775807) := fun i => by
      by_cases h : i < len
      · obtain ⟨cs', hc, ht⟩ := hi i (by omega)
        rw [waPut] at hc
        obtain ⟨_, hcl, hat⟩ := World.cells?_some hc
        obtain ⟨xs, n2, _, _, hlen2, hxl, hg⟩ := DataW.trod_struct Tryd.underlying31 ht
        rw [waPut] at hlen2
        match cs', hlen2, xs, hxl with
        | [c0, c1], _, [y0, y1], _ =>
          have g0 : TR enc W n2 3 [c0] = some y0 := by
            have := hg 0 _ rfl
            simp [waInt] at this
            exact this
          have g1 : TR enc W n2 3 [c1] = some y1 := by
            have := hg 1 _ rfl
            simp [waInt] at this
            exact this
          obtain ⟨z0, e0, _, w0⟩ := DataW.trod_int Tryd.underlying3 g0
          obtain ⟨z1, e1, _, w1⟩ := DataW.trod_int Tryd.underlying3 g1
          injection e0 with e0
          injection e1 with e1
          subst e0 e1
          have h0 := hat 0 (by decide)
          have h1 := hat 1 (by decide)
          have b0 := bounds_i64 w0
          have b1 := bounds_i64 w1
          exact ⟨(z0, z1), fun _ => ⟨⟨by simpa [Addr.add] using h0, by rw [← Go.Deep.add_add]; simpa using h1⟩, ⟨b0.1, b0.2⟩, b1.1, b1.2⟩⟩
      · exact ⟨(0, 0), fun h' => absurd h' h⟩
    obtain ⟨f, hf'⟩ := Classical.axiomOfChoice key
    have hlen : ((List.range len).map f).length = len := by simp
    refine ⟨some a, m, (List.range len).map f, by rw [hlen], ?_, by rw [hlen]; simp at hw; omega, fun c hc => ?_⟩
    · by_cases h0 : len = 0
      · subst h0; exact .inl rfl
      · have hc0 := (hf' 0 (by omega)).1.1
        have hc0 : W.cell? a = some _ := hc0
        have ha := addr_of_cell hc0
        have hlt : a.block < W.heap.size := block_lt_of_cell hc0
        refine .inr ⟨a.block, a.off, by rw [← ha], .inl hlt, fun k hk => ?_⟩
        rw [hlen] at hk
        obtain ⟨q1, q2⟩ := (hf' k hk).1
        have e : ((List.range len).map f)[k]'(by rw [hlen]; exact hk) = f k := by simp
        rw [e]
        exact ⟨by rw [← add_of_cell hc0 (k * 2)]; exact q1, by rw [Nat.add_assoc, ← add_of_cell hc0 (k * 2 + 1)]; exact q2⟩
    · obtain ⟨i, hi2, rfl⟩ := List.mem_map.1 hc
      exact (hf' i (by simpa using hi2)).2

/-- a job that came in -/
theorem open_job {fuel : Nat} {cs : List Value} {x : DataW H × List MemPlace} (hf : TR enc W fuel 38 cs = some x) (hr : ∀ n ∈ x.1.weights Tryd.prog 38, n ≤ 140737488351232) :
    ∃ j, cs.length = 5 ∧ JobCells W W.heap.size cs 0 j ∧ JobOk j ∧ ∀ v ∈ cs, v.oneCell' = true := by
  obtain ⟨xs, n, _, rfl, hlen, hxl, hg⟩ := DataW.trod_struct Tryd.underlying38 hf
  rw [waJob] at hlen
  match cs, hlen, xs, hxl with
  | [c0, c1, c2, c3, c4], _, [y0, y1, y2, y3], _ =>
    have g0 : TR enc W n 32 [c0] = some y0 := by
      have := hg 0 _ rfl
      simp [waPuts] at this
      exact this
    have g1 : TR enc W n 4 [c1] = some y1 := by
      have := hg 1 _ rfl
      simp [waBool] at this
      exact this
    have g2 : TR enc W n 35 [c2, c3] = some y2 := by
      have := hg 2 _ rfl
      simp [waCut] at this
      exact this
    have g3 : TR enc W n 36 [c4] = some y3 := by
      have := hg 3 _ rfl
      simp [waCuts] at this
      exact this
    clear hg
    have hw : ∀ m, (m ∈ y0.1.weights Tryd.prog 32 ∨ m ∈ y2.1.weights Tryd.prog 35 ∨ m ∈ y3.1.weights Tryd.prog 36) → m ≤ 140737488351232 := fun m hm => hr m (by
      simp only [DataW.weights, Tryd.underlying38, List.map_cons, List.map_nil, DataW.weightsEach, List.mem_append]
      rcases hm with hm | hm | hm
      · exact .inl hm
      · exact .inr (.inr (.inl hm))
      · exact .inr (.inr (.inr (.inl hm))))
    obtain ⟨PA, pc, ps, e0, hP, hpl, hpo⟩ := open_puts g0 (fun m hm => hw m (.inl hm))
    obtain ⟨b, e1, _⟩ := DataW.trod_bool Tryd.underlying4 g1
    obtain ⟨z, KA, kc, ks, e2, hz, hF, hkl⟩ := open_cut g2 (fun m hm => hw m (.inr (.inl hm)))
    obtain ⟨CA, cc, ags, e3, hC, hcl, hco⟩ := open_cuts g3 (fun m hm => hw m (.inr (.inr hm)))
    injection e0 with e0
    injection e1 with e1
    injection e2 with e2 e2'
    injection e2' with e2'
    injection e3 with e3
    subst e0 e1 e2 e2' e3
    exact ⟨⟨ps, b, z, ks, ags⟩, rfl, ⟨PA, pc, KA, kc, CA, cc, rfl, rfl, rfl, rfl, rfl, hP, hF, hC⟩, ⟨hpo, hpl, hz, by show ks.length ≤ _; omega, hcl, hco⟩, fun v hv => by
      simp at hv
      rcases hv with rfl | rfl | rfl | rfl | rfl <;> rfl⟩

/-- the jobs that came in -/
theorem open_jobs {base : Nat} {v : Value} {d : DataW H} {p : List MemPlace} (hv : Value.okWide Tryd.prog W .any base 22 v)
    (h : DataW.Trod enc Tryd.prog W 0 (fun _ => true) true 22 v d p) (hr : ∀ n ∈ d.weights Tryd.prog 22, n ≤ 140737488351232) :
    ∃ A jl jc cs jobs, v = .slice A jl jc ∧ JobsArg W W.heap.size A cs ∧ (A = none → jl = 0 ∧ jc = 0) ∧ JobsRow W W.heap.size cs jobs ∧ jobs.length = jl ∧ (∀ j ∈ jobs, JobOk j) ∧ (jl + 1) * 88 ≤ 140737488355328 := by
  obtain ⟨a0, len, cap, rfl⟩ := okWide_slice Tryd.underlying22 hv
  obtain ⟨fuel, hf⟩ := h
  rcases Go.Deep.open_slice Tryd.underlying22 hf with ⟨hcs, hx⟩ | ⟨a, len', cap', m, n, D, Pl, hcs, _, hl, hmax, hm, hx, hi⟩
  · simp [Value.cells] at hcs
    obtain ⟨rfl, rfl, rfl⟩ := hcs
    exact ⟨none, 0, 0, [], [], rfl, .inl rfl, fun _ => ⟨rfl, rfl⟩, ⟨rfl, fun v hv => (by cases hv), fun k hk => (by simp at hk)⟩, rfl, fun j hj => (by cases hj), by omega⟩
  · simp [Value.cells] at hcs
    obtain ⟨rfl, rfl, rfl⟩ := hcs
    simp only [if_true] at hm
    subst hm
    simp only [Prod.mk.injEq] at hx
    obtain ⟨rfl, rfl⟩ := hx
    have hw := hr (((List.range len).map D).length + ((List.range (m - len)).map fun j => D (len + j)).length |>.mul 88) (by simp [DataW.weights, Tryd.underlying22, waJobB])
    have key : ∀ i, ∃ q : Job, i < len → ∃ cs' : List Value, cs'.length = 5 ∧ (∀ o, o < 5 → W.cell? (a.add (i * 5 + o)) = cs'[o]?) ∧ JobCells W W.heap.size cs' 0 q ∧ JobOk q ∧ ∀ v ∈ cs', v.oneCell' = true := by
      intro i
      by_cases h : i < len
      · obtain ⟨cs', hc, ht⟩ := hi i (by omega)
        rw [waJob] at hc
        obtain ⟨_, hcl, hat⟩ := World.cells?_some hc
        have hmem : D i ∈ (List.range len).map D := List.mem_map.2 ⟨i, by simpa using h, rfl⟩
        obtain ⟨q, h5, hq, hok, h1⟩ := open_job ht (fun n hn => hr n (by
          simp only [DataW.weights, Tryd.underlying22, List.mem_cons, List.mem_append]
          exact .inr (.inl (weights_all hmem n hn))))
        refine ⟨q, fun _ => ⟨cs', h5, fun o ho => ?_, hq, hok, h1⟩⟩
        have := hat o ho
        rw [← Go.Deep.add_add]
        exact this
      · exact ⟨job0, fun h' => absurd h' h⟩
    obtain ⟨f, hf'⟩ := Classical.axiomOfChoice key
    have hlen : ((List.range len).map f).length = len := by simp
    obtain ⟨cs, hcs⟩ : ∃ cs, (List.range (len * 5)).map (fun q => (W.cell? (a.add q)).getD (.bool false)) = cs := ⟨_, rfl⟩
    have hcl : cs.length = len * 5 := by rw [← hcs]; simp
    have hrow : ∀ i, i < len → ∀ o, o < 5 → ∃ u, W.cell? (a.add (i * 5 + o)) = some u ∧ cs[i * 5 + o]? = some u := fun i hi o ho => by
      obtain ⟨cs', h5, hc, _⟩ := hf' i hi
      have h1 := hc o ho
      rw [List.getElem?_eq_getElem (by omega)] at h1
      refine ⟨_, h1, ?_⟩
      rw [← hcs, List.getElem?_map, List.getElem?_range (by omega)]
      simp [h1]
    have hat5 : ∀ q, q < len * 5 → ∃ u, W.cell? (a.add q) = some u ∧ cs[q]? = some u := fun q hq => by
      have := hrow (q / 5) (by omega) (q % 5) (by omega)
      rwa [show q / 5 * 5 + q % 5 = q by omega] at this
    refine ⟨some a, len, m, cs, (List.range len).map f, rfl, ?_, fun e => (by cases e), ⟨by rw [hcl, hlen], fun v hv => ?_, fun k hk => ?_⟩, hlen, fun j hj => ?_, by simp at hw; omega⟩
    · by_cases h0 : len = 0
      · exact .inl (List.eq_nil_of_length_eq_zero (by omega))
      · obtain ⟨u0, hc0, _⟩ := hat5 0 (by omega)
        have hc0 : W.cell? a = some _ := hc0
        have ha := addr_of_cell hc0
        refine .inr ⟨a.block, a.off, by rw [← ha], fun j hj => ?_⟩
        obtain ⟨u, h1, h2⟩ := hat5 j (by omega)
        rw [← add_of_cell hc0 j, h1, ← h2, List.getElem?_eq_getElem hj]
    · obtain ⟨q, hq, rfl⟩ := List.mem_iff_getElem.1 hv
      obtain ⟨cs', h5, hc, _, _, h1⟩ := hf' (q / 5) (by omega)
      obtain ⟨u, e1, e2⟩ := hat5 q (by omega)
      have e3 := hc (q % 5) (by omega)
      rw [show q / 5 * 5 + q % 5 = q by omega, e1, List.getElem?_eq_getElem (by omega)] at e3
      rw [List.getElem?_eq_getElem hq] at e2
      injection e2 with e2
      injection e3 with e3
      rw [e2, e3]
      exact h1 _ (List.getElem_mem _)
    · rw [hlen] at hk
      obtain ⟨cs', h5, hc, ⟨PA, pc, KA, kc, CA, cc, q1, q2, q3, q4, q5, r⟩, _, _⟩ := hf' k hk
      have e : ((List.range len).map f)[k]'(by rw [hlen]; exact hk) = f k := by simp
      rw [e]
      have hg : ∀ o, o < 5 → cs[k * 5 + o]? = cs'[o]? := fun o ho => by
        obtain ⟨u, e1, e2⟩ := hrow k hk o ho
        rw [e2, ← e1, hc o ho]
      exact ⟨PA, pc, KA, kc, CA, cc, (hg 0 (by omega)).trans q1, (hg 1 (by omega)).trans q2, (hg 2 (by omega)).trans q3, (hg 3 (by omega)).trans q4, (hg 4 (by omega)).trans q5, r⟩
    · obtain ⟨i, hi2, rfl⟩ := List.mem_map.1 hj
      obtain ⟨_, _, _, _, hok, _⟩ := hf' i (by simpa using hi2)
      exact hok
end
end Go.Proofs.YtimddchgmocdaaaDoor
