/-
  A LOG, IN PLAIN LEAN: the steps of a commit and of a recovery; a power cut at any of them leaves the old blocks, the new ones, or a log that holds the new ones.
-/
import Derived.Test.YtimddchgmocdaaaDoorDm
set_option linter.unusedVariables false
set_option linter.unusedSimpArgs false
namespace Go.Proofs.YtimddchgmocdaaaDoor

namespace Dk
/-- a step: a write of a block, or a flush -/
def step1 (D : Dk) : Option (Nat × List UInt8) → Dk
  | some x => D.write x.1 x.2
  | none => D.flush
/-- steps, till one is refused -/
def does (D : Dk) : List (Option (Nat × List UInt8)) → Dk × Int
  | [] => (D, 0)
  | s :: r => if D.err = 0 then does (D.step1 s) r else (D.step1 s, D.err)
/-- writes and a flush -/
def phase (ws : List (Nat × List UInt8)) : List (Option (Nat × List UInt8)) := ws.map some ++ [none]
def Closed (P : List (List UInt8) → Prop) (ws : List (Nat × List UInt8)) : Prop := ∀ x ∈ ws, ∀ L, P L → P (L.set x.1 x.2)

theorem err_two (D : Dk) : (D.left = 1 ∧ D.err = 30) ∨ (D.left ≠ 1 ∧ D.err = 0) := by
  unfold err
  by_cases h : D.left = 1
  · exact .inl ⟨h, by rw [if_pos h]⟩
  · exact .inr ⟨h, by rw [if_neg h]⟩
theorem does_append (s r : List (Option (Nat × List UInt8))) : ∀ D : Dk, does D (s ++ r) = if (does D s).2 = 0 then does (does D s).1 r else does D s := by
  induction s with
  | nil => intro D; simp [does]
  | cons x s ih =>
    intro D
    have e : ∀ t, does D (x :: t) = if D.err = 0 then does (D.step1 x) t else (D.step1 x, D.err) := fun t => rfl
    rw [List.cons_append, e, e]
    by_cases h : D.err = 0
    · rw [if_pos h, if_pos h]; exact ih _
    · rw [if_neg h, if_neg h, if_neg h]
theorem kept_closed {P : List (List UInt8) → Prop} {L : List (List UInt8)} {p : List (Nat × List UInt8)} (keep : List Bool) (hL : P L) (hc : Closed P p) (k : Nat) : P (kept L p keep k) := by
  induction k with
  | zero => exact hL
  | succ k ih =>
    unfold kept
    split
    · split
      · exact hc _ (List.getElem_mem _) _ ih
      · exact ih
    · exact ih
theorem puts_closed {P : List (List UInt8) → Prop} (p : List (Nat × List UInt8)) : ∀ {L : List (List UInt8)}, P L → Closed P p → P (puts L p) := by
  induction p with
  | nil => intro L h _; exact h
  | cons x p ih => intro L h hc; exact ih (hc x (List.mem_cons_self ..) L h) (fun y hy => hc y (List.mem_cons_of_mem _ hy))
/-- how a row of steps may end -/
structure Went (P : List (List UInt8) → Prop) (D : Dk) (m : Nat) (L : List (List UInt8)) (r : Dk × Int) : Prop where
  n : r.1.n ≤ D.n + m
  pend : r.1.pend = []
  ends : (r.2 = 0 ∧ r.1.down = false ∧ r.1.lasts = L ∧ (D.left = 0 → r.1.left = 0)) ∨ (r.2 = 30 ∧ r.1.down = true ∧ P r.1.lasts ∧ D.left ≠ 0)
theorem went_phase (P : List (List UInt8) → Prop) (ws : List (Nat × List UInt8)) : ∀ (D : Dk), D.down = false → P D.lasts → Closed P D.pend → Closed P ws →
    Went P D (ws.length + 1) (puts D.lasts (D.pend ++ ws)) (does D (phase ws)) := by
  induction ws with
  | nil =>
    intro D hd hP hc _
    rcases err_two D with ⟨h1, h2⟩ | ⟨h1, h2⟩
    · have e : does D (phase []) = (D.flush, 30) := by
        show (if D.err = 0 then _ else (D.flush, D.err)) = _
        rw [h2]; rfl
      have f : D.flush = D.cut D.keep := by unfold flush; rw [if_pos h1]
      rw [e, f]
      exact ⟨by show D.n ≤ _; omega, rfl, .inr ⟨rfl, rfl, kept_closed _ hP hc _, by omega⟩⟩
    · have e : does D (phase []) = (D.flush, 0) := by
        show (if D.err = 0 then does D.flush [] else _) = _
        rw [h2]; rfl
      have f : D.flush = { D with lasts := puts D.lasts D.pend, pend := [], left := D.left - 1, n := D.n + 1 } := by unfold flush; rw [if_neg h1]
      rw [e, f]
      exact ⟨Nat.le_refl _, rfl, .inl ⟨rfl, hd, by rw [List.append_nil], fun h => by show D.left - 1 = 0; omega⟩⟩
  | cons x ws ih =>
    intro D hd hP hc hw
    have hc2 : Closed P (D.pend ++ [x]) := fun y hy => by
      rcases List.mem_append.1 hy with hy | hy
      · exact hc y hy
      · simp at hy; subst hy; exact hw y (List.mem_cons_self ..)
    rcases err_two D with ⟨h1, h2⟩ | ⟨h1, h2⟩
    · have e : does D (phase (x :: ws)) = (D.write x.1 x.2, 30) := by
        show (if D.err = 0 then _ else (D.write x.1 x.2, D.err)) = _
        rw [h2]; rfl
      have f : D.write x.1 x.2 = ({ D with pend := D.pend ++ [x], n := D.n + 1 } : Dk).cut D.keep := by unfold write; rw [if_pos h1]
      rw [e, f]
      exact ⟨by show D.n + 1 ≤ D.n + ((x :: ws).length + 1); omega, rfl, .inr ⟨rfl, rfl, kept_closed _ hP hc2 _, by omega⟩⟩
    · have e : does D (phase (x :: ws)) = does (D.write x.1 x.2) (phase ws) := by
        show (if D.err = 0 then does (D.write x.1 x.2) (ws.map some ++ [none]) else _) = _
        rw [h2]; rfl
      have f : D.write x.1 x.2 = { D with pend := D.pend ++ [x], left := D.left - 1, n := D.n + 1 } := by unfold write; rw [if_neg h1]
      rw [e, f]
      obtain ⟨q1, q2, q3⟩ := ih ({ D with pend := D.pend ++ [x], left := D.left - 1, n := D.n + 1 } : Dk) hd hP hc2 (fun y hy => hw y (List.mem_cons_of_mem _ hy))
      refine ⟨?_, q2, ?_⟩
      · have q1 : _ ≤ (D.n + 1) + (ws.length + 1) := q1
        rw [List.length_cons]; omega
      · rcases q3 with ⟨a1, a2, a3, a4⟩ | ⟨a1, a2, a3, a4⟩
        · refine .inl ⟨a1, a2, ?_, fun h => a4 (by show D.left - 1 = 0; omega)⟩
          rw [a3]
          show puts D.lasts ((D.pend ++ [x]) ++ ws) = _
          rw [List.append_assoc]; rfl
        · exact .inr ⟨a1, a2, a3, fun h => a4 (by show D.left - 1 = 0; omega)⟩
/-- a phase, and what comes behind it -/
theorem went_more {P : List (List UInt8) → Prop} {D : Dk} {m m2 : Nat} {L L2 : List (List UInt8)} {s r : List (Option (Nat × List UInt8))} (h : Went P D m L (does D s)) (k : ∀ E : Dk, E.down = false → E.pend = [] → E.lasts = L → Went P E m2 L2 (does E r)) :
    Went P D (m + m2) L2 (does D (s ++ r)) := by
  rw [does_append]
  obtain ⟨q1, q2, q3⟩ := h
  rcases q3 with ⟨a1, a2, a3, a4⟩ | ⟨a1, a2, a3, a4⟩
  · rw [if_pos a1]
    obtain ⟨p1, p2, p3⟩ := k _ a2 q2 a3
    refine ⟨by omega, p2, ?_⟩
    rcases p3 with ⟨b1, b2, b3, b4⟩ | ⟨b1, b2, b3, b4⟩
    · exact .inl ⟨b1, b2, b3, fun h => b4 (a4 h)⟩
    · exact .inr ⟨b1, b2, b3, fun h => b4 (a4 h)⟩
  · rw [if_neg (by rw [a1]; decide)]
    exact ⟨by omega, q2, .inr ⟨a1, a2, a3, a4⟩⟩
theorem Went.mono {P Q : List (List UInt8) → Prop} {D : Dk} {m : Nat} {L : List (List UInt8)} {r : Dk × Int} (h : Went P D m L r) (hpq : ∀ L, P L → Q L) : Went Q D m L r :=
  ⟨h.n, h.pend, h.ends.imp id fun ⟨a, b, c, d⟩ => ⟨a, b, hpq _ c, d⟩⟩
end Dk

/-- the last of the writes to block j, or b -/
def lastOf (b : List UInt8) (ws : List (Nat × List UInt8)) (j : Nat) : List UInt8 := ws.foldl (fun b x => if x.1 = j then x.2 else b) b
theorem getD_set (L : List (List UInt8)) (i j : Nat) (b : List UInt8) (h : i < L.length) : (L.set i b).getD j [] = if i = j then b else L.getD j [] := by
  rw [List.getD_eq_getElem?_getD, List.getElem?_set]
  by_cases e : i = j
  · subst e; simp [h]
  · simp [e, List.getD_eq_getElem?_getD]
theorem puts_getD (ws : List (Nat × List UInt8)) : ∀ (L : List (List UInt8)) (j : Nat), (∀ x ∈ ws, x.1 < L.length) → (Dk.puts L ws).getD j [] = lastOf (L.getD j []) ws j := by
  induction ws with
  | nil => intro L j _; rfl
  | cons x ws ih =>
    intro L j h
    show (Dk.puts (L.set x.1 x.2) ws).getD j [] = lastOf (if x.1 = j then x.2 else L.getD j []) ws j
    rw [ih _ _ (fun y hy => by rw [List.length_set]; exact h y (List.mem_cons_of_mem _ hy)), getD_set _ _ _ _ (h x (List.mem_cons_self ..))]
theorem lastOf_in (ws : List (Nat × List UInt8)) (j : Nat) : ∀ b c : List UInt8, (∃ x ∈ ws, x.1 = j) → lastOf b ws j = lastOf c ws j := by
  induction ws with
  | nil => intro b c ⟨x, hx, _⟩; cases hx
  | cons x ws ih =>
    intro b c ⟨y, hy, e⟩
    show lastOf (if x.1 = j then x.2 else b) ws j = lastOf (if x.1 = j then x.2 else c) ws j
    by_cases hx : x.1 = j
    · rw [if_pos hx, if_pos hx]
    · rw [if_neg hx, if_neg hx]
      rcases List.mem_cons.1 hy with rfl | hy
      · exact absurd e hx
      · exact ih b c ⟨y, hy, e⟩
theorem lastOf_out (ws : List (Nat × List UInt8)) (j : Nat) : ∀ b : List UInt8, (∀ x ∈ ws, x.1 ≠ j) → lastOf b ws j = b := by
  induction ws with
  | nil => intro b _; rfl
  | cons x ws ih =>
    intro b h
    show lastOf (if x.1 = j then x.2 else b) ws j = b
    rw [if_neg (h x (List.mem_cons_self ..))]
    exact ih b (fun y hy => h y (List.mem_cons_of_mem _ hy))

/-- the writes of the log's data -/
def logW (k : Nat) : List (List UInt8) → List (Nat × List UInt8)
  | [] => []
  | b :: r => (2 + k, b) :: logW (k + 1) r
theorem logW_length (l : List (List UInt8)) : ∀ k, (logW k l).length = l.length := by
  induction l with
  | nil => intro k; rfl
  | cons b l ih => intro k; show (logW (k + 1) l).length + 1 = _; rw [ih]; rfl
theorem logW_mem (l : List (List UInt8)) : ∀ k, ∀ x ∈ logW k l, 2 + k ≤ x.1 ∧ x.1 < 2 + k + l.length ∧ x.2 ∈ l := by
  induction l with
  | nil => intro k x hx; cases hx
  | cons b l ih =>
    intro k x hx
    rcases List.mem_cons.1 hx with rfl | hx
    · exact ⟨Nat.le_refl _, by simp, List.mem_cons_self ..⟩
    · obtain ⟨h1, h2, h3⟩ := ih (k + 1) x hx
      exact ⟨by omega, by rw [List.length_cons]; omega, List.mem_cons_of_mem _ h3⟩
theorem logW_at (l : List (List UInt8)) : ∀ (k j : Nat) (h : j < l.length) (b : List UInt8), lastOf b (logW k l) (2 + k + j) = l[j] := by
  induction l with
  | nil => intro k j h; simp at h
  | cons c l ih =>
    intro k j h b
    show lastOf (if 2 + k = 2 + k + j then c else b) (logW (k + 1) l) (2 + k + j) = _
    cases j with
    | zero =>
      rw [if_pos (by omega), lastOf_out _ _ _ (fun x hx => by have := (logW_mem l (k + 1) x hx).1; omega)]
      rfl
    | succ j =>
      rw [show 2 + k + (j + 1) = 2 + (k + 1) + j by omega]
      exact ih (k + 1) j (by simpa using h) _

/-- what a log and the blocks behind it are, between two transactions: n blocks; the header H; the writes ws; what was there ahead of them -/
structure Tx where
  n : Nat
  H : List UInt8
  ws : List (Nat × List UInt8)
  old : Nat → List UInt8
namespace Tx
variable (T : Tx)
def data : List (List UInt8) := T.ws.map (·.2)
def new (j : Nat) : List UInt8 := lastOf (T.old j) T.ws j
def zero : List UInt8 := List.replicate 512 0
/-- the log is empty, the blocks are f's -/
def Rest (n : Nat) (f : Nat → List UInt8) (L : List (List UInt8)) : Prop := L.length = n ∧ L.getD 1 [] = zero ∧ ∀ j, 98 ≤ j → j < n → L.getD j [] = f j
/-- the log's blocks are the data -/
def LogIs (L : List (List UInt8)) : Prop := ∀ k (h : k < T.data.length), L.getD (2 + k) [] = T.data[k]
/-- the log holds the writes; the blocks that aren't written are the old ones -/
def Full (L : List (List UInt8)) : Prop := L.length = T.n ∧ L.getD 1 [] = T.H ∧ T.LogIs L ∧ ∀ j, 98 ≤ j → j < T.n → (∀ x ∈ T.ws, x.1 ≠ j) → L.getD j [] = T.old j
def Mid (L : List (List UInt8)) : Prop := Rest T.n T.old L ∨ T.Full L ∨ Rest T.n T.new L
structure Ok : Prop where
  n : 98 ≤ T.n
  few : T.ws.length ≤ 96
  nums : ∀ x ∈ T.ws, 98 ≤ x.1 ∧ x.1 < T.n
variable {T}
theorem full_home (h : T.Ok) : Dk.Closed T.Full T.ws := fun x hx L hL => by
  obtain ⟨h1, h2, h3, h4⟩ := hL
  have hn := h.nums x hx
  have hn2 := h.n
  refine ⟨by rw [List.length_set]; exact h1, ?_, fun k hk => ?_, fun j h5 h6 h7 => ?_⟩
  · rw [getD_set _ _ _ _ (by omega), if_neg (by omega)]; exact h2
  · have hk' := hk
    have hf := h.few
    unfold data at hk'
    rw [List.length_map] at hk'
    rw [getD_set _ _ _ _ (by omega), if_neg (by omega)]; exact h3 k hk
  · rw [getD_set _ _ _ _ (by omega), if_neg (h7 x hx)]; exact h4 j h5 h6 h7
theorem full_done (h : T.Ok) {L : List (List UInt8)} (hL : T.Full L) : (Dk.puts L T.ws).length = T.n ∧ (Dk.puts L T.ws).getD 1 [] = T.H ∧ T.LogIs (Dk.puts L T.ws) ∧ ∀ j, 98 ≤ j → j < T.n → (Dk.puts L T.ws).getD j [] = T.new j := by
  have hf := Dk.puts_closed T.ws hL (full_home h)
  refine ⟨hf.1, hf.2.1, hf.2.2.1, fun j h1 h2 => ?_⟩
  rw [puts_getD _ _ _ (fun x hx => by rw [hL.1]; exact (h.nums x hx).2)]
  by_cases e : ∃ x ∈ T.ws, x.1 = j
  · exact lastOf_in _ _ _ _ e
  · have e' : ∀ x ∈ T.ws, x.1 ≠ j := fun x hx hj => e ⟨x, hx, hj⟩
    unfold new
    rw [lastOf_out _ _ _ e', lastOf_out _ _ _ e']
    exact hL.2.2.2 j h1 h2 e'
/-- the last phase: the new blocks stand, the header is the old one or empty -/
def Last (T : Tx) (L : List (List UInt8)) : Prop := L.length = T.n ∧ (L.getD 1 [] = T.H ∨ L.getD 1 [] = zero) ∧ T.LogIs L ∧ ∀ j, 98 ≤ j → j < T.n → L.getD j [] = T.new j
theorem last_closed (h : T.Ok) : Dk.Closed T.Last [(1, zero)] := fun x hx L hL => by
  simp at hx
  subst hx
  have hn := h.n
  obtain ⟨h1, h2, h3, h4⟩ := hL
  refine ⟨by rw [List.length_set]; exact h1, .inr ?_, fun k hk => ?_, fun j h5 h6 => ?_⟩
  · rw [getD_set _ _ _ _ (by omega), if_pos rfl]
  · rw [getD_set _ _ _ _ (by omega), if_neg (by show ¬ 1 = _; omega)]; exact h3 k hk
  · rw [getD_set _ _ _ _ (by omega), if_neg (by show ¬ 1 = _; omega)]; exact h4 j h5 h6
theorem last_mid {L : List (List UInt8)} (hL : T.Last L) : T.Mid L := by
  obtain ⟨h1, h2, h3, h4⟩ := hL
  rcases h2 with h2 | h2
  · refine .inr (.inl ⟨h1, h2, h3, fun j h5 h6 h7 => ?_⟩)
    rw [h4 j h5 h6]; exact lastOf_out _ _ _ h7
  · exact .inr (.inr ⟨h1, h2, h4⟩)
def home (ws : List (Nat × List UInt8)) : List (Option (Nat × List UInt8)) := Dk.phase ws ++ Dk.phase [(1, zero)]
def whole (H : List UInt8) (ws : List (Nat × List UInt8)) : List (Option (Nat × List UInt8)) := Dk.phase (logW 0 (ws.map (·.2))) ++ (Dk.phase [(1, H)] ++ home ws)
/-- how a row of steps ends: the new blocks stand, or the power went and what lasts is in between -/
structure Ends (T : Tx) (D : Dk) (m : Nat) (r : Dk × Int) : Prop where
  n : r.1.n ≤ D.n + m
  pend : r.1.pend = []
  ends : (r.2 = 0 ∧ r.1.down = false ∧ Rest T.n T.new r.1.lasts ∧ (D.left = 0 → r.1.left = 0)) ∨ (r.2 = 30 ∧ r.1.down = true ∧ T.Mid r.1.lasts ∧ D.left ≠ 0)
theorem Ends.of {D : Dk} {m : Nat} {L : List (List UInt8)} {r : Dk × Int} (h : Dk.Went T.Mid D m L r) (hL : Rest T.n T.new L) : T.Ends D m r :=
  ⟨h.n, h.pend, h.ends.imp (fun ⟨a, b, c, d⟩ => ⟨a, b, by rw [c]; exact hL, d⟩) id⟩
theorem puts_nil (l : List (List UInt8)) : Dk.puts l [] = l := rfl
theorem home_went (h : T.Ok) (D : Dk) (hd : D.down = false) (hp : D.pend = []) (hL : T.Full D.lasts) :
    Dk.Went T.Mid D (T.ws.length + 3) ((Dk.puts D.lasts T.ws).set 1 zero) (Dk.does D (home T.ws)) := by
  have w1 := Dk.went_phase T.Full T.ws D hd hL (by rw [hp]; intro x hx; cases hx) (full_home h)
  rw [hp, List.nil_append] at w1
  obtain ⟨g1, g2, g3, g4⟩ := full_done h hL
  refine Dk.went_more (m := T.ws.length + 1) (m2 := 2) (w1.mono fun L hL => .inr (.inl hL)) fun E e1 e2 e3 => ?_
  have w2 := Dk.went_phase T.Last [(1, zero)] E e1 (by rw [e3]; exact ⟨g1, .inl g2, g3, g4⟩) (by rw [e2]; intro x hx; cases hx) (last_closed h)
  rw [e2, List.nil_append, e3] at w2
  exact w2.mono fun L hL => last_mid hL
theorem home_rest (h : T.Ok) {L : List (List UInt8)} (hL : T.Full L) : Rest T.n T.new ((Dk.puts L T.ws).set 1 zero) := by
  obtain ⟨g1, g2, g3, g4⟩ := full_done h hL
  have hn := h.n
  refine ⟨by rw [List.length_set]; exact g1, ?_, fun j h1 h2 => ?_⟩
  · rw [getD_set _ _ _ _ (by omega), if_pos rfl]
  · rw [getD_set _ _ _ _ (by omega), if_neg (by omega)]; exact g4 j h1 h2
theorem home_ends (h : T.Ok) (D : Dk) (hd : D.down = false) (hp : D.pend = []) (hL : T.Full D.lasts) : T.Ends D (T.ws.length + 3) (Dk.does D (home T.ws)) :=
  Ends.of (home_went h D hd hp hL) (home_rest h hL)
/-- the header's phase: the data lie in the log, the header is empty or there -/
def Headed (T : Tx) (L : List (List UInt8)) : Prop := L.length = T.n ∧ (L.getD 1 [] = zero ∨ L.getD 1 [] = T.H) ∧ T.LogIs L ∧ ∀ j, 98 ≤ j → j < T.n → L.getD j [] = T.old j
theorem headed_closed (h : T.Ok) : Dk.Closed T.Headed [(1, T.H)] := fun x hx L hL => by
  simp at hx
  subst hx
  have hn := h.n
  obtain ⟨h1, h2, h3, h4⟩ := hL
  refine ⟨by rw [List.length_set]; exact h1, .inr ?_, fun k hk => ?_, fun j h5 h6 => ?_⟩
  · rw [getD_set _ _ _ _ (by omega), if_pos rfl]
  · rw [getD_set _ _ _ _ (by omega), if_neg (by show ¬ 1 = _; omega)]; exact h3 k hk
  · rw [getD_set _ _ _ _ (by omega), if_neg (by show ¬ 1 = _; omega)]; exact h4 j h5 h6
theorem headed_mid {L : List (List UInt8)} (hL : T.Headed L) : T.Mid L := by
  obtain ⟨h1, h2, h3, h4⟩ := hL
  rcases h2 with h2 | h2
  · exact .inl ⟨h1, h2, h4⟩
  · exact .inr (.inl ⟨h1, h2, h3, fun j h5 h6 _ => h4 j h5 h6⟩)
theorem data_length : T.data.length = T.ws.length := by unfold data; rw [List.length_map]
theorem rest_closed (h : T.Ok) : Dk.Closed (Rest T.n T.old) (logW 0 T.data) := fun x hx L hL => by
  obtain ⟨h1, h2, h3⟩ := hL
  have hm := logW_mem _ _ x hx
  rw [data_length] at hm
  have hf := h.few
  have hn := h.n
  refine ⟨by rw [List.length_set]; exact h1, ?_, fun j h5 h6 => ?_⟩
  · rw [getD_set _ _ _ _ (by omega), if_neg (by omega)]; exact h2
  · rw [getD_set _ _ _ _ (by omega), if_neg (by omega)]; exact h3 j h5 h6
theorem logged (h : T.Ok) {L : List (List UInt8)} (hL : Rest T.n T.old L) : T.LogIs (Dk.puts L (logW 0 T.data)) := fun k hk => by
  have hf := h.few
  have hn := h.n
  have hdl := data_length (T := T)
  rw [puts_getD _ _ _ (fun x hx => by have hm := logW_mem _ _ x hx; have := hL.1; omega), show 2 + k = 2 + 0 + k by omega]
  exact logW_at _ _ _ hk _
theorem whole_ends (h : T.Ok) (D : Dk) (hd : D.down = false) (hp : D.pend = []) (hL : Rest T.n T.old D.lasts) : T.Ends D (2 * T.ws.length + 6) (Dk.does D (whole T.H T.ws)) := by
  have w1 := Dk.went_phase (Rest T.n T.old) (logW 0 T.data) D hd hL (by rw [hp]; intro x hx; cases hx) (rest_closed h)
  rw [hp, List.nil_append, logW_length, data_length] at w1
  have hr := Dk.puts_closed _ hL (rest_closed h)
  have hlg := logged h hL
  have hn := h.n
  have key : Headed T (Dk.puts (Dk.puts D.lasts (logW 0 T.data)) [(1, T.H)]) := Dk.puts_closed _ ⟨hr.1, .inl hr.2.1, hlg, hr.2.2⟩ (headed_closed h)
  have hfull : T.Full (Dk.puts (Dk.puts D.lasts (logW 0 T.data)) [(1, T.H)]) := by
    refine ⟨key.1, ?_, key.2.2.1, fun j h5 h6 _ => key.2.2.2 j h5 h6⟩
    show ((Dk.puts D.lasts (logW 0 T.data)).set 1 T.H).getD 1 [] = _
    rw [getD_set _ _ _ _ (by rw [hr.1]; omega), if_pos rfl]
  have all := Dk.went_more (m := T.ws.length + 1) (m2 := 2 + (T.ws.length + 3)) (L2 := (Dk.puts (Dk.puts (Dk.puts D.lasts (logW 0 T.data)) [(1, T.H)]) T.ws).set 1 zero) (r := Dk.phase [(1, T.H)] ++ home T.ws) (w1.mono fun L hL => (.inl hL : T.Mid L)) fun E e1 e2 e3 => by
    have w2 := Dk.went_phase T.Headed [(1, T.H)] E e1 (by rw [e3]; exact ⟨hr.1, .inl hr.2.1, hlg, hr.2.2⟩) (by rw [e2]; intro x hx; cases hx) (headed_closed h)
    rw [e2, List.nil_append, e3] at w2
    refine Dk.went_more (w2.mono fun L hL => headed_mid hL) fun F f1 f2 f3 => ?_
    have w3 := home_went h F f1 f2 (by rw [f3]; exact hfull)
    rw [f3] at w3
    exact w3
  have e := Ends.of all (home_rest h hfull)
  exact ⟨by have := e.n; show (Dk.does D (Dk.phase (logW 0 T.data) ++ (Dk.phase [(1, T.H)] ++ home T.ws))).1.n ≤ _; omega, e.pend, e.ends⟩
end Tx
end Go.Proofs.YtimddchgmocdaaaDoor
