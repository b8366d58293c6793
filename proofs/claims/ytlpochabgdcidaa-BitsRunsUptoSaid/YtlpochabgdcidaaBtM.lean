/-
  THE ROWS, ONCE MORE: they rise and none touches the one ahead; with the bits that are on they are all bits; the first begins at the lowest bit that is off.
-/
import Derived.Test.YtlpochabgdcidaaBtL
set_option linter.unusedVariables false
set_option linter.unusedSimpArgs false
namespace Go.Proofs.Ytlpochabgdcidaa.Bt

def endOf (p : List (Nat × Nat)) : Nat := match p.getLast? with | some x => x.1 + x.2 | none => 0
def offOf (p : List (Nat × Nat)) : Nat := (p.map (·.2)).sum
def firstOf (p : List (Nat × Nat)) : Int := match p with | [] => -1 | x :: _ => (x.1 : Int)
theorem endOf_snoc (p : List (Nat × Nat)) (x : Nat × Nat) : endOf (p ++ [x]) = x.1 + x.2 := by unfold endOf; simp
theorem offOf_snoc (p : List (Nat × Nat)) (x : Nat × Nat) : offOf (p ++ [x]) = offOf p + x.2 := by unfold offOf; simp
theorem firstOf_snoc (p : List (Nat × Nat)) (x : Nat × Nat) : firstOf (p ++ [x]) = if firstOf p < 0 then (x.1 : Int) else firstOf p := by
  cases p with
  | nil => rfl
  | cons y r => show (y.1 : Int) = if (y.1 : Int) < 0 then _ else (y.1 : Int); rw [if_neg (by omega)]

/-- what is true of the rows of the first k bits -/
structure Rowed (l : List UInt8) (k : Nat) : Prop where
  rise : ∀ p x q, rows l k = p ++ [x] ++ q → p = [] ∨ endOf p < x.1
  last : endOf (rows l k) ≤ k
  gap : bit l (k - 1) = true → rows l k = [] ∨ endOf (rows l k) < k
  open_ : k ≠ 0 → bit l (k - 1) = false → ∃ p a n, rows l k = p ++ [(a, n)] ∧ a + n = k
  sum : cnt l 0 k + offOf (rows l k) = k
  first : (rows l k = [] ∧ ∀ j, j < k → bit l j = true) ∨ (∃ a n t, rows l k = (a, n) :: t ∧ a < k ∧ bit l a = false ∧ ∀ j, j < a → bit l j = true)

theorem snoc_split {p q : List (Nat × Nat)} {s : List (Nat × Nat)} {x y : Nat × Nat} (h : s ++ [y] = p ++ [x] ++ q) : (q = [] ∧ p = s ∧ x = y) ∨ (∃ q', q = q' ++ [y] ∧ s = p ++ [x] ++ q') := by
  rcases List.eq_nil_or_concat q with rfl | ⟨q', z, rfl⟩
  · left
    rw [List.append_nil] at h
    have := List.append_inj' h rfl
    exact ⟨rfl, this.1.symm, by have h2 := this.2; injection h2 with h2; exact h2.symm⟩
  · right
    rw [List.concat_eq_append, ← List.append_assoc] at h
    have := List.append_inj' h rfl
    have h2 := this.2
    injection h2 with h2
    subst h2
    exact ⟨q', List.concat_eq_append, this.1⟩
theorem rowed (l : List UInt8) (k : Nat) : Rowed l k := by
  induction k with
  | zero => exact ⟨fun p x q h => by simp [rows] at h, by simp [rows, endOf], fun _ => .inl rfl, fun h => absurd rfl h, by simp [cnt, rows, offOf], .inl ⟨rfl, fun j h => by omega⟩⟩
  | succ k ih =>
    cases hb : bit l k with
    | true =>
      have e := rows_on l k hb
      refine ⟨by rw [e]; exact ih.rise, by rw [e]; have := ih.last; omega, fun _ => .inr (by rw [e]; have := ih.last; omega), fun _ h2 => ?_, ?_, ?_⟩
      · rw [Nat.add_sub_cancel, hb] at h2; cases h2
      · rw [cnt_succ, Nat.zero_add, if_pos hb, e]; have := ih.sum; omega
      · rw [e]
        rcases ih.first with ⟨h1, h2⟩ | ⟨a, n, t, h1, h2, h3, h4⟩
        · refine .inl ⟨h1, fun j hj => ?_⟩
          rcases Nat.lt_or_ge j k with h5 | h5
          · exact h2 j h5
          · rw [show j = k by omega]; exact hb
        · exact .inr ⟨a, n, t, h1, by omega, h3, h4⟩
    | false =>
      have hsum : cnt l 0 (k + 1) = cnt l 0 k := by rw [cnt_succ, Nat.zero_add, if_neg (by rw [hb]; simp)]; rfl
      by_cases hnew : k = 0 ∨ bit l (k - 1) = true
      · have e := rows_new l k hb hnew
        have hgap : rows l k = [] ∨ endOf (rows l k) < k := by
          rcases hnew with h | h
          · subst h; exact .inl rfl
          · exact ih.gap h
        refine ⟨fun p x q h => ?_, by rw [e, endOf_snoc]; exact Nat.le_refl _, fun h => (by rw [Nat.add_sub_cancel, hb] at h; cases h), fun _ _ => ⟨rows l k, k, 1, e, rfl⟩, by rw [hsum, e, offOf_snoc]; have := ih.sum; omega, ?_⟩
        · rw [e] at h
          rcases snoc_split h with ⟨_, rfl, rfl⟩ | ⟨q', _, h2⟩
          · rcases hgap with h3 | h3
            · exact .inl h3
            · exact .inr h3
          · exact ih.rise p x q' h2
        · rw [e]
          rcases ih.first with ⟨h1, h2⟩ | ⟨a, n, t, h1, h2, h3, h4⟩
          · rw [h1]; exact .inr ⟨k, 1, [], rfl, by omega, hb, h2⟩
          · rw [h1]; exact .inr ⟨a, n, t ++ [(k, 1)], rfl, by omega, h3, h4⟩
      · obtain ⟨c, rfl⟩ : ∃ c, k = c + 1 := ⟨k - 1, by omega⟩
        have hp : bit l c = false := by
          cases h : bit l c with
          | false => rfl
          | true => exact absurd (.inr h) hnew
        obtain ⟨p, a, n, e1, e2⟩ := ih.open_ (by omega) hp
        have e : rows l (c + 1 + 1) = p ++ [(a, n + 1)] := by rw [rows_more l c hb hp, e1, bump_snoc]
        refine ⟨fun p' x q h => ?_, by rw [e, endOf_snoc]; show a + (n + 1) ≤ _; omega, fun h => (by rw [Nat.add_sub_cancel, hb] at h; cases h), fun _ _ => ⟨p, a, n + 1, e, by omega⟩, ?_, ?_⟩
        · rw [e] at h
          rcases snoc_split h with ⟨_, rfl, rfl⟩ | ⟨q', _, h2⟩
          · exact ih.rise p' (a, n) [] (by rw [e1, List.append_nil])
          · exact ih.rise p' x (q' ++ [(a, n)]) (by rw [e1, h2, List.append_assoc])
        · have h1 := ih.sum
          rw [e1, offOf_snoc] at h1
          rw [hsum, e, offOf_snoc]
          have h1 : cnt l 0 (c + 1) + (offOf p + n) = c + 1 := h1
          show cnt l 0 (c + 1) + (offOf p + (n + 1)) = c + 1 + 1
          omega
        · rw [e]
          rcases ih.first with ⟨h1, h2⟩ | ⟨a', n', t, h1, h2, h3, h4⟩
          · rw [h2 c (by omega)] at hp; cases hp
          · rw [e1] at h1
            cases p with
            | nil => injection h1 with h1 _; injection h1 with h1 _; subst h1; exact .inr ⟨a, n + 1, [], rfl, by omega, h3, h4⟩
            | cons y r => injection h1 with h1 _; subst h1; exact .inr ⟨a', n', r ++ [(a, n + 1)], rfl, by omega, h3, h4⟩
/-- a row more that is one of the first of all: it begins behind the end of the one ahead -/
theorem next_row (l : List UInt8) (p : List (Nat × Nat)) (x : Nat × Nat) (h : p ++ [x] <+: runs l) : endOf p ≤ x.1 ∧ (endOf p = x.1 → x.1 = 0) := by
  obtain ⟨q, hq⟩ := h
  rcases (rowed l (8 * l.length)).rise p x q hq.symm with rfl | h
  · refine ⟨Nat.zero_le _, fun h => h.symm⟩
  · exact ⟨by omega, fun h2 => by omega⟩
theorem whole_sum (l : List UInt8) : cnt l 0 (8 * l.length) + offOf (runs l) = 8 * l.length := (rowed l _).sum
theorem first_low (l : List UInt8) : IsLow l 0 (firstOf (runs l)) := by
  rcases (rowed l (8 * l.length)).first with ⟨h1, h2⟩ | ⟨a, n, t, h1, h2, h3, h4⟩
  · have : firstOf (runs l) = -1 := by unfold runs; rw [h1]; rfl
    rw [this]
    exact .inl ⟨rfl, fun j _ hj => h2 j hj⟩
  · have : firstOf (runs l) = (a : Int) := by unfold runs; rw [h1]; rfl
    rw [this]
    exact .inr ⟨a, rfl, by omega, h2, h3, fun j _ hj => h4 j hj⟩
end Go.Proofs.Ytlpochabgdcidaa.Bt
