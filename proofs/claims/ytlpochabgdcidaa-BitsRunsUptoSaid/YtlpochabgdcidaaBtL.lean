/-
  THE ROWS, FURTHER: at a row's end the rows so far are the first of all rows; what each row is.
-/
import Derived.Test.YtlpochabgdcidaaBtQ
set_option linter.unusedVariables false
set_option linter.unusedSimpArgs false
namespace Go.Proofs.Ytlpochabgdcidaa.Bt

theorem bump_append (p t : List (Nat × Nat)) (h : t ≠ []) : bump (p ++ t) = p ++ bump t := by
  induction p with
  | nil => rfl
  | cons x r ih =>
    cases r with
    | nil =>
      cases t with
      | nil => exact absurd rfl h
      | cons y t => rfl
    | cons y r => show x :: bump (y :: r ++ t) = _; rw [ih]; rfl
theorem bump_ne (t : List (Nat × Nat)) (h : t ≠ []) : bump t ≠ [] := by
  cases t with
  | nil => exact absurd rfl h
  | cons x r =>
    cases r with
    | nil => simp [bump]
    | cons y r => simp [bump]
/-- where a bit is on, the rows ahead of it stand -/
theorem rows_prefix (l : List UInt8) (i d : Nat) (h : bit l i = true) : ∃ t, rows l (i + d) = rows l i ++ t ∧ (1 ≤ d → bit l (i + d - 1) = false → t ≠ []) := by
  induction d with
  | zero => exact ⟨[], by simp, fun h1 => by omega⟩
  | succ d ih =>
    obtain ⟨t, e, hn⟩ := ih
    cases hb : bit l (i + d) with
    | true => exact ⟨t, by rw [← Nat.add_assoc, rows_on _ _ hb, e], fun _ h2 => by rw [show i + (d + 1) - 1 = i + d by omega, hb] at h2; cases h2⟩
    | false =>
      have hd : 1 ≤ d := by
        rcases Nat.eq_zero_or_pos d with h0 | h0
        · subst h0; rw [Nat.add_zero, h] at hb; cases hb
        · exact h0
      cases hp : bit l (i + d - 1) with
      | true => exact ⟨t ++ [(i + d, 1)], by rw [← Nat.add_assoc, rows_new _ _ hb (.inr hp), e, List.append_assoc], fun _ _ => by simp⟩
      | false =>
        obtain ⟨c, hc⟩ : ∃ c, i + d = c + 1 := ⟨i + d - 1, by omega⟩
        refine ⟨bump t, ?_, fun _ _ => bump_ne t (hn hd hp)⟩
        rw [← Nat.add_assoc, hc, rows_more l c (by rw [← hc]; exact hb) (by rw [show c = i + d - 1 by omega]; exact hp), ← hc, e, bump_append _ _ (hn hd hp)]
theorem rows_first (l : List UInt8) (k : Nat) (h : k = 8 * l.length ∨ bit l k = true) (hk : k ≤ 8 * l.length) : rows l k <+: runs l := by
  rcases h with rfl | h
  · exact List.prefix_refl _
  · obtain ⟨t, e, _⟩ := rows_prefix l k (8 * l.length - k) h
    refine ⟨t, ?_⟩
    unfold runs
    rw [← e]
    congr 1
    omega
/-- what every row is -/
def IsRow (l : List UInt8) (x : Nat × Nat) : Prop :=
  1 ≤ x.2 ∧ x.1 + x.2 ≤ 8 * l.length ∧ (∀ j, x.1 ≤ j → j < x.1 + x.2 → bit l j = false) ∧ (x.1 = 0 ∨ bit l (x.1 - 1) = true) ∧ (x.1 + x.2 = 8 * l.length ∨ bit l (x.1 + x.2) = true)
end Go.Proofs.Ytlpochabgdcidaa.Bt
