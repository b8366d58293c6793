/-
  THE PLAIN LAW OF NUMBERS IN BYTES: the lowest byte first; what Get, Put, Text, PutText, Zero answer, with no program in sight.
-/
import Derived.Test.YtimddchgmocdaaaDoorBits
set_option linter.unusedVariables false
set_option linter.unusedSimpArgs false
namespace Go.Proofs.YtimddchgmocdaaaDoor.Rec

/-- the number that bytes make, the lowest first -/
def le : List UInt8 → Nat
  | [] => 0
  | b :: r => b.toNat + 256 * le r
theorem le_append (l m : List UInt8) : le (l ++ m) = le l + 256 ^ l.length * le m := by
  induction l with
  | nil => simp [le]
  | cons b r ih => simp only [List.cons_append, le, ih, List.length_cons, Nat.pow_succ, Nat.mul_add, Nat.mul_comm (256 ^ r.length) 256, Nat.mul_assoc]; omega
theorem le_snoc (l : List UInt8) (b : UInt8) : le (l ++ [b]) = le l + 256 ^ l.length * b.toNat := by rw [le_append]; simp [le]
theorem le_lt (l : List UInt8) : le l < 256 ^ l.length := by
  induction l with
  | nil => simp [le]
  | cons b r ih =>
    have := b.toNat_lt
    simp only [le, List.length_cons, Nat.pow_succ]
    omega
/-- the byte of that place -/
def byteAt (v k : Nat) : UInt8 := UInt8.ofNat (v / 256 ^ k)
/-- a number's bytes -/
def les (v n : Nat) : List UInt8 := (List.range n).map (byteAt v)
theorem les_length (v n : Nat) : (les v n).length = n := by simp [les]
theorem les_succ (v n : Nat) : les v (n + 1) = les v n ++ [byteAt v n] := by simp [les, List.range_succ]
theorem le_les (v n : Nat) : le (les v n) = v % 256 ^ n := by
  induction n with
  | zero => simp [les, le, Nat.mod_one]
  | succ n ih =>
    rw [les_succ, le_snoc, ih, les_length, Nat.pow_succ, Nat.mod_mul]
    simp [byteAt]

/-- a width -/
def isW (n : Int) : Bool := n == 1 || n == 2 || n == 4 || n == 8
/-- do n bytes from at_ on lie in so many? -/
def lies (len : Nat) (at_ n : Int) : Bool := decide (0 ≤ at_ ∧ 0 ≤ n ∧ at_ + n ≤ len)
/-- n bytes from at_ on -/
def part (l : List UInt8) (at_ n : Int) : List UInt8 := (l.drop at_.toNat).take n.toNat
def getE (len : Nat) (at_ n : Int) : Int := if isW n = false then 1 else if lies len at_ n = false then 20 else 0
def getV (l : List UInt8) (at_ n : Int) : Nat := if isW n = false then 0 else if lies l.length at_ n = false then 0 else le (part l at_ n)

/-- how many bytes stand ahead of the first zero byte -/
def ahead (l : List UInt8) : Nat := (l.takeWhile (· != 0)).length
def zeros (l : List UInt8) : Bool := l.all (· == 0)
theorem ahead_le (l : List UInt8) : ahead l ≤ l.length := (List.takeWhile_sublist _).length_le
theorem take_all {α : Type} (p : α → Bool) (l : List α) (k : Nat) (hk : k ≤ l.length) (h : ∀ j (hj : j < k), p (l[j]'(by omega)) = true) : (l.take k).all p = true := by
  rw [List.all_eq_true]
  intro x hx
  obtain ⟨j, hj, rfl⟩ := List.mem_iff_getElem.1 hx
  rw [List.length_take] at hj
  rw [List.getElem_take]
  exact h j (by omega)
theorem takeWhile_self {α : Type} (p : α → Bool) (l : List α) (h : ∀ x ∈ l, p x = true) : l.takeWhile p = l := by
  induction l with
  | nil => rfl
  | cons x r ih => rw [List.takeWhile_cons, if_pos (h x (by simp)), ih (fun y hy => h y (by simp [hy]))]
theorem ahead_at (l : List UInt8) (k : Nat) (hk : k < l.length) (h : ∀ j (hj : j < k), l[j]'(by omega) ≠ 0) (hz : l[k] = 0) : ahead l = k := by
  have e : l = l.take k ++ l[k] :: l.drop (k + 1) := by rw [← List.drop_eq_getElem_cons hk, List.take_append_drop]
  have ha := take_all (· != 0) l k (by omega) (fun j hj => by simpa using h j hj)
  unfold ahead
  rw [e, List.takeWhile_append]
  have : (l.take k).takeWhile (· != 0) = l.take k := takeWhile_self _ _ fun x hx => List.all_eq_true.1 ha x hx
  rw [this]
  simp [hz]
  omega
theorem ahead_all (l : List UInt8) (h : ∀ j (hj : j < l.length), l[j] ≠ 0) : ahead l = l.length := by
  unfold ahead
  have : l.takeWhile (· != 0) = l := by
    refine takeWhile_self _ _ ?_
    intro x hx
    obtain ⟨j, hj, rfl⟩ := List.mem_iff_getElem.1 hx
    simpa using h j hj
  rw [this]
theorem zeros_all (l : List UInt8) (h : ∀ j (hj : j < l.length), l[j] = 0) : zeros l = true := by
  have := take_all (· == 0) l l.length (Nat.le_refl _) (fun j hj => by simpa using h j hj)
  rwa [List.take_length] at this
theorem zeros_not (l : List UInt8) (k : Nat) (hk : k < l.length) (h : l[k] ≠ 0) : zeros l = false := by
  unfold zeros
  rw [List.all_eq_false]
  exact ⟨l[k], List.getElem_mem hk, by simpa using h⟩

def zeroE (len : Nat) (at_ n : Int) : Int := if n < 0 then 1 else if lies len at_ n = false then 20 else 0
def zeroV (l : List UInt8) (at_ n : Int) : Bool := if n < 0 then false else if lies l.length at_ n = false then false else zeros (part l at_ n)

def putE (len : Nat) (at_ n : Int) (v : Nat) : Int := if isW n = false ∨ (n < 8 ∧ v / 2 ^ (8 * n.toNat) ≠ 0) then 1 else if lies len at_ n = false then 20 else 0

def textE (l : List UInt8) (at_ n : Int) : Int := if n < 0 then 1 else if lies l.length at_ n = false then 20 else if zeros ((part l at_ n).drop (ahead (part l at_ n))) = false then 1 else 0
def textV (l : List UInt8) (at_ n : Int) : List UInt8 := if textE l at_ n = 0 then (part l at_ n).take (ahead (part l at_ n)) else []
def putTextE (len : Nat) (at_ n : Int) (s : List UInt8) : Int := if n < 0 ∨ n < (s.length : Int) ∨ ahead s < s.length then 1 else if lies len at_ n = false then 20 else 0
end Go.Proofs.YtimddchgmocdaaaDoor.Rec
