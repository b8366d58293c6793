/-
  PLAIN LAW OF LAYER 1 (no program in sight): the CRC-32 of bytes as a walk of single places over a 32-bit word; it is linear; the table of half bytes does what four places do; zero bytes behind a word are a linear map; matrices of linear maps; pieces; bursts.
-/
set_option linter.unusedVariables false
set_option linter.unusedSimpArgs false
namespace Go.Proofs.YtimddchgmocdaaaDoor.Crc

def poly : BitVec 32 := 3988292384#32

/-- one place to the right -/
def one (w : BitVec 32) : BitVec 32 := if w.getLsbD 0 then (w >>> 1) ^^^ poly else w >>> 1

theorem one_zero : one 0#32 = 0#32 := by decide

theorem one_xor (a b : BitVec 32) : one (a ^^^ b) = one a ^^^ one b := by
  unfold one
  rw [BitVec.getLsbD_xor, BitVec.ushiftRight_xor_distrib]
  cases a.getLsbD 0 <;> cases b.getLsbD 0 <;> simp <;> try ac_rfl
  rw [show a >>> 1 ^^^ poly ^^^ (b >>> 1 ^^^ poly) = a >>> 1 ^^^ b >>> 1 ^^^ (poly ^^^ poly) by ac_rfl]
  simp

theorem one_inj0 (w : BitVec 32) (h : one w = 0#32) : w = 0#32 := by
  unfold one at h
  have key : ∀ i, i < 32 → w.getLsbD i = false := by
    cases hb : w.getLsbD 0
    · rw [hb] at h
      simp at h
      intro i hi
      cases i with
      | zero => exact hb
      | succ i =>
        have := congrArg (fun x : BitVec 32 => x.getLsbD i) h
        simp at this
        rw [Nat.add_comm]
        exact this
    · rw [hb] at h
      simp at h
      have := congrArg (fun x : BitVec 32 => x.getLsbD 31) h
      simp [poly] at this
  apply BitVec.eq_of_getLsbD_eq
  intro i hi
  simp [key i hi]

def ones : Nat → BitVec 32 → BitVec 32
  | 0, w => w
  | k + 1, w => ones k (one w)

theorem ones_succ' (k : Nat) (w : BitVec 32) : ones (k + 1) w = one (ones k w) := by
  induction k generalizing w with
  | zero => rfl
  | succ k ih => show ones (k + 1) (one w) = _; rw [ih]; rfl

theorem ones_add (j k : Nat) (w : BitVec 32) : ones (j + k) w = ones j (ones k w) := by
  induction k generalizing w with
  | zero => rfl
  | succ k ih => show ones (j + k) (one w) = _; rw [ih]; rfl

theorem ones_zero (k : Nat) : ones k 0#32 = 0#32 := by
  induction k with
  | zero => rfl
  | succ k ih => show ones k (one 0#32) = 0#32; rw [one_zero, ih]

theorem ones_xor (k : Nat) (a b : BitVec 32) : ones k (a ^^^ b) = ones k a ^^^ ones k b := by
  induction k generalizing a b with
  | zero => rfl
  | succ k ih => show ones k (one (a ^^^ b)) = _; rw [one_xor, ih]; rfl

theorem ones_inj0 (k : Nat) (w : BitVec 32) (h : ones k w = 0#32) : w = 0#32 := by
  induction k generalizing w with
  | zero => exact h
  | succ k ih => exact one_inj0 w (ih _ h)

theorem ones_shift (k : Nat) (w : BitVec 32) (h : ∀ i, i < k → w.getLsbD i = false) : ones k w = w >>> k := by
  induction k with
  | zero => simp [ones]
  | succ k ih =>
    rw [ones_succ', ih (fun i hi => h i (by omega))]
    unfold one
    have : (w >>> k).getLsbD 0 = false := by simp; exact h k (by omega)
    rw [this]
    simp [BitVec.shiftRight_add]

/-- the sixteen words -/
def half (i : Nat) : BitVec 32 := ones 4 (BitVec.ofNat 32 i)

theorem and15_lt (v : BitVec 32) : (v &&& 15#32).toNat < 16 := by
  have : (v &&& 15#32).toNat ≤ 15 := by rw [BitVec.toNat_and]; exact Nat.and_le_right
  omega

/-- four places by the table -/
theorem half_step (v : BitVec 32) : half (v &&& 15#32).toNat ^^^ v >>> 4 = ones 4 v := by
  have e : v = (v &&& 15#32) ^^^ (v &&& ~~~15#32) := by
    apply BitVec.eq_of_getLsbD_eq
    intro i hi
    simp only [BitVec.getLsbD_xor, BitVec.getLsbD_and, BitVec.getLsbD_not, hi, decide_true, Bool.true_and]
    cases v.getLsbD i <;> cases (15#32).getLsbD i <;> rfl
  have hz : ∀ i, i < 4 → (v &&& ~~~15#32).getLsbD i = false := by
    intro i hi
    have : i = 0 ∨ i = 1 ∨ i = 2 ∨ i = 3 := by omega
    rcases this with rfl | rfl | rfl | rfl <;> simp
  have hs : (v &&& ~~~15#32) >>> 4 = v >>> 4 := by
    apply BitVec.eq_of_getLsbD_eq
    intro i hi
    simp only [BitVec.getLsbD_ushiftRight, BitVec.getLsbD_and, BitVec.getLsbD_not]
    by_cases h28 : 4 + i < 32
    · have : (15#32).getLsbD (4 + i) = false := by
        rw [BitVec.getLsbD_ofNat]
        have : Nat.testBit 15 (4 + i) = false := by
          apply Nat.testBit_lt_two_pow
          exact Nat.lt_of_lt_of_le (show 15 < 2 ^ 4 by decide) (Nat.pow_le_pow_right (by decide) (by omega))
        simp [this]
      rw [this]; simp only [Bool.not_false, Bool.and_true, decide_eq_true h28]
    · rw [BitVec.getLsbD_of_ge v _ (by omega)]; simp
  conv => rhs; rw [e, ones_xor, ones_shift 4 _ hz, hs]
  unfold half
  rw [BitVec.ofNat_toNat, BitVec.setWidth_eq]

/- words of the walk: its simp must not take them apart -/
/-- the lowest four bits -/
def low4 (v : BitVec 32) : Nat := (v &&& 15#32).toNat
/-- a word four places to the right -/
def shr4 (v : BitVec 32) : BitVec 32 := v >>> 4
/-- a byte laid over a word -/
def lay (v : BitVec 32) (b : UInt8) : BitVec 32 := v ^^^ b.toBitVec.setWidth 32
theorem low4_lt (v : BitVec 32) : low4 v < 16 := and15_lt v
theorem half_low (v : BitVec 32) : half (low4 v) ^^^ shr4 v = ones 4 v := half_step v

/-- a byte taken into a word -/
def step (v : BitVec 32) (b : UInt8) : BitVec 32 := ones 8 (v ^^^ b.toBitVec.setWidth 32)
theorem step_lay (v : BitVec 32) (b : UInt8) : ones 4 (ones 4 (lay v b)) = step v b := by
  rw [← ones_add]; rfl

theorem step_zero (v : BitVec 32) : step v 0 = ones 8 v := by
  unfold step
  have : (0 : UInt8).toBitVec.setWidth 32 = 0#32 := by decide
  rw [this]; simp

theorem step_xor (a b : BitVec 32) (x y : UInt8) : step (a ^^^ b) (x ^^^ y) = step a x ^^^ step b y := by
  unfold step
  rw [← ones_xor]
  have : (x ^^^ y).toBitVec.setWidth 32 = x.toBitVec.setWidth 32 ^^^ y.toBitVec.setWidth 32 := by simp
  rw [this]
  congr 1
  ac_rfl

/-- a row of bytes taken into a word -/
def row (v : BitVec 32) (l : List UInt8) : BitVec 32 := l.foldl step v

theorem row_nil (v : BitVec 32) : row v [] = v := rfl
theorem row_cons (v : BitVec 32) (b : UInt8) (l : List UInt8) : row v (b :: l) = row (step v b) l := rfl
theorem row_append (v : BitVec 32) (l m : List UInt8) : row v (l ++ m) = row (row v l) m := by simp [row, List.foldl_append]
theorem row_snoc (v : BitVec 32) (l : List UInt8) (b : UInt8) : row v (l ++ [b]) = step (row v l) b := by rw [row_append]; rfl

/-- so many zero bytes behind a word -/
def zeros (n : Nat) (v : BitVec 32) : BitVec 32 := ones (8 * n) v

theorem zeros_xor (n : Nat) (a b : BitVec 32) : zeros n (a ^^^ b) = zeros n a ^^^ zeros n b := ones_xor _ _ _
theorem zeros_zero (n : Nat) : zeros n 0#32 = 0#32 := ones_zero _
theorem zeros_add (n m : Nat) (v : BitVec 32) : zeros (n + m) v = zeros m (zeros n v) := by
  unfold zeros; rw [Nat.mul_add, Nat.add_comm, ones_add]
theorem zeros_succ (n : Nat) (v : BitVec 32) : zeros (n + 1) v = zeros n (step v 0) := by
  rw [Nat.add_comm, zeros_add, step_zero]; rfl

theorem row_split (l : List UInt8) (v : BitVec 32) : row v l = zeros l.length v ^^^ row 0#32 l := by
  induction l generalizing v with
  | nil => simp [row, zeros, ones]
  | cons b l ih =>
    rw [row_cons, row_cons, ih, ih (step 0#32 b), List.length_cons, zeros_succ]
    have : step v b = step v 0 ^^^ step 0#32 b := by rw [← step_xor]; simp
    rw [this, zeros_xor]
    ac_rfl

/-- all ones -/
def start : BitVec 32 := ~~~0#32
/-- a word turned over -/
def turned (v : BitVec 32) : BitVec 32 := ~~~v
/-- the sum of bytes -/
def crc (l : List UInt8) : BitVec 32 := turned (row start l)

theorem crc_nil : crc [] = 0#32 := by decide

theorem not_eq_xor (a : BitVec 32) : ~~~a = a ^^^ ~~~0#32 := by
  apply BitVec.eq_of_getLsbD_eq
  intro i hi
  rw [BitVec.getLsbD_xor, BitVec.getLsbD_not, BitVec.getLsbD_not, BitVec.getLsbD_zero]
  cases a.getLsbD i <;> simp [hi]

/-- P1.4: pieces -/
theorem crc_join (x y : List UInt8) : crc (x ++ y) = zeros y.length (crc x) ^^^ crc y := by
  unfold crc turned start
  rw [row_append, row_split y, row_split y (~~~0#32), not_eq_xor (row (~~~0#32) x), zeros_xor, not_eq_xor, not_eq_xor (zeros _ _ ^^^ row 0#32 y)]
  generalize zeros y.length (row (~~~0#32) x) = A
  generalize zeros y.length (~~~0#32) = B
  generalize row 0#32 y = C
  have : A ^^^ B ^^^ (B ^^^ C ^^^ ~~~0#32) = (B ^^^ B) ^^^ (A ^^^ C ^^^ ~~~0#32) := by ac_rfl
  rw [this, BitVec.xor_self, BitVec.zero_xor]

/-- rows of as many bytes: their difference -/
def diff : List UInt8 → List UInt8 → List UInt8
  | a :: l, b :: m => (a ^^^ b) :: diff l m
  | _, _ => []

theorem row_diff (l m : List UInt8) (h : l.length = m.length) (u v : BitVec 32) : row u l ^^^ row v m = row (u ^^^ v) (diff l m) := by
  induction l generalizing m u v with
  | nil => cases m with
    | nil => rfl
    | cons b m => simp at h
  | cons a l ih => cases m with
    | nil => simp at h
    | cons b m =>
      simp only [List.length_cons, Nat.add_right_cancel_iff] at h
      rw [row_cons, row_cons, ih m h, ← step_xor]; rfl

theorem crc_diff (l m : List UInt8) (h : l.length = m.length) : crc l ^^^ crc m = row 0#32 (diff l m) := by
  unfold crc turned start
  rw [not_eq_xor, not_eq_xor (row _ m)]
  have : row (~~~0#32) l ^^^ ~~~0#32 ^^^ (row (~~~0#32) m ^^^ ~~~0#32) = (row (~~~0#32) l ^^^ row (~~~0#32) m) ^^^ (~~~0#32 ^^^ ~~~0#32) := by ac_rfl
  rw [this, BitVec.xor_self, BitVec.xor_zero, row_diff l m h, BitVec.xor_self]

/-- P1.5: the middle. The bytes ahead and behind are the same. -/
theorem crc_middle (a was now c : List UInt8) (h : was.length = now.length) :
    crc (a ++ was ++ c) ^^^ zeros c.length (crc was ^^^ crc now) = crc (a ++ now ++ c) := by
  rw [crc_join (a ++ was), crc_join (a ++ now), crc_join a, crc_join a, h]
  simp only [zeros_xor]
  generalize zeros c.length (zeros now.length (crc a)) = A
  generalize zeros c.length (crc was) = B
  generalize zeros c.length (crc now) = C
  generalize crc c = D
  have : A ^^^ B ^^^ D ^^^ (B ^^^ C) = (B ^^^ B) ^^^ (A ^^^ C ^^^ D) := by ac_rfl
  rw [this, BitVec.xor_self, BitVec.zero_xor]

/- MATRICES -/
/-- the matrix of words, done to the word's lowest k bits -/
def app (m : Nat → BitVec 32) (v : BitVec 32) : Nat → BitVec 32
  | 0 => 0#32
  | k + 1 => if v.getLsbD k then app m v k ^^^ m k else app m v k

theorem app_congr {m m' : Nat → BitVec 32} (v : BitVec 32) (k : Nat) (h : ∀ i, i < k → m i = m' i) : app m v k = app m' v k := by
  induction k with
  | zero => rfl
  | succ k ih => simp only [app]; rw [ih (fun i hi => h i (by omega)), h k (by omega)]

theorem app_rest (m : Nat → BitVec 32) (v : BitVec 32) (j k : Nat) (h : ∀ i, j ≤ i → v.getLsbD i = false) (hjk : j ≤ k) : app m v k = app m v j := by
  induction k with
  | zero => have : j = 0 := by omega
            rw [this]
  | succ k ih =>
    by_cases hj : j = k + 1
    · rw [hj]
    · simp only [app]; rw [h k (by omega)]; simpa using ih (by omega)

theorem app_linear (f : BitVec 32 → BitVec 32) (h0 : f 0#32 = 0#32) (hx : ∀ a b, f (a ^^^ b) = f a ^^^ f b) (v : BitVec 32) (k : Nat) :
    app (fun i => f (1#32 <<< i)) v k = f (app (fun i => 1#32 <<< i) v k) := by
  induction k with
  | zero => exact h0.symm
  | succ k ih => simp only [app]; split <;> simp [ih, hx]

theorem app_bits (v : BitVec 32) (k : Nat) (hk : k ≤ 32) (j : Nat) : (app (fun i => 1#32 <<< i) v k).getLsbD j = (decide (j < k) && v.getLsbD j) := by
  induction k with
  | zero => simp [app]
  | succ k ih =>
    have ih := ih (by omega)
    have hs : (1#32 <<< k).getLsbD j = decide (j = k) := by
      rw [← BitVec.twoPow_eq, BitVec.getLsbD_twoPow]
      by_cases h : k = j
      · subst h; simp; omega
      · simp [h]; omega
    simp only [app]
    by_cases hjk : j = k
    · subst hjk
      cases hv : v.getLsbD j
      · simp [ih]
      · simp [ih, hs]
    · have : (decide (j < k + 1)) = decide (j < k) := by simp; omega
      rw [this]
      split
      · rw [BitVec.getLsbD_xor, ih, hs]; simp [hjk]
      · exact ih

theorem app_id (v : BitVec 32) : app (fun i => 1#32 <<< i) v 32 = v := by
  apply BitVec.eq_of_getLsbD_eq
  intro i hi
  rw [app_bits v 32 (by omega)]; simp [hi]

/-- a matrix of a linear map is that map -/
theorem app_map (f : BitVec 32 → BitVec 32) (h0 : f 0#32 = 0#32) (hx : ∀ a b, f (a ^^^ b) = f a ^^^ f b) (v : BitVec 32) : app (fun i => f (1#32 <<< i)) v 32 = f v := by
  rw [app_linear f h0 hx, app_id]

/-- a word so many places to the right, and its bits: names that the walk does not take apart -/
def shrk (v : BitVec 32) (k : Nat) : BitVec 32 := v >>> k
def bit (v : BitVec 32) (k : Nat) : Bool := v.getLsbD k
theorem shrk_zero (v : BitVec 32) : shrk v 0 = v := by simp [shrk]
theorem shrk_bit (v : BitVec 32) (k : Nat) : (shrk v k).getLsbD 0 = bit v k := by simp [shrk, bit]
theorem shrk_succ (v : BitVec 32) (k : Nat) : shrk v k >>> 1 = shrk v (k + 1) := by simp [shrk, BitVec.shiftRight_add]
theorem shrk_done (v : BitVec 32) (k : Nat) (h : shrk v k = 0#32) (m : Nat → BitVec 32) (hk : k ≤ 32) : app m v 32 = app m v k := by
  refine app_rest m v k 32 (fun i hi => ?_) hk
  have := congrArg (fun x : BitVec 32 => x.getLsbD (i - k)) h
  simp only [shrk, BitVec.getLsbD_ushiftRight, BitVec.getLsbD_zero] at this
  rwa [show k + (i - k) = i by omega] at this
theorem shrk_32 (v : BitVec 32) : shrk v 32 = 0#32 := by
  apply BitVec.eq_of_getLsbD_eq
  intro i hi
  simp [shrk]
theorem app_yes (m : Nat → BitVec 32) (v : BitVec 32) (k : Nat) (h : bit v k = true) : app m v (k + 1) = app m v k ^^^ m k := by simp [app, bit] at h ⊢; simp [h]
theorem app_no (m : Nat → BitVec 32) (v : BitVec 32) (k : Nat) (h : bit v k = false) : app m v (k + 1) = app m v k := by simp [app, bit] at h ⊢; simp [h]

/-- a single bit of a byte -/
def bit8 (k : Nat) : UInt8 := ⟨1#8 <<< k⟩
/-- a single bit -/
def unit (i : Nat) : BitVec 32 := 1#32 <<< i
/-- the matrix of so many zero bytes -/
def mat (n : Nat) (i : Nat) : BitVec 32 := zeros n (1#32 <<< i)
theorem app_mat (n : Nat) (v : BitVec 32) : app (mat n) v 32 = zeros n v := app_map (zeros n) (zeros_zero n) (zeros_xor n) v
theorem mat_one (i : Nat) : mat 1 i = step (unit i) 0 := by rw [step_zero]; rfl
theorem mat_square (n : Nat) (i : Nat) : app (mat n) (mat n i) 32 = mat (n + n) i := by
  rw [app_mat]; unfold mat; rw [zeros_add]

theorem double_mul (p c : Nat) : p * (c + c) = 2 * (p * c) := by rw [Nat.mul_add, Nat.two_mul]
theorem zeros_odd (q c : Nat) (x : BitVec 32) (h : q % 2 = 1) : zeros (q / 2 * (c + c)) (zeros c x) = zeros (q * c) x := by
  rw [← zeros_add]
  congr 1
  have hq : q = 2 * (q / 2) + 1 := by omega
  generalize q / 2 = p at *
  subst hq
  rw [Nat.add_mul, double_mul, Nat.one_mul, Nat.mul_assoc, Nat.add_comm]
theorem zeros_even (q c : Nat) (x : BitVec 32) (h : q % 2 = 0) : zeros (q / 2 * (c + c)) x = zeros (q * c) x := by
  congr 1
  have hq : q = 2 * (q / 2) := by omega
  generalize q / 2 = p at *
  subst hq
  rw [double_mul, Nat.mul_assoc]

/- BURSTS -/
/-- bits taken into a word, one by one -/
def bitsIn (v : BitVec 32) (l : List Bool) : BitVec 32 := l.foldl (fun v b => one (v ^^^ if b then 1#32 else 0#32)) v

theorem bitsIn_append (v : BitVec 32) (l m : List Bool) : bitsIn v (l ++ m) = bitsIn (bitsIn v l) m := by simp [bitsIn, List.foldl_append]
theorem bitsIn_cons (v : BitVec 32) (b : Bool) (l : List Bool) : bitsIn v (b :: l) = bitsIn (one (v ^^^ if b then 1#32 else 0#32)) l := rfl

theorem bitsIn_split (l : List Bool) (v : BitVec 32) : bitsIn v l = ones l.length v ^^^ bitsIn 0#32 l := by
  induction l generalizing v with
  | nil => simp [bitsIn, ones]
  | cons b l ih =>
    rw [bitsIn_cons, bitsIn_cons, ih, ih (one (0#32 ^^^ if b then 1#32 else 0#32)), List.length_cons]
    rw [one_xor, one_xor, ones_xor, ones_xor, one_zero, ones_zero, BitVec.zero_xor]
    show _ = ones l.length (one v) ^^^ _
    ac_rfl

theorem bitsIn_zeros (l : List Bool) (h : ∀ b ∈ l, b = false) (v : BitVec 32) : bitsIn v l = ones l.length v := by
  induction l generalizing v with
  | nil => rfl
  | cons b l ih =>
    have hb : b = false := h b (by simp)
    rw [bitsIn_cons, ih (fun c hc => h c (by simp [hc])), hb]
    simp [ones]

/-- a word whose lowest bits are these -/
def word : List Bool → BitVec 32
  | [] => 0#32
  | b :: l => (word l <<< 1) ^^^ (if b then 1#32 else 0#32)

theorem word_bits (l : List Bool) (hl : l.length ≤ 32) (j : Nat) : (word l).getLsbD j = l.getD j false := by
  induction l generalizing j with
  | nil => simp [word]
  | cons b l ih =>
    simp only [List.length_cons] at hl
    have ih := ih (by omega)
    simp only [word, BitVec.getLsbD_xor, BitVec.getLsbD_shiftLeft]
    cases j with
    | zero => cases b <;> simp
    | succ j =>
      by_cases hj : j + 1 < 32
      · have : (if b then 1#32 else 0#32).getLsbD (j + 1) = false := by cases b <;> simp
        rw [this]
        simp [hj, ih]
      · have hlt : l.length ≤ j := by omega
        simp [hj, List.getElem?_eq_none hlt]
        cases b <;> simp

theorem bitsIn_word (l : List Bool) (hl : l.length ≤ 32) : bitsIn 0#32 l = ones l.length (word l) := by
  induction l with
  | nil => rfl
  | cons b l ih =>
    simp only [List.length_cons] at hl
    rw [bitsIn_cons, bitsIn_split, ih (by omega), List.length_cons]
    show _ = ones l.length (one (word l <<< 1 ^^^ _))
    rw [one_xor, one_xor, ones_xor, ones_xor, one_zero, ones_zero, BitVec.zero_xor]
    have : one (word l <<< 1) = word l := by
      unfold one
      have h0 : (word l <<< 1).getLsbD 0 = false := by simp
      rw [h0]
      apply BitVec.eq_of_getLsbD_eq
      intro i hi
      simp only [Bool.false_eq_true, if_false, BitVec.getLsbD_ushiftRight, BitVec.getLsbD_shiftLeft]
      by_cases h31 : 1 + i < 32
      · simp [h31]
      · have : i = 31 := by omega
        subst this
        simp
        rw [← BitVec.getLsbD_eq_getElem]
        rw [word_bits l (by omega)]
        rw [List.getD_eq_getElem?_getD, List.getElem?_eq_none (by omega)]; rfl
    rw [this]
    exact BitVec.xor_comm _ _

/-- the bits of a byte, the lowest first -/
def bitsOf (b : UInt8) : List Bool := (List.range 8).map b.toBitVec.getLsbD

theorem step_bits (v : BitVec 32) (b : UInt8) : step v b = bitsIn v (bitsOf b) := by
  rw [bitsIn_split, bitsIn_word _ (by simp [bitsOf])]
  have e : word (bitsOf b) = b.toBitVec.setWidth 32 := by
    apply BitVec.eq_of_getLsbD_eq
    intro i hi
    rw [word_bits _ (by simp [bitsOf])]
    simp only [BitVec.getLsbD_setWidth, hi, decide_true, Bool.true_and]
    by_cases h8 : i < 8
    · simp [bitsOf, h8]
    · rw [BitVec.getLsbD_of_ge _ _ (by omega)]
      simp [bitsOf, h8]
  rw [e, show (bitsOf b).length = 8 by simp [bitsOf], ← ones_xor]
  rfl

theorem row_bits (l : List UInt8) (v : BitVec 32) : row v l = bitsIn v (l.flatMap bitsOf) := by
  induction l generalizing v with
  | nil => rfl
  | cons b l ih => rw [row_cons, ih, List.flatMap_cons, bitsIn_append, step_bits]

/-- P1.6: a row of bits of which only 32 that follow one another may be on comes to nothing only if none is on -/
theorem burst (l : List Bool) (at_ : Nat) (h : ∀ i, l.getD i false = true → at_ ≤ i ∧ i < at_ + 32) (hz : bitsIn 0#32 l = 0) : ∀ i, l.getD i false = false := by
  have e : l = l.take at_ ++ ((l.drop at_).take 32 ++ (l.drop at_).drop 32) := by rw [List.take_append_drop, List.take_append_drop]
  have z1 : ∀ b ∈ l.take at_, b = false := by
    intro b hb
    obtain ⟨i, hi, rfl⟩ := List.mem_iff_getElem.1 hb
    rw [List.getElem_take]
    cases hc : l[i]'(by simp at hi; omega) with
    | false => rfl
    | true =>
      have := h i (by rw [List.getD_eq_getElem?_getD, List.getElem?_eq_getElem (by simp at hi; omega)]; simpa using hc)
      simp at hi; omega
  have z3 : ∀ b ∈ (l.drop at_).drop 32, b = false := by
    intro b hb
    obtain ⟨i, hi, rfl⟩ := List.mem_iff_getElem.1 hb
    simp only [List.drop_drop, List.getElem_drop, List.length_drop] at hi ⊢
    cases hc : l[at_ + 32 + i]'(by omega) with
    | false => rfl
    | true =>
      have := h (at_ + 32 + i) (by rw [List.getD_eq_getElem?_getD, List.getElem?_eq_getElem (by omega)]; simpa using hc)
      omega
  rw [e, bitsIn_append, bitsIn_append, bitsIn_zeros _ z1, ones_zero, bitsIn_zeros _ z3, bitsIn_word _ (by simp; omega)] at hz
  have hw := ones_inj0 _ _ (ones_inj0 _ _ hz)
  have z2 : ∀ j, ((l.drop at_).take 32).getD j false = false := by
    intro j
    rw [← word_bits _ (by simp; omega), hw]; simp
  intro i
  cases hc : l.getD i false with
  | false => rfl
  | true =>
    have := h i hc
    have h2 := z2 (i - at_)
    rw [List.getD_eq_getElem?_getD, List.getElem?_take, if_pos (by omega), List.getElem?_drop, show at_ + (i - at_) = i by omega, ← List.getD_eq_getElem?_getD, hc] at h2
    exact h2

end Go.Proofs.YtimddchgmocdaaaDoor.Crc
