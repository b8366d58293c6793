/-
  WHAT RecTexts STANDS ON: texts put between bytes; the calls with their answers named.
-/
import Derived.Test.YtnknoikmleiopaaDoorRecBackL
import Derived.Test.YtnknoikmleiopaaDoorRecR3
set_option linter.unusedVariables false
set_option linter.unusedSimpArgs false
namespace Go.Proofs.YtnknoikmleiopaaDoor
open Go.RowKit Rec

/-- the bytes that are not zero -/
def nz (s : List UInt8) : List UInt8 := s.filter (· != 0)
theorem nz_le (s : List UInt8) : (nz s).length ≤ s.length := (List.filter_sublist).length_le
theorem nz_snoc (s : List UInt8) (k : Nat) (h : k < s.length) (hz : s[k] ≠ 0) : nz (s.take (k + 1)) = nz (s.take k) ++ [s[k]] := by
  rw [take_snoc s k h]; unfold nz; rw [List.filter_append]; simp [hz]
theorem nz_skip (s : List UInt8) (k : Nat) (h : k < s.length) (hz : s[k] = 0) : nz (s.take (k + 1)) = nz (s.take k) := by
  rw [take_snoc s k h]; unfold nz; rw [List.filter_append]; simp [hz]
theorem nz_mem (s : List UInt8) (x : UInt8) (h : x ∈ nz s) : x ≠ 0 := by
  have := (List.mem_filter.1 h).2
  simpa using this
/-- no zero byte in it -/
def Full (L : List UInt8) : Prop := ∀ x ∈ L, x ≠ 0
theorem Full.ahead {L : List UInt8} (h : Full L) : Rec.ahead L = L.length := ahead_all L fun j hj => h _ (List.getElem_mem hj)
theorem Full.ahead_zero {L R : List UInt8} (h : Full L) (r : UInt8) (hr : r = 0) : Rec.ahead (L ++ r :: R) = L.length :=
  ahead_at (L ++ r :: R) L.length (by simp) (fun j hj => by rw [List.getElem_append_left hj]; exact h _ (List.getElem_mem hj)) (by simp [hr])
theorem Full.ahead_zeros {L : List UInt8} (h : Full L) (M : Nat) : Rec.ahead (L ++ List.replicate M 0) = L.length := by
  cases M with
  | zero => simpa using h.ahead
  | succ M => rw [List.replicate_succ]; exact h.ahead_zero 0 rfl
theorem Full.take {L : List UInt8} (h : Full L) (k : Nat) : Full (L.take k) := fun x hx => h x (List.mem_of_mem_take hx)

theorem text_part (l : List UInt8) (at_ n : Int) (q : List UInt8) (hn : 0 ≤ n) (hl : lies l.length at_ n = true) (hp : Rec.part l at_ n = q) :
    textE l at_ n = (if Rec.zeros (q.drop (Rec.ahead q)) = false then 1 else 0) ∧ textV l at_ n = (if Rec.zeros (q.drop (Rec.ahead q)) = false then [] else q.take (Rec.ahead q)) := by
  have h1 : textE l at_ n = if Rec.zeros (q.drop (Rec.ahead q)) = false then 1 else 0 := by
    unfold textE
    rw [if_neg (by omega), if_neg (by rw [hl]; simp), hp]
  refine ⟨h1, ?_⟩
  unfold textV
  rw [h1, hp]
  cases Rec.zeros (q.drop (Rec.ahead q)) <;> simp
theorem zeros_rep (M : Nat) : Rec.zeros (List.replicate M 0) = true := zeros_all _ fun j hj => by simp
theorem part_of (P q Z : List UInt8) (p n : Nat) (hp : P.length = p) (hn : q.length = n) : lies (P ++ q ++ Z).length p n = true ∧ Rec.part (P ++ q ++ Z) p n = q := by
  subst hp
  subst hn
  exact ⟨lies_mid P q Z, part_mid P q Z⟩
theorem text_mid (P L Z : List UInt8) (M p n : Nat) (hf : Full L) (hp : P.length = p) (hn : L.length + M = n) :
    textE (P ++ (L ++ List.replicate M 0) ++ Z) p n = 0 ∧ textV (P ++ (L ++ List.replicate M 0) ++ Z) p n = L := by
  obtain ⟨h1, h2⟩ := part_of P (L ++ List.replicate M 0) Z p n hp (by simpa using hn)
  obtain ⟨h3, h4⟩ := text_part _ p n _ (by omega) h1 h2
  rw [hf.ahead_zeros, List.drop_left, zeros_rep] at h3 h4
  rw [List.take_left] at h4
  exact ⟨h3, h4⟩
theorem text_pre (P L R Z : List UInt8) (p k : Nat) (hf : Full L) (hp : P.length = p) (hk : k ≤ L.length) : textE (P ++ (L ++ R) ++ Z) p k = 0 ∧ textV (P ++ (L ++ R) ++ Z) p k = L.take k := by
  have e : P ++ (L ++ R) ++ Z = P ++ (L.take k) ++ (L.drop k ++ R ++ Z) := by
    conv => lhs; rw [← List.take_append_drop k L]
    simp only [List.append_assoc]
  rw [e]
  have h := text_mid P (L.take k) (L.drop k ++ R ++ Z) 0 p k (hf.take k) hp (by simp; omega)
  simpa using h
theorem text_bad (P L Z : List UInt8) (M p n : Nat) (hf : Full L) (hp : P.length = p) (hM : 0 < M) (hn : L.length + M + 1 = n) : textE (P ++ (L ++ List.replicate M 0 ++ [1]) ++ Z) p n = 1 := by
  obtain ⟨h1, h2⟩ := part_of P (L ++ List.replicate M 0 ++ [1]) Z p n hp (by simp; omega)
  obtain ⟨h3, h4⟩ := text_part _ p n _ (by omega) h1 h2
  rw [h3]
  obtain ⟨M', rfl⟩ : ∃ M', M = M' + 1 := ⟨M - 1, by omega⟩
  have ha : Rec.ahead (L ++ List.replicate (M' + 1) 0 ++ [1]) = L.length := by
    rw [List.append_assoc, List.replicate_succ, List.cons_append]
    exact hf.ahead_zero 0 rfl
  rw [ha, List.append_assoc, List.drop_left]
  rw [zeros_not _ (M' + 1) (by simp) (by simp)]
  rfl
theorem zero_mid (P L Z : List UInt8) (M p n : Nat) (hp : P.length + L.length = p) (hn : M = n) : zeroV (P ++ (L ++ List.replicate M 0) ++ Z) p n = true ∧ zeroE (P ++ (L ++ List.replicate M 0) ++ Z).length p n = 0 := by
  have e : P ++ (L ++ List.replicate M 0) ++ Z = (P ++ L) ++ List.replicate M 0 ++ Z := by simp only [List.append_assoc]
  obtain ⟨h1, h2⟩ := part_of (P ++ L) (List.replicate M 0) Z p n (by simpa using hp) (by simpa using hn)
  rw [e]
  unfold zeroV zeroE
  rw [if_neg (by omega), if_neg (by rw [h1]; simp), if_neg (by omega), if_neg (by rw [h1]; simp), h2, zeros_rep]
  exact ⟨rfl, rfl⟩
theorem putText_mid (P q L Z : List UInt8) (M p n : Nat) (hf : Full L) (hp : P.length = p) (hq : q.length = n) (hn : L.length + M = n) :
    putTextE (P ++ q ++ Z).length p n L = 0 ∧ putTextL (P ++ q ++ Z) p n L = P ++ (L ++ List.replicate M 0) ++ Z := by
  obtain ⟨h1, h2⟩ := part_of P q Z p n hp hq
  have h0 : putTextE (P ++ q ++ Z).length p n L = 0 := by
    unfold putTextE
    rw [if_neg (by rw [hf.ahead]; omega), if_neg (by rw [h1]; simp)]
  refine ⟨h0, ?_⟩
  unfold putTextL
  rw [if_pos h0]
  subst hp
  have e : (n : Int).toNat - L.length = M := by omega
  rw [e]
  exact spliced_mid P q Z _ (by simp; omega)
theorem set_mid (P L Z : List UInt8) (M i : Nat) (hi : P.length + L.length + M = i) : (P ++ (L ++ List.replicate (M + 1) 0) ++ Z).set i 1 = P ++ (L ++ List.replicate M 0 ++ [1]) ++ Z := by
  have e : P ++ (L ++ List.replicate (M + 1) 0) ++ Z = (P ++ L ++ List.replicate M 0) ++ ((0 : UInt8) :: Z) := by
    rw [List.replicate_succ']; simp only [List.append_assoc, List.cons_append, List.nil_append]
  rw [e, List.set_append_right _ _ (by simp; omega)]
  have : i - (P ++ L ++ List.replicate M 0).length = 0 := by simp; omega
  rw [this]
  simp [List.append_assoc]

/-- PutText, its answer named -/
theorem putText_to (base : Nat) (A : Option Addr) (cap : Nat) (l : List UInt8) (len : Nat) (hl : l.length = len) (at_ n : Int) (s : List UInt8) (E : Int) (L : List UInt8) (hE : putTextE l.length at_ n s = E) (hL : putTextL l at_ n s = L)
    (w : World) (hM : Mine w base A cap l) (hbw : base ≤ w.heap.size) (hm : len ≤ 140737488355328) (hs : s.length ≤ 140737488355328) (h0 : -9223372036854775808 ≤ at_) (h1 : at_ ≤ 9223372036854775807) :
    Calls Tryd.prog 15 #[.slice A len cap, .int .i64 at_, .int .i64 n, .string ⟨s.toArray⟩] w fun e w' => e = .returned (.int .i64 E) ∧ Mine w' base A cap L ∧ Keeps (Of A) w w' := by
  subst hl
  subst hE
  subst hL
  refine (putText_any base A cap l [] at_ n s w (by rw [List.append_nil]; exact hM) hbw hm hs h0 h1).mono ?_
  rintro e w' ⟨rfl, h2, h3⟩
  rw [List.append_nil] at h2
  exact ⟨rfl, h2, Keeps.of_mine hM h3⟩
theorem putTextL_same (l : List UInt8) (at_ n : Int) (s : List UInt8) (h : putTextE l.length at_ n s ≠ 0) : putTextL l at_ n s = l := by unfold putTextL; rw [if_neg h]
/-- Text, its answer named -/
theorem text_to (A : Option Addr) (cap : Nat) (l : List UInt8) (len : Nat) (hl : l.length = len) (at_ n : Int) (V : List UInt8) (E : Int) (hE : textE l at_ n = E) (hV : textV l at_ n = V)
    (w : World) (hb : Bytes w A l) (hcl : len ≤ cap) (hm : len ≤ 140737488355328) (h0 : -9223372036854775808 ≤ at_) (h1 : at_ ≤ 9223372036854775807) :
    Calls Tryd.prog 10 #[.slice A len cap, .int .i64 at_, .int .i64 n] w fun e w' => e = .returned (.tuple #[.string ⟨V.toArray⟩, .int .i64 E]) ∧ Below w.heap.size w w' := by
  subst hl
  subst hE
  subst hV
  exact text_any A cap l at_ n w hb hcl hm h0 h1
/-- Zero, its answer named -/
theorem zero_to (A : Option Addr) (cap : Nat) (l : List UInt8) (len : Nat) (hl : l.length = len) (at_ n : Int) (V : Bool) (E : Int) (hV : zeroV l at_ n = V) (hE : zeroE l.length at_ n = E)
    (w : World) (hb : Bytes w A l) (hcl : len ≤ cap) (hm : len ≤ 140737488355328) (h0 : -9223372036854775808 ≤ at_) (h1 : at_ ≤ 9223372036854775807) :
    Calls Tryd.prog 16 #[.slice A len cap, .int .i64 at_, .int .i64 n] w fun e w' => e = .returned (.tuple #[.bool V, .int .i64 E]) ∧ w = w' := by
  subst hl
  subst hE
  subst hV
  exact zero_any A cap l at_ n w hb hcl hm h0 h1
theorem bytes_lit {w : World} {g : Nat} {l : List UInt8} (h : Bytes w (some ⟨g, 0, none⟩) l) (f : Nat) : Bytes w (some ⟨g, f, none⟩) (l.drop f) := by
  rcases h with rfl | ⟨b, off, e, hc⟩
  · exact .inl (by simp)
  · injection e with e
    injection e with e1 e2
    subst e1
    subst e2
    refine .inr ⟨g, f, rfl, fun k hk => ?_⟩
    have := hc (f + k) (by simp at hk; omega)
    rw [Nat.zero_add] at this
    rw [List.getElem_drop]
    exact this
theorem str_cat (L : List UInt8) (x : UInt8) : (⟨L.toArray⟩ : ByteArray) ++ ⟨#[x]⟩ = ⟨(L ++ [x]).toArray⟩ := by
  apply ByteArray.ext
  simp [ByteArray.data_append]
end Go.Proofs.YtnknoikmleiopaaDoor
