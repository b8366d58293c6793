/-
  THE LAW IN PLAIN LEAN: what a transaction holds against the store; the state between two jobs.
-/
import Derived.Test.YtimddchgmocdaaaDoorMe
set_option linter.unusedVariables false
set_option linter.unusedSimpArgs false
namespace Go.Proofs.YtimddchgmocdaaaDoor
open Go.RowKit Rec

/-- what a transaction holds behind some puts -/
def putP (m : Nat) (ps : List (Int × Int)) : Nat → Option (List UInt8) := ps.foldl (fun P p => fun j => if j = 98 + (p.1 % (m : Int)).toNat then some (filledB (p.2 % 1000).toNat) else P j) (fun _ => none)
theorem putP_snoc (m : Nat) (ps : List (Int × Int)) (p : Int × Int) : putP m (ps ++ [p]) = fun j => if j = 98 + (p.1 % (m : Int)).toNat then some (filledB (p.2 % 1000).toNat) else putP m ps j := by unfold putP; rw [List.foldl_append]; rfl
theorem snoc_rec {α : Type} {Pr : List α → Prop} (h0 : Pr []) (h1 : ∀ l x, Pr l → Pr (l ++ [x])) (l : List α) : Pr l := by
  have key : ∀ l : List α, Pr l.reverse := fun l => by
    induction l with
    | nil => exact h0
    | cons x l ih => rw [List.reverse_cons]; exact h1 _ _ ih
  rw [← List.reverse_reverse l]
  exact key _
theorem put_blk (m : Nat) (hm : 1 ≤ m) (is : List Int) (hl : is.length = m) (ps : List (Int × Int)) : ∀ k (hk : k < m), (putP m ps (98 + k)).getD (blk (is.getD k 0)) = blk ((putS m is ps).getD k 0) := by
  refine snoc_rec (Pr := fun ps => ∀ k (hk : k < m), (putP m ps (98 + k)).getD (blk (is.getD k 0)) = blk ((putS m is ps).getD k 0)) (fun k hk => rfl) (fun ps p ih => ?_) ps
  · intro k hk
    rw [putP_snoc, putS_snoc]
    have h0 := Int.emod_nonneg p.1 (show (m : Int) ≠ 0 by omega)
    have h1 := Int.emod_lt_of_pos p.1 (show (0 : Int) < (m : Int) by omega)
    have hlen : (putS m is ps).length = m := by rw [putS_length, hl]
    have h2 := Int.emod_nonneg p.2 (show (1000 : Int) ≠ 0 by decide)
    show (if 98 + k = 98 + (p.1 % (m : Int)).toNat then some (filledB (p.2 % 1000).toNat) else putP m ps (98 + k)).getD (blk (is.getD k 0)) = _
    by_cases e : 98 + k = 98 + (p.1 % (m : Int)).toNat
    · have e2 : k = (p.1 % (m : Int)).toNat := by omega
      rw [if_pos e]
      have hset : ((putS m is ps).set (p.1 % (m : Int)).toNat (p.2 % 1000)).getD k 0 = p.2 % 1000 := by
        rw [e2, List.getD_eq_getElem?_getD, List.getElem?_set_self (by rw [hlen]; omega), Option.getD_some]
      rw [hset, Option.getD_some]
      unfold blk
      rw [if_pos h2]
    · rw [if_neg e, ih k hk]
      rw [List.getD_eq_getElem?_getD, List.getD_eq_getElem?_getD, List.getElem?_set_ne (by omega)]
/-- the blocks of a store -/
def oldf (is : List Int) (j : Nat) : List UInt8 := blk (is.getD (j - 98) 0)
theorem rest_holds {N m : Nat} {is : List Int} {D : Dk} (hl : is.length = m) (hN : 98 + m = N) (hp : D.pend = []) (h : Tx.Rest N (oldf is) D.lasts) : Holds is D := fun k hk => by
  rw [Dk.read_quiet hp, h.2.2 (98 + k) (by omega) (by omega)]
  unfold oldf
  rw [show 98 + k - 98 = k by omega, List.getD_eq_getElem?_getD, List.getElem?_eq_getElem hk]
  rfl
theorem holds_rest {N m : Nat} {is : List Int} {D : Dk} (hl : is.length = m) (hN : 98 + m = N) (hp : D.pend = []) (hlen : D.lasts.length = N) (h1 : D.lasts.getD 1 [] = Tx.zero) (h : Holds is D) : Tx.Rest N (oldf is) D.lasts :=
  ⟨hlen, h1, fun j h2 h3 => by
    have := h (j - 98) (by omega)
    rw [Dk.read_quiet hp, show 98 + (j - 98) = j by omega] at this
    rw [this]
    unfold oldf
    rw [List.getD_eq_getElem?_getD, List.getElem?_eq_getElem (by omega)]
    rfl⟩
theorem lastOf_one (ws : List (Nat × List UInt8)) (b : List UInt8) (j : Nat) (l : List UInt8) (hin : (j, l) ∈ ws) (hall : ∀ x ∈ ws, x.1 = j → x.2 = l) : lastOf b ws j = l := by
  induction ws generalizing b with
  | nil => cases hin
  | cons x ws ih =>
    show lastOf (if x.1 = j then x.2 else b) ws j = l
    by_cases hmem : ∃ y ∈ ws, y.1 = j
    · obtain ⟨y, hy, hyj⟩ := hmem
      have : (j, l) ∈ ws := by
        have := hall y (List.mem_cons_of_mem _ hy) hyj
        rw [← hyj, ← this]; exact hy
      exact ih _ this (fun z hz => hall z (List.mem_cons_of_mem _ hz))
    · rw [lastOf_out _ _ _ (fun y hy e => hmem ⟨y, hy, e⟩)]
      rcases List.mem_cons.1 hin with h | h
      · rw [← h]; simp
      · exact absurd ⟨_, h, rfl⟩ hmem
theorem puts_last {N : Nat} {P : Nat → Option (List UInt8)} {ws : List (Nat × List UInt8)} (h : Puts N P ws) (b : List UInt8) (j : Nat) : lastOf b ws j = (P j).getD b := by
  cases hP : P j with
  | none => exact lastOf_out _ _ _ (fun x hx e => by have := h.all x hx; rw [e, hP] at this; cases this)
  | some l => exact lastOf_one ws b j l (h.each j l hP) (fun x hx e => by have := h.all x hx; rw [e, hP] at this; injection this with this; exact this.symm)
/-- the transaction of a job -/
def jobTx (N : Nat) (is : List Int) (ws : List (Nat × List UInt8)) : Tx := ⟨N, Hd.made (ws.map (·.1)) (ws.map (·.2)), ws, oldf is⟩
theorem job_made {N : Nat} {is : List Int} {P : Nat → Option (List UInt8)} {ws : List (Nat × List UInt8)} (h : Puts N P ws) (hN : 98 ≤ N) (h1 : 1 ≤ ws.length) : Made (jobTx N is ws) := ⟨hN, h.rise, h1, h.len, rfl⟩
theorem job_new {N m : Nat} {is : List Int} {ps : List (Int × Int)} {ws : List (Nat × List UInt8)} (hm : 1 ≤ m) (hl : is.length = m) (hN : 98 + m = N) (h : Puts N (putP m ps) ws) (j : Nat) (h1 : 98 ≤ j) (h2 : j < N) : (jobTx N is ws).new j = oldf (putS m is ps) j := by
  show lastOf (oldf is j) ws j = _
  rw [puts_last h]
  have := put_blk m hm is hl ps (j - 98) (by omega)
  rw [show 98 + (j - 98) = j by omega] at this
  exact this
theorem rest_congr {N : Nat} {f g : Nat → List UInt8} {L : List (List UInt8)} (h : Tx.Rest N f L) (e : ∀ j, 98 ≤ j → j < N → f j = g j) : Tx.Rest N g L := ⟨h.1, h.2.1, fun j h1 h2 => (h.2.2 j h1 h2).trans (e j h1 h2)⟩
/-- how a commit ends -/
theorem commit_ends {N m : Nat} {is : List Int} {ps : List (Int × Int)} {ws : List (Nat × List UInt8)} {D : Dk} (hm : 1 ≤ m) (hl : is.length = m) (hN : 98 + m = N) (h : Puts N (putP m ps) ws) (hd : D.down = false) (hp : D.pend = []) (hr : Tx.Rest N (oldf is) D.lasts) :
    (D.does (csteps ws)).1.n ≤ D.n + 300 ∧ (D.does (csteps ws)).1.pend = [] ∧ (D.does (csteps ws)).1.lasts.length = N ∧
    (((D.does (csteps ws)).2 = 0 ∧ (D.does (csteps ws)).1.down = false ∧ Tx.Rest N (oldf (putS m is ps)) (D.does (csteps ws)).1.lasts ∧ (D.left = 0 → (D.does (csteps ws)).1.left = 0)) ∨
     ((D.does (csteps ws)).2 = 30 ∧ (D.does (csteps ws)).1.down = true ∧ 1 ≤ ws.length ∧ (jobTx N is ws).Mid (D.does (csteps ws)).1.lasts ∧ D.left ≠ 0)) := by
  by_cases h0 : ws.length = 0
  · have e : csteps ws = [] := by unfold csteps; rw [if_pos h0]
    have hws : ws = [] := List.eq_nil_of_length_eq_zero h0
    rw [e]
    refine ⟨by show D.n ≤ _; omega, hp, hr.1, .inl ⟨rfl, hd, rest_congr hr (fun j h1 h2 => ?_), fun h => h⟩⟩
    rw [← job_new hm hl hN h j h1 h2, hws]
    rfl
  · have e : csteps ws = Tx.whole (jobTx N is ws).H (jobTx N is ws).ws := by unfold csteps; rw [if_neg h0]; rfl
    have hM := job_made (is := is) h (by omega) (by omega)
    have hE := Tx.whole_ends hM.ok D hd hp hr
    rw [e]
    have hf : (jobTx N is ws).ws.length ≤ 96 := h.rise.few
    refine ⟨by have := hE.n; omega, hE.pend, ?_, hE.ends.imp (fun ⟨a1, a2, a3, a4⟩ => ⟨a1, a2, rest_congr a3 (fun j h1 h2 => job_new hm hl hN h j h1 h2), a4⟩) (fun ⟨a1, a2, a3, a4⟩ => ⟨a1, a2, by omega, a3, a4⟩)⟩
    rcases hE.ends with ⟨_, _, q, _⟩ | ⟨_, _, q, _⟩
    · exact q.1
    · exact mid_len q
/-- the disk between two jobs -/
structure Calm (N : Nat) (is : List Int) (D : Dk) : Prop where
  down : D.down = false
  pend : D.pend = []
  left : D.left = 0
  rest : Tx.Rest N (oldf is) D.lasts
structure Job where
  puts : List (Int × Int)
  lets : Bool
  at_ : Int
  keep : List Bool
  again : List (Int × List Bool)
structure JobOk (j : Job) : Prop where
  puts : PutsOk j.puts
  pl : j.puts.length ≤ 140737488355328
  at_ : j.at_ ≤ 9223372036854775807
  kl : j.keep.length ≤ 140737488355328
  al : j.again.length ≤ 140737488355328
  again : ∀ c ∈ j.again, CutOk c
end Go.Proofs.YtimddchgmocdaaaDoor
