/-
  THE WALK OF wal.Recover: its deferred closure finds no panic.
-/
import Derived.Test.YtimddchgmocdaaaDoorWc
import Derived.Defers
import Derived.Recover
set_option linter.unusedVariables false
set_option linter.unusedSimpArgs false
namespace Go.Proofs.YtimddchgmocdaaaDoor
open Go.RowKit Rec

section
variable {P : Program} {Q : Exit → Act → List Frame → World → Prop} {a : Act} {cs : List Frame} {w : World}
theorem wpS_draw {id : Nat} {ops : Array Oper} (h : ∀ t, wpOpsS P ops Q (Region.schedule (P.follows .mixedOrders) ops t) a cs { w with drawn := w.drawn + 1 }) : (Code.region id ops true).wpS P Q a cs w :=
  fun b k hb hr => let ⟨e, a', cs', w', q, r⟩ := wp_opsS _ a cs _ (h _) b k hb hr; ⟨e, a', cs', w', q, .of_steps (.one step_region_draw) r⟩
theorem go_one (ops : Array Oper) (fuel t : Nat) (listed : Array Bool) (acc rs : List Nat) (i : Nat) (h : Region.ready .any ops listed = rs) (hi : rs[t % rs.length]? = some i) :
    Region.linearise.go .any ops (fuel + 1) t listed acc = Region.linearise.go .any ops fuel (t / rs.length) (listed.setIfInBounds i true) (i :: acc) := by
  simp only [Region.linearise.go]
  change (match (Region.ready .any ops listed)[t % (Region.ready .any ops listed).length]? with
      | some i => Region.linearise.go .any ops fuel (t / (Region.ready .any ops listed).length) (listed.setIfInBounds i true) (i :: acc)
      | none => acc.reverse) = _
  rw [h, hi]
theorem one_of (t i : Nat) : [i][t % [i].length]? = some i := by simp [Nat.mod_one]
theorem sched4 (ops : Array Oper) (hs : ops.size = 4) (r0 : Region.ready .any ops #[false, false, false, false] = [0, 1]) (r1 : Region.ready .any ops #[true, false, false, false] = [1]) (r2 : Region.ready .any ops #[false, true, false, false] = [0])
    (r3 : Region.ready .any ops #[true, true, false, false] = [2]) (r4 : Region.ready .any ops #[true, true, true, false] = [3]) (t : Nat) : Region.schedule true ops t = [0, 1, 2, 3] ∨ Region.schedule true ops t = [1, 0, 2, 3] := by
  have e : Region.schedule true ops t = Region.linearise.go .any ops 4 t #[false, false, false, false] [] := by
    simp only [Region.schedule, Bool.true_or, if_true, Region.linearise, hs]
    rfl
  rw [e]
  rcases Nat.mod_two_eq_zero_or_one t with h | h
  · left
    rw [go_one ops 3 t _ _ _ 0 r0 (by show [0, 1][t % 2]? = _; rw [h]; rfl)]
    rw [show (#[false, false, false, false] : Array Bool).setIfInBounds 0 true = #[true, false, false, false] from rfl]
    rw [go_one ops 2 _ _ _ _ 1 r1 (one_of _ _), show (#[true, false, false, false] : Array Bool).setIfInBounds 1 true = #[true, true, false, false] from rfl]
    rw [go_one ops 1 _ _ _ _ 2 r3 (one_of _ _), show (#[true, true, false, false] : Array Bool).setIfInBounds 2 true = #[true, true, true, false] from rfl]
    rw [go_one ops 0 _ _ _ _ 3 r4 (one_of _ _)]
    rfl
  · right
    rw [go_one ops 3 t _ _ _ 1 r0 (by show [0, 1][t % 2]? = _; rw [h]; rfl)]
    rw [show (#[false, false, false, false] : Array Bool).setIfInBounds 1 true = #[false, true, false, false] from rfl]
    rw [go_one ops 2 _ _ _ _ 0 r2 (one_of _ _), show (#[false, true, false, false] : Array Bool).setIfInBounds 0 true = #[true, true, false, false] from rfl]
    rw [go_one ops 1 _ _ _ _ 2 r3 (one_of _ _), show (#[true, true, false, false] : Array Bool).setIfInBounds 2 true = #[true, true, true, false] from rfl]
    rw [go_one ops 0 _ _ _ _ 3 r4 (one_of _ _)]
    rfl
theorem wpS_sched4 (ops : Array Oper) (t : Nat) (hs : ops.size = 4) (r0 : Region.ready .any ops #[false, false, false, false] = [0, 1]) (r1 : Region.ready .any ops #[true, false, false, false] = [1]) (r2 : Region.ready .any ops #[false, true, false, false] = [0])
    (r3 : Region.ready .any ops #[true, true, false, false] = [2]) (r4 : Region.ready .any ops #[true, true, true, false] = [3]) (h1 : wpOpsS P ops Q [0, 1, 2, 3] a cs w) (h2 : wpOpsS P ops Q [1, 0, 2, 3] a cs w) : wpOpsS P ops Q (Region.schedule true ops t) a cs w := by
  rcases sched4 ops hs r0 r1 r2 r3 r4 t with h | h <;> rw [h]
  · exact h1
  · exact h2
end
theorem caught_nil (x : Int) (w : World) : Calls Tryd.prog 41 #[.nilIface, .int .i64 x] w fun e w' => e = .returned (.int .i64 x) ∧ w = w' := by
  go_enter Tryd.func41, Tryd.ntmps41
  go_wp2_with fail
  go_ret
  exact ⟨rfl, rfl⟩
theorem recover1_idle (p : Addr) (x : Int) (w : World) (hc : w.cell? p = some (.int .i64 x)) (hz : w.frozen? p = false) :
    CallsD Tryd.prog 40 #[.pointer (some p)] .returning w fun e u' w' => e = .returned (.tuple #[]) ∧ u' = .returning ∧ w' = w.drew.setCell p (.int .i64 x) := by
  refine callsD_of_wpS Tryd.func40 rfl fun c₀ cs hu => ?_
  refine wpS_draw fun t => ?_
  rw [show Tryd.prog.follows .mixedOrders = true from by kernel_rfl]
  have hcd : w.drew.cell? p = some (.int .i64 x) := hc
  have hzd : w.drew.frozen? p = false := hz
  refine wpS_sched4 _ t (by rfl) (by kernel_rfl) (by kernel_rfl) (by kernel_rfl) (by kernel_rfl) (by kernel_rfl) ?_ ?_
  · simp [wpOpsS, go_sem, recoverD, hu, Tryd.ntmps40, hc, hz]
    refine (caught_nil x w.drew).mono ?_
    rintro e w2 ⟨rfl, rfl⟩
    simp [go_sem, hc, hz, bodyPostS, results, Tryd.results40]

    cases c₀
    simp_all
  · simp [wpOpsS, go_sem, recoverD, hu, Tryd.ntmps40, hc, hz]
    refine (caught_nil x w.drew).mono ?_
    rintro e w2 ⟨rfl, rfl⟩
    simp [go_sem, hc, hz, bodyPostS, results, Tryd.results40]
    cases c₀
    simp_all
end Go.Proofs.YtimddchgmocdaaaDoor
