/-
  A SCOPE THROUGH WHICH THE RUN GOES WITHOUT A JUMP, INSIDE A FENCE.
-/
import Derived.ControlIn
import Derived.WalkMore
import Derived.RangeFuncNested
import Derived.Test.YtlpochabgdcidaaProg
import Derived.WideLaws
set_option linter.unusedVariables false
set_option linter.unusedSimpArgs false
namespace Go.Proofs.Ytlpochabgdcidaa

section
variable {P : Program} {b : Frame} {a : Act} {k : List Item} {cs : List Frame} {w : World}
theorem stepR_scope {c : Code} : step P (lone (b.atR a (.code (.scope c) :: k)) cs w) = .next (lone (b.atR a (.code c :: .inScope c :: k)) cs w) :=
  step_lone_go (by simp [stepG, stepG.exec, Frame.atR])
theorem stepR_inScope {c : Code} : step P (lone (b.atR a (.inScope c :: k)) cs w) = .next (lone (b.atR a k) cs w) :=
  step_lone_go (by simp [stepG, stepG.exec, Frame.atR])
end

theorem wpIn_scope_straight {F : Fence} {n : Nat} {P : Program} {Q : Exit → Act → World → Prop} {a : Act} {w : World} {c : Code} (h : c.wpIn F n P (Exit.noGoto Q) a w) : (Code.scope c).wpIn F n P Q a w := by
  intro b k cs hro hb hr
  have h0 : (lone (b.atR a (.code (.scope c) :: k)) cs w).fenced P F := fenced_calm hb hr rfl
  obtain ⟨e, a₁, w₁, hq, harr⟩ := h b (.inScope c :: k) cs hro hb hr
  cases e with
  | normal => exact ⟨.normal, a₁, w₁, hq, .head h0 stepR_scope (StepsIn.trans harr (.one (fenced_calm hb hr rfl) stepR_inScope))⟩
  | exit id =>
    have hx : exitTo id (.inScope c :: k) = exitTo id k := by simp [exitTo]
    exact ⟨.exit id, a₁, w₁, hq, fun k' hk => .head h0 stepR_scope (harr.1 k' (by rw [hx]; exact hk)),
      fun hr' hk => let ⟨k₁, h1, h2⟩ := harr.2 hr' (by rw [hx]; exact hk); ⟨k₁, h1, .head h0 stepR_scope h2⟩⟩
  | goto l => exact hq.elim
  | ret => exact ⟨_, a₁, w₁, hq, .of_steps (.one h0 stepR_scope) harr⟩
  | panic ch => exact ⟨_, a₁, w₁, hq, .of_steps (.one h0 stepR_scope) harr⟩
  | outgrown => exact ⟨_, a₁, w₁, hq, .of_steps (.one h0 stepR_scope) harr⟩

/-- an iterator is not nil -/
theorem underSeq : ∃ p r v, Try.prog.underlying 33 = some (.func p r v) := ⟨#[55], #[], false, by kernel_rfl⟩
theorem run_fnil_in (w : World) (d : Nat) (f : Fn) (r c : Array Value) : (Op.equalIn (d + 1) 33 (.func f r c) .nilFunc).run Try.prog w = .ok false w := by
  obtain ⟨p, r', v, hu⟩ := underSeq
  simp [Op.equalIn, hu]
theorem run_fnil (w : World) (f : Fn) (r c : Array Value) : (binOp .eql 33 (.func f r c) .nilFunc).run Try.prog w = .ok (.bool false) w := by
  have h := run_fnil_in w 9999 f r c
  show (do pure (.bool (← Op.equal 33 (.func f r c) .nilFunc)) : Sem Value).run Try.prog w = _
  rw [Sem.run_bind]
  show ((Op.equalIn (9999 + 1) 33 (.func f r c) .nilFunc).run Try.prog w).andThen _ = _
  rw [h]
  rfl
end Go.Proofs.Ytlpochabgdcidaa
