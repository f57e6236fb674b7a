/- A scope through which the run goes without a jump. -/
import Derived.Test.YtdhifabhjlbjiaaIdlAny
set_option linter.all false
namespace Go.Idl
section
variable {P : Program} {b : Frame} {a : Act} {k : List Item} {cs : List Frame} {w : World} {F : Fence} {n : Nat}
theorem stepR_scope {c : Code} : step P (lone (b.atR a (.code (.scope c) :: k)) cs w) = .next (lone (b.atR a (.code c :: .inScope c :: k)) cs w) :=
  step_lone_go (by simp [stepG, stepG.exec, Frame.atR])
theorem stepR_inScope {c : Code} : step P (lone (b.atR a (.inScope c :: k)) cs w) = .next (lone (b.atR a k) cs w) :=
  step_lone_go (by simp [stepG, stepG.exec, Frame.atR])
def noG (Q : Exit → Act → World → Prop) : Exit → Act → World → Prop
  | .goto _, _, _ => False
  | e, a, w => Q e a w
theorem wpIn_scope {Q : Exit → Act → World → Prop} {c : Code} (h : c.wpIn F n P (noG Q) a w) : (Code.scope c).wpIn F n P Q a w := by
  intro b k cs hro hb hr
  have h0 : (lone (b.atR a (.code (.scope c) :: k)) cs w).fenced P F := fenced_calm hb hr rfl
  obtain ⟨e, a₁, w₁, hq, harr⟩ := h b (.inScope c :: k) cs hro hb hr
  cases e with
  | normal => exact ⟨.normal, a₁, w₁, hq, .head h0 stepR_scope (StepsIn.trans harr (.one (fenced_calm hb hr rfl) stepR_inScope))⟩
  | exit id' =>
    have hx : exitTo id' (.inScope c :: k) = exitTo id' k := by simp [exitTo]
    exact ⟨.exit id', a₁, w₁, hq, fun k' hk => .head h0 stepR_scope (harr.1 k' (by rw [hx]; exact hk)),
      fun hr' hk => let ⟨k₁, h1, h2⟩ := harr.2 hr' (by rw [hx]; exact hk); ⟨k₁, h1, .head h0 stepR_scope h2⟩⟩
  | goto l => exact hq.elim
  | ret => exact ⟨_, a₁, w₁, hq, .of_steps (.one h0 stepR_scope) harr⟩
  | panic ch => exact ⟨_, a₁, w₁, hq, .of_steps (.one h0 stepR_scope) harr⟩
  | outgrown => exact ⟨_, a₁, w₁, hq, .of_steps (.one h0 stepR_scope) harr⟩
end
section
variable {P : Program} {s : St}
def noGK (Q : Ex → St → Prop) (e : Ex) (s : St) : Prop := match e with
  | .goto _ => False
  | e => Q e s
@[simp] theorem ng_normal {Q : Ex → St → Prop} : noGK Q .normal s = Q .normal s := rfl
@[simp] theorem ng_ret {Q : Ex → St → Prop} : noGK Q .ret s = Q .ret s := rfl
@[simp] theorem ng_exit {Q : Ex → St → Prop} {id : Nat} : noGK Q (.exit id) s = Q (.exit id) s := rfl
theorem scope_sem {c : Code} {Q : Ex → St → Prop} (h : SemC P c (noGK Q) s) : SemC P (.scope c) Q s := by
  intro κ a w hr
  refine wpIn_scope (wpIn_mono (h κ a w hr) ?_)
  rintro e a' w' ⟨e', s', rfl, h1, h2⟩
  cases e' with
  | normal => exact ⟨.normal, s', rfl, h1, h2⟩
  | exit i => exact ⟨.exit i, s', rfl, h1, h2⟩
  | goto l => exact h1.elim
  | ret => exact ⟨.ret, s', rfl, h1, h2⟩
/-- a scope, stripped -/
theorem scopeS (H M : List (Nat × Nat)) (hmo : P.follows .mixedOrders = true) {c : Code} {Q : Ex → St → Prop} (hd : drawsOK M c = true) (h : eK P (stripC H M c) (noGK Q) s) : SemC P (.scope c) Q s := scope_sem (e_sound hmo _ _ _ hd h)
end
end Go.Idl
