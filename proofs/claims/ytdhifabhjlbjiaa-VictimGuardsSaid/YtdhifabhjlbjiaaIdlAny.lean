/- Operations in each order that may be: the states that are met, each once. -/
import Derived.Test.YtdhifabhjlbjiaaIdlThree
set_option linter.all false
namespace Go.Idl
section
variable {P : Program}
def anyLB (P : Program) (next : List Bool → St → Prop) (done : List Bool) (s : St) : Nat → List (SOp × List Nat) → Prop
  | _, [] => True
  | i, (o, pm) :: r => (bif !(done.getD i false) && pm.all (fun j => done.getD j false) then sOps P [o] s (fun s' => next (done.set i true) s') else True) ∧ anyLB P next done s (i + 1) r
/-- the same as anyGo; what is done is told place by place, that like states be alike -/
def anyGoB (P : Program) (ops : List (SOp × List Nat)) (K : St → Prop) : Nat → List Bool → St → Prop
  | 0, _, s => K s
  | n + 1, done, s => anyLB P (anyGoB P ops K n) done s 0 ops
theorem ag_zero {ops : List (SOp × List Nat)} {K : St → Prop} {done : List Bool} {tm : List V} {hp : List IObj} {nb : Nat} : anyGoB P ops K 0 done ⟨tm, hp, nb⟩ = K ⟨tm, hp, nb⟩ := rfl
theorem ag_succ {ops : List (SOp × List Nat)} {K : St → Prop} {n : Nat} {done : List Bool} {tm : List V} {hp : List IObj} {nb : Nat} : anyGoB P ops K (n + 1) done ⟨tm, hp, nb⟩ = anyLB P (anyGoB P ops K n) done ⟨tm, hp, nb⟩ 0 ops := rfl
theorem al_nil {next : List Bool → St → Prop} {done : List Bool} {s : St} {i : Nat} : anyLB P next done s i [] = True := rfl
theorem al_cons {next : List Bool → St → Prop} {done : List Bool} {s : St} {i : Nat} {o : SOp} {pm : List Nat} {r : List (SOp × List Nat)} : anyLB P next done s i ((o, pm) :: r) = ((if (!(done.getD i false) && pm.all (fun j => done.getD j false)) = true then sOps P [o] s (fun s' => next (done.set i true) s') else True) ∧ anyLB P next done s (i + 1) r) := by
  simp only [anyLB]
  cases (!(done.getD i false) && pm.all (fun j => done.getD j false)) <;> rfl
theorem anyGo_eqB {ops : List (SOp × List Nat)} {K : St → Prop} : ∀ (n : Nat) (ds : List Nat) (B : List Bool), B.length = ops.length → (∀ j, ds.contains j = B.getD j false) → anyGo P ops K n ds = anyGoB P ops K n B
  | 0, _, _, _, _ => rfl
  | n + 1, ds, B, hB, h => by
    funext s
    simp only [anyGo, anyGoB]
    have key : ∀ (r : List (SOp × List Nat)) (i : Nat), i + r.length = ops.length → anyL P (anyGo P ops K n) ds s i r = anyLB P (anyGoB P ops K n) B s i r := by
      intro r
      induction r with
      | nil => intro i _; rfl
      | cons x r ih =>
        intro i hi
        obtain ⟨o, pm⟩ := x
        simp only [List.length_cons] at hi
        have e1 : pm.all (fun j => ds.contains j) = pm.all (fun j => B.getD j false) := by
          congr 1; funext j; exact h j
        have e2 : (fun s' => anyGo P ops K n (i :: ds) s') = fun s' => anyGoB P ops K n (B.set i true) s' := by
          rw [anyGo_eqB n (i :: ds) (B.set i true) (by simpa using hB) fun j => ?_]
          rw [List.contains_cons, h j]
          simp only [List.getD_eq_getElem?_getD, List.getElem?_set]
          by_cases e : i = j
          · subst e
            have : i < B.length := by omega
            simp [this]
          · have : (j == i) = false := by simpa using fun e' => e e'.symm
            simp [e, this]
        simp only [anyL, anyLB]
        rw [h i, e1, e2, ih (i + 1) (by omega)]
    exact key ops 0 (by omega)
theorem anyGo_B {ops : List (SOp × List Nat)} {K : St → Prop} {n : Nat} {s : St} (h : anyGoB P ops K n (List.replicate ops.length false) s) : anyGo P ops K n [] s := by
  rw [anyGo_eqB n [] (List.replicate ops.length false) (by simp) fun j => ?_]
  · exact h
  · simp [List.getElem?_replicate]
    split <;> simp
/-- the same behind free operations -/
theorem anyGo_U {ops : List (SOp × List Nat)} {K : St → Prop} {n m : Nat} {s : St} (h : anyGoB P ops K n (List.replicate m true ++ List.replicate (ops.length - m) false) s) (hm : m ≤ ops.length) : anyGo P ops K n (upto m) s := by
  rw [anyGo_eqB n (upto m) (List.replicate m true ++ List.replicate (ops.length - m) false) (by simp; omega) fun j => ?_]
  · exact h
  · rw [Bool.eq_iff_iff]
    simp only [List.contains_eq_mem, decide_eq_true_eq, upto_mem, List.getD_eq_getElem?_getD, List.getElem?_append, List.getElem?_replicate, List.length_replicate]
    by_cases e : j < m
    · simp [e]
    · simp only [e, if_false, false_iff]
      split <;> simp
theorem any_endU {ops : List (SOp × List Nat)} {K : St → Prop} {n m : Nat} {s : St} (e : St) (hm : m ≤ ops.length) (h : ∀ K0 : St → Prop, K0 e → anyGoB P ops K0 n (List.replicate m true ++ List.replicate (ops.length - m) false) s) (hk : K e) : anyGo P ops K n (upto m) s := anyGo_U (h K hk) hm
/-- all orders end in one state -/
theorem any_end {ops : List (SOp × List Nat)} {K : St → Prop} {n : Nat} {s : St} (e : St) (h : ∀ K0 : St → Prop, K0 e → anyGoB P ops K0 n (List.replicate ops.length false) s) (hk : K e) : anyGo P ops K n [] s := anyGo_B (h K hk)
end
end Go.Idl
