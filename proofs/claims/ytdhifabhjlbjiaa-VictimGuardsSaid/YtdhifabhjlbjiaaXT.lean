/- What lists of leases are, as data. -/
import Derived.Test.YtdhifabhjlbjiaaQJ
import Derived.Test.YtdhifabhjlbjiaaMVall
set_option linter.all false
namespace Go.Idl
open Go.Proofs
set_option linter.unusedSimpArgs false
set_option linter.unusedVariables false
set_option maxRecDepth 8000
theorem list8 {α : Type} {l : List α} (h : l.length = 8) : ∃ a b c d e f g i, l = [a, b, c, d, e, f, g, i] := by
  match l, h with
  | [a, b, c, d, e, f, g, i], _ => exact ⟨a, b, c, d, e, f, g, i, rfl⟩
theorem c4 : Try.prog.cellsOf 4 = 1 := by kernel_rfl
theorem c48 : Try.prog.cellsOf 48 = 1 := by kernel_rfl
theorem c86 : Try.prog.cellsOf 86 = 8 := by kernel_rfl
theorem b86 : Try.prog.bytesOf 86 = 80 := by kernel_rfl
structure Le.ok (x : Le) : Prop where
  t : In64 x.t
  q : In64 x.q
  n : In64 x.n
  m : In64 x.m
  s : In64 x.s
  u : In64 x.u
  len : x.cs.length ≤ maxLen
  bytes : x.cs.length * 8 ≤ reachBytes
  cs : ∀ c ∈ x.cs, In64 c
theorem tyd_ints {n : Nat} {ds : List D} (h : TyD Try.prog (n + 2) 48 ds) : ∃ l : List Int, ds = [.sl false 1 (l.map fun n => .int .i64 n)] ∧ l.length ≤ maxLen ∧ l.length * 8 ≤ reachBytes ∧ ∀ c ∈ l, In64 c := by
  unfold TyD at h; rw [Try.underlying48] at h
  obtain ⟨xs, rfl, h1, h2, h3⟩ := h
  rw [c3, b3] at *
  obtain ⟨l, rfl, hl⟩ := all_enc (enc := fun n : Int => (.int .i64 n : D)) (p := In64) (T := fun y => TyV Try.prog (n + 1) 3 y) (fun x hx => by
    obtain ⟨m, e, w⟩ := ty_int Try.underlying3 hx
    exact ⟨m, e, wf_in w⟩) xs (fun y hy => by
    obtain ⟨_, a, b, c⟩ := h3 y hy
    exact ⟨a, b, c⟩)
  exact ⟨l, rfl, by simpa using h1, by simpa using h2, hl⟩
theorem ty_l {n : Nat} {x : D} (h : TyV Try.prog (n + 3) 86 x) : ∃ y : Le, x = encLe y ∧ y.ok := by
  obtain ⟨cs, rfl, h1, h2⟩ := ty_agg Try.underlying86 h
  rw [c86] at h1
  obtain ⟨x1, x2, x3, x4, x5, x6, x7, x8, rfl⟩ := list8 h1
  simp [c2, c3, c4, c48] at h2
  obtain ⟨k1, k2, k3, k4, k5, k6, k7, k8⟩ := h2
  obtain ⟨a1, e1, w1⟩ := tyd_int Try.underlying3 k1
  obtain ⟨a2, e2, w2⟩ := tyd_int Try.underlying3 k2
  obtain ⟨a3, e3, w3⟩ := tyd_int Try.underlying3 k3
  obtain ⟨l, e4, w4, w5, w6⟩ := tyd_ints k4
  obtain ⟨a5, e5, w7⟩ := tyd_int Try.underlying2 k5
  obtain ⟨a6, e6, w8⟩ := tyd_int Try.underlying2 k6
  obtain ⟨a7, e7, w9⟩ := tyd_int Try.underlying2 k7
  obtain ⟨a8, e8⟩ := tyd_bool Try.underlying4 k8
  simp at e1 e2 e3 e4 e5 e6 e7 e8
  subst e1; subst e2; subst e3; subst e4; subst e5; subst e6; subst e7; subst e8
  exact ⟨⟨a1, a2, a3, l, a5, a6, a7, a8⟩, rfl, ⟨wf_in w1, wf_in w2, wf_in w3, wf_in w7, wf_in w8, wf_in w9, w4, w5, w6⟩⟩
theorem ty_ls {n : Nat} {x : D} (h : TyV Try.prog (n + 4) 25 x) : ∃ l : List Le, x = encLs false l ∧ l.length ≤ maxLen ∧ l.length * 80 ≤ reachBytes ∧ ∀ y ∈ l, y.ok := by
  obtain ⟨xs, rfl, h1, h2, h3⟩ := ty_slice Try.underlying25 h
  rw [c86, b86] at *
  obtain ⟨l, rfl, hl⟩ := all_enc (enc := encLe) (p := Le.ok) (T := fun y => TyV Try.prog (n + 3) 86 y) (fun x hx => ty_l hx) xs h3
  exact ⟨l, rfl, by simpa using h1, by simpa using h2, hl⟩
end Go.Idl
