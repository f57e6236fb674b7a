/- What the arguments of the statements on queues are, as data: lists of queues, of uses, of numbers; amounts; numbers. -/
import Derived.Test.YtdhifabhjlbjiaaQF
import Derived.Test.YtdhifabhjlbjiaaMQall
set_option linter.all false
namespace Go.Idl
open Go.Proofs
set_option linter.unusedSimpArgs false
set_option linter.unusedVariables false
set_option maxRecDepth 8000

theorem flat_one {x : D} (h : ∀ cs, x ≠ .agg cs) : x.flat = [x] := by cases x <;> first | rfl | exact absurd rfl (h _)
theorem tyd_int {P : Program} {n : Nat} {t : TypeId} {k : IntKind} {ds : List D} (hu : P.underlying t = some (.int k)) (h : TyD P (n + 1) t ds) : ∃ m, ds = [.int k m] ∧ (Lit.int k m).wf = true := by
  unfold TyD at h; rw [hu] at h; exact h
theorem tyd_bool {P : Program} {n : Nat} {t : TypeId} {ds : List D} (hu : P.underlying t = some .bool) (h : TyD P (n + 1) t ds) : ∃ m, ds = [.bool m] := by
  unfold TyD at h; rw [hu] at h; exact h
theorem ty_int {P : Program} {n : Nat} {t : TypeId} {k : IntKind} {x : D} (hu : P.underlying t = some (.int k)) (h : TyV P (n + 1) t x) : ∃ m, x = .int k m ∧ (Lit.int k m).wf = true := by
  obtain ⟨_, h2, h3⟩ := h
  have hs : isStruct P t = false := by unfold isStruct; rw [hu]
  obtain ⟨m, e, hm⟩ := tyd_int hu h3
  rw [flat_one (h2 hs)] at e
  exact ⟨m, by simpa using e, hm⟩
theorem ty_slice {P : Program} {n : Nat} {t e : TypeId} {x : D} (hu : P.underlying t = some (.slice e)) (h : TyV P (n + 1) t x) :
    ∃ xs, x = .sl false (P.cellsOf e) xs ∧ xs.length ≤ maxLen ∧ xs.length * P.bytesOf e ≤ reachBytes ∧ ∀ y ∈ xs, TyV P n e y := by
  obtain ⟨_, h2, h3⟩ := h
  have hs : isStruct P t = false := by unfold isStruct; rw [hu]
  unfold TyD at h3; rw [hu] at h3
  obtain ⟨xs, e1, h4, h5, h6⟩ := h3
  rw [flat_one (h2 hs)] at e1
  refine ⟨xs, by simpa using e1, h4, h5, fun y hy => ?_⟩
  obtain ⟨_, a, b, c⟩ := h6 y hy
  exact ⟨a, b, c⟩
theorem ty_agg {P : Program} {n : Nat} {t : TypeId} {fs : Array Field} {x : D} (hu : P.underlying t = some (.struct fs)) (h : TyV P (n + 1) t x) :
    ∃ cs, x = .agg cs ∧ cs.length = P.cellsOf t ∧ ∀ f ∈ fs.toList, TyD P n f.type ((cs.drop f.offset).take (P.cellsOf f.type)) := by
  obtain ⟨h1, _, h3⟩ := h
  have hs : isStruct P t = true := by unfold isStruct; rw [hu]
  obtain ⟨cs, rfl⟩ := h1 hs
  unfold TyD at h3; rw [hu] at h3
  exact ⟨cs, rfl, h3.1, h3.2⟩
theorem list2 {α : Type} {l : List α} (h : l.length = 2) : ∃ a b, l = [a, b] := by
  match l, h with
  | [a, b], _ => exact ⟨a, b, rfl⟩
theorem list3 {α : Type} {l : List α} (h : l.length = 3) : ∃ a b c, l = [a, b, c] := by
  match l, h with
  | [a, b, c], _ => exact ⟨a, b, c, rfl⟩
theorem list7 {α : Type} {l : List α} (h : l.length = 7) : ∃ a b c d e f g, l = [a, b, c, d, e, f, g] := by
  match l, h with
  | [a, b, c, d, e, f, g], _ => exact ⟨a, b, c, d, e, f, g, rfl⟩
theorem c2 : Try.prog.cellsOf 2 = 1 := by kernel_rfl
theorem c3 : Try.prog.cellsOf 3 = 1 := by kernel_rfl
theorem c41 : Try.prog.cellsOf 41 = 2 := by kernel_rfl
theorem c43 : Try.prog.cellsOf 43 = 7 := by kernel_rfl
theorem c69 : Try.prog.cellsOf 69 = 3 := by kernel_rfl
theorem b3 : Try.prog.bytesOf 3 = 8 := by kernel_rfl
theorem b43 : Try.prog.bytesOf 43 = 56 := by kernel_rfl
theorem b69 : Try.prog.bytesOf 69 = 24 := by kernel_rfl
theorem wf_in {m : Int} (h : (Lit.int .i64 m).wf = true) : In64 m := by
  have e1 : IntKind.i64.signed = true := rfl
  have e2 : IntKind.i64.bits = 64 := rfl
  simp [Lit.wf, IntKind.min, IntKind.max, e1, e2] at h
  exact h
theorem tyd_vec {n : Nat} {ds : List D} (h : TyD Try.prog (n + 2) 41 ds) : ∃ a b, ds = [I a, I b] ∧ In64 a ∧ In64 b := by
  unfold TyD at h; rw [Try.underlying41] at h
  obtain ⟨h1, h2⟩ := h
  rw [c41] at h1
  obtain ⟨x, y, rfl⟩ := list2 h1
  simp [c2] at h2
  obtain ⟨h3, h4⟩ := h2
  obtain ⟨a, e1, w1⟩ := tyd_int Try.underlying2 h3
  obtain ⟨b, e2, w2⟩ := tyd_int Try.underlying2 h4
  simp at e1 e2; subst e1; subst e2
  exact ⟨a, b, rfl, wf_in w1, wf_in w2⟩
theorem ty_q {n : Nat} {x : D} (h : TyV Try.prog (n + 3) 43 x) : ∃ q : Q, x = encQ q ∧ q.ok := by
  obtain ⟨cs, rfl, h1, h2⟩ := ty_agg Try.underlying43 h
  rw [c43] at h1
  obtain ⟨x1, x2, x3, x4, x5, x6, x7, rfl⟩ := list7 h1
  simp [c2, c3, c41] at h2
  obtain ⟨k1, k2, k3, k4, k5⟩ := h2
  obtain ⟨a1, e1, w1⟩ := tyd_int Try.underlying3 k1
  obtain ⟨a2, e2, w2⟩ := tyd_int Try.underlying3 k2
  obtain ⟨a3, e3, w3⟩ := tyd_int Try.underlying2 k3
  obtain ⟨a4, a5, e4, w4, w5⟩ := tyd_vec k4
  obtain ⟨a6, a7, e6, w6, w7⟩ := tyd_vec k5
  simp at e1 e2 e3 e4 e6
  obtain ⟨rfl, rfl⟩ := e4
  obtain ⟨rfl, rfl⟩ := e6
  subst e1; subst e2; subst e3
  exact ⟨⟨a1, a2, a3, a4, a5, a6, a7⟩, rfl, ⟨wf_in w1, wf_in w2, wf_in w3, w4, w5, w6, w7⟩⟩
theorem ty_u {n : Nat} {x : D} (h : TyV Try.prog (n + 3) 69 x) : ∃ u : U, x = encU u ∧ In64 u.q ∧ In64 u.c ∧ In64 u.m := by
  obtain ⟨cs, rfl, h1, h2⟩ := ty_agg Try.underlying69 h
  rw [c69] at h1
  obtain ⟨x1, x2, x3, rfl⟩ := list3 h1
  simp [c2, c3, c41] at h2
  obtain ⟨k1, k2⟩ := h2
  obtain ⟨a1, e1, w1⟩ := tyd_int Try.underlying3 k1
  obtain ⟨a2, a3, e2, w2, w3⟩ := tyd_vec k2
  simp at e1 e2
  obtain ⟨rfl, rfl⟩ := e2
  subst e1
  exact ⟨⟨a1, a2, a3⟩, rfl, wf_in w1, w2, w3⟩
theorem all_enc {α : Type} {enc : α → D} {p : α → Prop} {T : D → Prop} (ht : ∀ x, T x → ∃ a, x = enc a ∧ p a) : ∀ (xs : List D), (∀ x ∈ xs, T x) → ∃ l : List α, xs = l.map enc ∧ ∀ a ∈ l, p a
  | [], _ => ⟨[], rfl, by simp⟩
  | x :: xs, h => by
    obtain ⟨a, rfl, ha⟩ := ht x (h x (by simp))
    obtain ⟨l, rfl, hl⟩ := all_enc ht xs fun y hy => h y (by simp [hy])
    exact ⟨a :: l, rfl, by
      intro b hb
      rcases List.mem_cons.1 hb with rfl | hb
      · exact ha
      · exact hl b hb⟩
abbrev encUs (b : Bool) (l : List U) : D := .sl b 3 (l.map encU)
theorem ty_qs {n : Nat} {x : D} (h : TyV Try.prog (n + 4) 22 x) : ∃ l : List Q, x = encL false l ∧ l.length ≤ maxLen ∧ l.length * 56 ≤ reachBytes ∧ ∀ q ∈ l, q.ok := by
  obtain ⟨xs, rfl, h1, h2, h3⟩ := ty_slice Try.underlying22 h
  obtain ⟨l, rfl, hl⟩ := all_enc (fun x hx => ty_q hx) xs h3
  rw [b43] at h2
  exact ⟨l, by rw [c43], by simpa using h1, by simpa using h2, hl⟩
theorem ty_us {n : Nat} {x : D} (h : TyV Try.prog (n + 4) 60 x) : ∃ l : List U, x = encUs false l ∧ l.length ≤ maxLen ∧ l.length * 24 ≤ reachBytes ∧ ∀ u ∈ l, In64 u.q ∧ In64 u.c ∧ In64 u.m := by
  obtain ⟨xs, rfl, h1, h2, h3⟩ := ty_slice Try.underlying60 h
  obtain ⟨l, rfl, hl⟩ := all_enc (fun x hx => ty_u hx) xs h3
  rw [b69] at h2
  exact ⟨l, by rw [c69], by simpa using h1, by simpa using h2, hl⟩
theorem own : ownKnob Try.prog.godebug = none := by kernel_rfl
theorem laid : laidOutB Try.prog = true := by kernel_rfl
end Go.Idl
