/- Leases as plain data: what leaves use by them. No program here. -/
import Derived.Test.YtdhifabhjlbjiaaMQall
set_option linter.all false
namespace Go.Idl
set_option linter.unusedSimpArgs false
set_option linter.unusedVariables false

/-- a lease -/
structure Le where
  t : Int
  q : Int
  n : Int
  cs : List Int
  m : Int
  s : Int
  u : Int
  st : Bool
@[simp] def encLe (x : Le) : D := .agg [.int .i64 x.t, .int .i64 x.q, .int .i64 x.n, .sl false 1 (x.cs.map fun n => .int .i64 n), .int .i64 x.m, .int .i64 x.s, .int .i64 x.u, .bool x.st]
abbrev encLs (b : Bool) (l : List Le) : D := .sl b 8 (l.map encLe)
def okLe (x : Le) : Bool := decide (x.cs.length ≤ 64) && decide (0 ≤ x.m) && decide (x.m ≤ 1099511627776)
theorem okLe_iff {x : Le} : okLe x = true ↔ x.cs.length ≤ 64 ∧ 0 ≤ x.m ∧ x.m ≤ 1099511627776 := by simp [okLe, and_assoc]
def cpuOf (q : Int) (x : Le) : Int := if x.q = q then (x.cs.length : Int) else 0
def memOf (q : Int) (x : Le) : Int := if x.q = q then x.m else 0
/-- what the leases of a queue use together -/
def sumL (ls : List Le) (q : Int) : Int × Int := (sumI (cpuOf q) ls, sumI (memOf q) ls)
theorem sumL_snoc (ls : List Le) (x : Le) (q : Int) : sumL (ls ++ [x]) q = if x.q = q then ((sumL ls q).1 + x.cs.length, (sumL ls q).2 + x.m) else sumL ls q := by
  unfold sumL
  rw [sumI_snoc, sumI_snoc]
  unfold cpuOf memOf
  split <;> simp
theorem sumL_nonneg {ls : List Le} (h : ∀ x ∈ ls, okLe x = true) (q : Int) : 0 ≤ (sumL ls q).1 ∧ 0 ≤ (sumL ls q).2 := by
  refine ⟨sumI_nonneg fun x hx => ?_, sumI_nonneg fun x hx => ?_⟩
  · unfold cpuOf; split <;> omega
  · have := okLe_iff.1 (h x hx)
    unfold memOf; split <;> omega

/-! ### the program's way: an assoc list -/
def lookA : List (Int × Int × Int) → Int → Int × Int
  | [], _ => (0, 0)
  | p :: r, q => if p.1 = q then p.2 else lookA r q
def putA : List (Int × Int × Int) → Int → Int × Int → List (Int × Int × Int)
  | [], q, v => [(q, v)]
  | p :: r, q, v => if p.1 = q then (q, v) :: r else p :: putA r q v
def idxA : List (Int × Int × Int) → Int → Nat
  | [], _ => 0
  | p :: r, q => if p.1 = q then 0 else idxA r q + 1
theorem lookA_put (q : Int) (v : Int × Int) : ∀ (A : List (Int × Int × Int)) (x : Int), lookA (putA A q v) x = if q = x then v else lookA A x
  | [], x => by simp [putA, lookA]
  | p :: r, x => by
    have ih := lookA_put q v r x
    unfold putA
    split
    · rename_i h
      unfold lookA
      by_cases e : q = x
      · simp [e]
      · simp [e, h]
    · rename_i h
      unfold lookA
      by_cases e : p.1 = x
      · simp [e]
        intro e2; subst e2; exact absurd e h
      · rw [if_neg e, if_neg e, ih]
theorem keys_put (q : Int) (v : Int × Int) : ∀ (A : List (Int × Int × Int)), (putA A q v).map (·.1) = if q ∈ A.map (·.1) then A.map (·.1) else A.map (·.1) ++ [q]
  | [] => by simp [putA]
  | p :: r => by
    have ih := keys_put q v r
    unfold putA
    by_cases h : p.1 = q
    · simp [h]
    · rw [if_neg h, List.map_cons, ih]
      have : ¬ q = p.1 := fun e => h e.symm
      by_cases e : q ∈ r.map (·.1)
      · rw [if_pos e, if_pos (by simp only [List.map_cons, List.mem_cons]; exact .inr e)]; rfl
      · rw [if_neg e, if_neg (by simp only [List.map_cons, List.mem_cons, this, false_or]; exact e)]; rfl
theorem len_put (q : Int) (v : Int × Int) (A : List (Int × Int × Int)) : (putA A q v).length = if q ∈ A.map (·.1) then A.length else A.length + 1 := by
  have h := congrArg List.length (keys_put q v A)
  rw [List.length_map] at h
  rw [h]
  split <;> simp
theorem lookA_mem {P : Int × Int → Prop} (h0 : P (0, 0)) : ∀ {A : List (Int × Int × Int)}, (∀ p ∈ A, P p.2) → ∀ q, P (lookA A q)
  | [], _, _ => h0
  | p :: r, h, q => by
    unfold lookA
    split
    · exact h p (by simp)
    · exact lookA_mem h0 (fun x hx => h x (by simp [hx])) q
theorem put_mem {P : Int × Int → Prop} {q : Int} {v : Int × Int} (hv : P v) : ∀ {A : List (Int × Int × Int)}, (∀ p ∈ A, P p.2) → ∀ p ∈ putA A q v, P p.2
  | [], _, p, hp => by simp [putA] at hp; subst hp; exact hv
  | a :: r, h, p, hp => by
    unfold putA at hp
    split at hp
    · rcases List.mem_cons.1 hp with rfl | hp
      · exact hv
      · exact h p (by simp [hp])
    · rcases List.mem_cons.1 hp with rfl | hp
      · exact h _ (by simp)
      · exact put_mem hv (fun x hx => h x (by simp [hx])) p hp

def nextV (A : List (Int × Int × Int)) (x : Le) : Int × Int := ((lookA A x.q).1 + x.cs.length, (lookA A x.q).2 + x.m)
def stepA (s : List (Int × Int × Int) × Bool) (x : Le) : List (Int × Int × Int) × Bool :=
  if good (nextV s.1 x).1 (nextV s.1 x).2 = true then (putA s.1 x.q (nextV s.1 x), s.2) else (putA s.1 x.q (lookA s.1 x.q), true)
def runA (ls : List Le) : List (Int × Int × Int) × Bool := ls.foldl stepA ([], false)
theorem runA_snoc (ls : List Le) (x : Le) : runA (ls ++ [x]) = stepA (runA ls) x := by simp [runA]
theorem runA_take {ls : List Le} {i : Nat} (h : i < ls.length) : runA (ls.take (i + 1)) = stepA (runA (ls.take i)) ls[i] := by
  rw [List.take_add_one, List.getElem?_eq_getElem h, Option.toList_some, runA_snoc]

/-- induction from behind -/
theorem snoc_ind {α : Type} {p : List α → Prop} (h0 : p []) (h1 : ∀ l x, p l → p (l ++ [x])) : ∀ l, p l := by
  intro l
  have key : ∀ n (l : List α), l.length = n → p l := by
    intro n
    induction n with
    | zero => intro l hl; rw [List.length_eq_zero_iff.1 hl]; exact h0
    | succ n ih =>
      intro l hl
      have hne : l ≠ [] := by rintro rfl; simp at hl
      rw [← List.dropLast_concat_getLast hne]
      exact h1 _ _ (ih _ (by simp [hl]))
  exact key _ l rfl
structure RunOK (ls : List Le) : Prop where
  nodup : ((runA ls).1.map (·.1)).Nodup
  mem : ∀ q, q ∈ (runA ls).1.map (·.1) ↔ ∃ x ∈ ls, x.q = q
  vals : ∀ p ∈ (runA ls).1, goodP p.2 = true
  len : (runA ls).1.length ≤ ls.length
  sums : (runA ls).2 = false → ∀ q, lookA (runA ls).1 q = sumL ls q
  over : (runA ls).2 = true → ∃ x ∈ ls, goodP (sumL ls x.q) = false
theorem good_zero : goodP (0, 0) = true := by decide
theorem run_ok : ∀ (ls : List Le), (∀ x ∈ ls, okLe x = true) → RunOK ls := by
  refine snoc_ind (fun _ => ⟨List.nodup_nil, fun q => by simp [runA], by simp [runA], by simp [runA], fun _ q => rfl, by simp [runA]⟩) ?_
  intro ls x ih hok
  have hok' : ∀ y ∈ ls, okLe y = true := fun y hy => hok y (by simp [hy])
  obtain ⟨g1, g2, g3, g4, g5, g6⟩ := ih hok'
  have hx := okLe_iff.1 (hok x (by simp))
  have hkeys : ∀ v, (putA (runA ls).1 x.q v).map (·.1) = if x.q ∈ (runA ls).1.map (·.1) then (runA ls).1.map (·.1) else (runA ls).1.map (·.1) ++ [x.q] := fun v => keys_put _ _ _
  have hlk : goodP (lookA (runA ls).1 x.q) = true := lookA_mem (P := fun v => goodP v = true) good_zero g3 _
  have common : ∀ v, ((putA (runA ls).1 x.q v).map (·.1)).Nodup ∧ (∀ q, q ∈ (putA (runA ls).1 x.q v).map (·.1) ↔ ∃ y ∈ ls ++ [x], y.q = q) ∧ (putA (runA ls).1 x.q v).length ≤ (ls ++ [x]).length := fun v => by
    refine ⟨?_, fun q => ?_, ?_⟩
    · rw [hkeys]
      split
      · exact g1
      · rename_i h
        exact List.nodup_append.2 ⟨g1, by simp, fun a ha b hb e => by simp at hb; subst hb; subst e; exact h ha⟩
    · have e1 : (∃ y ∈ ls ++ [x], y.q = q) ↔ (∃ y ∈ ls, y.q = q) ∨ x.q = q := by
        constructor
        · rintro ⟨y, hy, e⟩
          rcases List.mem_append.1 hy with hy | hy
          · exact .inl ⟨y, hy, e⟩
          · simp at hy; subst hy; exact .inr e
        · rintro (⟨y, hy, e⟩ | e)
          · exact ⟨y, by simp [hy], e⟩
          · exact ⟨x, by simp, e⟩
      rw [e1, ← g2 q, hkeys]
      split
      · rename_i h
        constructor
        · exact .inl
        · rintro (h2 | rfl)
          · exact h2
          · exact h
      · rw [List.mem_append]
        simp [eq_comm]
    · rw [len_put]; split <;> simp <;> omega
  rw [show RunOK (ls ++ [x]) ↔ RunOK (ls ++ [x]) from Iff.rfl]
  have hsn := sumL_nonneg hok' 
  by_cases hg : good (nextV (runA ls).1 x).1 (nextV (runA ls).1 x).2 = true
  · have e : runA (ls ++ [x]) = (putA (runA ls).1 x.q (nextV (runA ls).1 x), (runA ls).2) := by rw [runA_snoc, stepA, if_pos hg]
    obtain ⟨c1, c2, c3⟩ := common (nextV (runA ls).1 x)
    refine ⟨by rw [e]; exact c1, by rw [e]; exact c2, by rw [e]; exact put_mem (P := fun v => goodP v = true) hg g3, by rw [e]; exact c3, fun ho q => ?_, fun ho => ?_⟩
    · rw [e] at ho ⊢
      simp only at ho ⊢
      rw [lookA_put, sumL_snoc]
      split
      · rename_i h; subst h
        unfold nextV; rw [g5 ho]
      · exact g5 ho q
    · rw [e] at ho
      simp only at ho
      obtain ⟨y, hy, h⟩ := g6 ho
      refine ⟨y, by simp [hy], ?_⟩
      rw [sumL_snoc]
      split
      · rename_i h2
        have hs := hsn y.q
        have : ¬ goodP (sumL ls y.q) = true := by rw [h]; simp
        unfold goodP at this
        rw [good_iff] at this
        cases hb : goodP ((sumL ls y.q).1 + x.cs.length, (sumL ls y.q).2 + x.m) with
        | false => rfl
        | true =>
          exfalso
          unfold goodP at hb
          rw [good_iff] at hb
          simp only at hb
          omega
      · exact h
  · have e : runA (ls ++ [x]) = (putA (runA ls).1 x.q (lookA (runA ls).1 x.q), true) := by rw [runA_snoc, stepA, if_neg hg]
    obtain ⟨c1, c2, c3⟩ := common (lookA (runA ls).1 x.q)
    refine ⟨by rw [e]; exact c1, by rw [e]; exact c2, by rw [e]; exact put_mem (P := fun v => goodP v = true) hlk g3, by rw [e]; exact c3, fun ho q => ?_, fun ho => ?_⟩
    · rw [e] at ho; cases ho
    · cases hov : (runA ls).2 with
      | false =>
        refine ⟨x, by simp, ?_⟩
        rw [sumL_snoc, if_pos rfl]
        unfold nextV at hg
        rw [g5 hov] at hg
        simpa [goodP] using hg
      | true =>
        obtain ⟨y, hy, h⟩ := g6 hov
        refine ⟨y, by simp [hy], ?_⟩
        rw [sumL_snoc]
        split
        · rename_i h2
          have hs := hsn y.q
          have : ¬ goodP (sumL ls y.q) = true := by rw [h]; simp
          unfold goodP at this
          rw [good_iff] at this
          cases hb : goodP ((sumL ls y.q).1 + x.cs.length, (sumL ls y.q).2 + x.m) with
          | false => rfl
          | true =>
            exfalso
            unfold goodP at hb
            rw [good_iff] at hb
            simp only at hb
            omega
        · exact h
/-- the queues of leases, each once, rising -/
def idsL (ls : List Le) : List Int := ((runA ls).1.map (·.1)).mergeSort fun x y => decide (x ≤ y)
def usesL (ls : List Le) : List U := (idsL ls).map fun q => ⟨q, (sumL ls q).1, (sumL ls q).2⟩
def vusesE (ls : List Le) : Int := if ls.any (fun x => !okLe x) = true then 1 else if ls.any (fun x => !goodP (sumL ls x.q)) = true then 2 else 0
def vusesV (ls : List Le) : V := if vusesE ls = 0 then .tup [.d (.sl false 3 ((usesL ls).map encU)), .d (.int .i64 0)] else .tup [.nil 3, .d (.int .i64 (vusesE ls))]
theorem idsL_mem {ls : List Le} (h : ∀ x ∈ ls, okLe x = true) {q : Int} : q ∈ idsL ls ↔ ∃ x ∈ ls, x.q = q := by
  unfold idsL
  rw [(List.mergeSort_perm _ _).mem_iff]
  exact (run_ok ls h).mem q
theorem sort_pairwise (l : List Int) (h : l.Nodup) : (l.mergeSort fun x y => decide (x ≤ y)).Pairwise (· < ·) := by
  have h1 : (l.mergeSort fun x y => decide (x ≤ y)).Pairwise fun x y => decide (x ≤ y) = true := List.pairwise_mergeSort (fun a b c h1 h2 => by simp at *; omega) (fun a b => by simp; omega) l
  have h2 : (l.mergeSort fun x y => decide (x ≤ y)).Nodup := (List.mergeSort_perm l _).nodup_iff.2 h
  refine (List.Pairwise.and h1 (List.nodup_iff_pairwise_ne.1 h2)).imp fun ⟨a, b⟩ => ?_
  simp at a; omega
theorem idsL_sorted {ls : List Le} (h : ∀ x ∈ ls, okLe x = true) : (idsL ls).Pairwise (· < ·) := sort_pairwise _ (run_ok ls h).nodup
/-- rising lists of the same numbers are the same -/
theorem rising_ext : ∀ {l m : List Int}, l.Pairwise (· < ·) → m.Pairwise (· < ·) → (∀ x, x ∈ l ↔ x ∈ m) → l = m
  | [], [], _, _, _ => rfl
  | [], y :: m, _, _, h => by have := (h y).2 (by simp); cases this
  | x :: l, [], _, _, h => by have := (h x).1 (by simp); cases this
  | x :: l, y :: m, h1, h2, h => by
    rw [List.pairwise_cons] at h1 h2
    have exy : x = y := by
      have a := (h x).1 (by simp)
      have b := (h y).2 (by simp)
      rcases List.mem_cons.1 a with e | a
      · exact e
      · rcases List.mem_cons.1 b with e | b
        · exact e.symm
        · have := h1.1 y b; have := h2.1 x a; omega
    subst exy
    congr 1
    refine rising_ext h1.2 h2.2 fun z => ?_
    have hz := h z
    simp only [List.mem_cons] at hz
    constructor
    · intro hzl
      rcases hz.1 (.inr hzl) with e | e
      · subst e; have := h1.1 _ hzl; omega
      · exact e
    · intro hzm
      rcases hz.2 (.inr hzm) with e | e
      · subst e; have := h2.1 _ hzm; omega
      · exact e
theorem over_iff {ls : List Le} (h : ∀ x ∈ ls, okLe x = true) : (runA ls).2 = ls.any (fun x => !goodP (sumL ls x.q)) := by
  obtain ⟨g1, g2, g3, g4, g5, g6⟩ := run_ok ls h
  cases ho : (runA ls).2 with
  | true =>
    obtain ⟨x, hx, e⟩ := g6 ho
    exact (List.any_eq_true.2 ⟨x, hx, by rw [e]; rfl⟩).symm
  | false =>
    symm
    rw [List.any_eq_false]
    intro x hx
    rw [← g5 ho x.q, lookA_mem (P := fun v => goodP v = true) good_zero g3]
    decide
end Go.Idl
