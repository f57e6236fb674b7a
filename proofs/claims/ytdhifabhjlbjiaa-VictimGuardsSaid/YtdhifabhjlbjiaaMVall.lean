/- Leases as plain data: what leaves use by them. No program here.; Leases as plain data: which lease is to end. No program here.; Leases as plain data: what the chosen lease leaves. No program here.; Leases as plain data: the lease that is to end, told queue by queue and told lease by lease. No program here. -/
import Derived.Test.YtdhifabhjlbjiaaMQall
import Derived.Test.YtdhifabhjlbjiaaMDs
set_option linter.all false
section
namespace Go.Idl
set_option linter.unusedSimpArgs false
set_option linter.unusedVariables false

/-- a lease -/
structure Le where
  t : Int
  q : Int
  n : Int
  cs : List Int
  m : Int
  s : Int
  u : Int
  st : Bool
@[simp] def encLe (x : Le) : D := .agg [.int .i64 x.t, .int .i64 x.q, .int .i64 x.n, .sl false 1 (x.cs.map fun n => .int .i64 n), .int .i64 x.m, .int .i64 x.s, .int .i64 x.u, .bool x.st]
abbrev encLs (b : Bool) (l : List Le) : D := .sl b 8 (l.map encLe)
def okLe (x : Le) : Bool := decide (x.cs.length ≤ 64) && decide (0 ≤ x.m) && decide (x.m ≤ 1099511627776)
theorem okLe_iff {x : Le} : okLe x = true ↔ x.cs.length ≤ 64 ∧ 0 ≤ x.m ∧ x.m ≤ 1099511627776 := by simp [okLe, and_assoc]
def cpuOf (q : Int) (x : Le) : Int := if x.q = q then (x.cs.length : Int) else 0
def memOf (q : Int) (x : Le) : Int := if x.q = q then x.m else 0
/-- what the leases of a queue use together -/
def sumL (ls : List Le) (q : Int) : Int × Int := (sumI (cpuOf q) ls, sumI (memOf q) ls)
theorem sumL_snoc (ls : List Le) (x : Le) (q : Int) : sumL (ls ++ [x]) q = if x.q = q then ((sumL ls q).1 + x.cs.length, (sumL ls q).2 + x.m) else sumL ls q := by
  unfold sumL
  rw [sumI_snoc, sumI_snoc]
  unfold cpuOf memOf
  split <;> simp
theorem sumL_nonneg {ls : List Le} (h : ∀ x ∈ ls, okLe x = true) (q : Int) : 0 ≤ (sumL ls q).1 ∧ 0 ≤ (sumL ls q).2 := by
  refine ⟨sumI_nonneg fun x hx => ?_, sumI_nonneg fun x hx => ?_⟩
  · unfold cpuOf; split <;> omega
  · have := okLe_iff.1 (h x hx)
    unfold memOf; split <;> omega

/-! ### the program's way: an assoc list -/
def lookA : List (Int × Int × Int) → Int → Int × Int
  | [], _ => (0, 0)
  | p :: r, q => if p.1 = q then p.2 else lookA r q
def putA : List (Int × Int × Int) → Int → Int × Int → List (Int × Int × Int)
  | [], q, v => [(q, v)]
  | p :: r, q, v => if p.1 = q then (q, v) :: r else p :: putA r q v
def idxA : List (Int × Int × Int) → Int → Nat
  | [], _ => 0
  | p :: r, q => if p.1 = q then 0 else idxA r q + 1
theorem lookA_put (q : Int) (v : Int × Int) : ∀ (A : List (Int × Int × Int)) (x : Int), lookA (putA A q v) x = if q = x then v else lookA A x
  | [], x => by simp [putA, lookA]
  | p :: r, x => by
    have ih := lookA_put q v r x
    unfold putA
    split
    · rename_i h
      unfold lookA
      by_cases e : q = x
      · simp [e]
      · simp [e, h]
    · rename_i h
      unfold lookA
      by_cases e : p.1 = x
      · simp [e]
        intro e2; subst e2; exact absurd e h
      · rw [if_neg e, if_neg e, ih]
theorem keys_put (q : Int) (v : Int × Int) : ∀ (A : List (Int × Int × Int)), (putA A q v).map (·.1) = if q ∈ A.map (·.1) then A.map (·.1) else A.map (·.1) ++ [q]
  | [] => by simp [putA]
  | p :: r => by
    have ih := keys_put q v r
    unfold putA
    by_cases h : p.1 = q
    · simp [h]
    · rw [if_neg h, List.map_cons, ih]
      have : ¬ q = p.1 := fun e => h e.symm
      by_cases e : q ∈ r.map (·.1)
      · rw [if_pos e, if_pos (by simp only [List.map_cons, List.mem_cons]; exact .inr e)]; rfl
      · rw [if_neg e, if_neg (by simp only [List.map_cons, List.mem_cons, this, false_or]; exact e)]; rfl
theorem len_put (q : Int) (v : Int × Int) (A : List (Int × Int × Int)) : (putA A q v).length = if q ∈ A.map (·.1) then A.length else A.length + 1 := by
  have h := congrArg List.length (keys_put q v A)
  rw [List.length_map] at h
  rw [h]
  split <;> simp
theorem lookA_mem {P : Int × Int → Prop} (h0 : P (0, 0)) : ∀ {A : List (Int × Int × Int)}, (∀ p ∈ A, P p.2) → ∀ q, P (lookA A q)
  | [], _, _ => h0
  | p :: r, h, q => by
    unfold lookA
    split
    · exact h p (by simp)
    · exact lookA_mem h0 (fun x hx => h x (by simp [hx])) q
theorem put_mem {P : Int × Int → Prop} {q : Int} {v : Int × Int} (hv : P v) : ∀ {A : List (Int × Int × Int)}, (∀ p ∈ A, P p.2) → ∀ p ∈ putA A q v, P p.2
  | [], _, p, hp => by simp [putA] at hp; subst hp; exact hv
  | a :: r, h, p, hp => by
    unfold putA at hp
    split at hp
    · rcases List.mem_cons.1 hp with rfl | hp
      · exact hv
      · exact h p (by simp [hp])
    · rcases List.mem_cons.1 hp with rfl | hp
      · exact h _ (by simp)
      · exact put_mem hv (fun x hx => h x (by simp [hx])) p hp

def nextV (A : List (Int × Int × Int)) (x : Le) : Int × Int := ((lookA A x.q).1 + x.cs.length, (lookA A x.q).2 + x.m)
def stepA (s : List (Int × Int × Int) × Bool) (x : Le) : List (Int × Int × Int) × Bool :=
  if good (nextV s.1 x).1 (nextV s.1 x).2 = true then (putA s.1 x.q (nextV s.1 x), s.2) else (putA s.1 x.q (lookA s.1 x.q), true)
def runA (ls : List Le) : List (Int × Int × Int) × Bool := ls.foldl stepA ([], false)
theorem runA_snoc (ls : List Le) (x : Le) : runA (ls ++ [x]) = stepA (runA ls) x := by simp [runA]
theorem runA_take {ls : List Le} {i : Nat} (h : i < ls.length) : runA (ls.take (i + 1)) = stepA (runA (ls.take i)) ls[i] := by
  rw [List.take_add_one, List.getElem?_eq_getElem h, Option.toList_some, runA_snoc]

/-- induction from behind -/
theorem snoc_ind {α : Type} {p : List α → Prop} (h0 : p []) (h1 : ∀ l x, p l → p (l ++ [x])) : ∀ l, p l := by
  intro l
  have key : ∀ n (l : List α), l.length = n → p l := by
    intro n
    induction n with
    | zero => intro l hl; rw [List.length_eq_zero_iff.1 hl]; exact h0
    | succ n ih =>
      intro l hl
      have hne : l ≠ [] := by rintro rfl; simp at hl
      rw [← List.dropLast_concat_getLast hne]
      exact h1 _ _ (ih _ (by simp [hl]))
  exact key _ l rfl
structure RunOK (ls : List Le) : Prop where
  nodup : ((runA ls).1.map (·.1)).Nodup
  mem : ∀ q, q ∈ (runA ls).1.map (·.1) ↔ ∃ x ∈ ls, x.q = q
  vals : ∀ p ∈ (runA ls).1, goodP p.2 = true
  len : (runA ls).1.length ≤ ls.length
  sums : (runA ls).2 = false → ∀ q, lookA (runA ls).1 q = sumL ls q
  over : (runA ls).2 = true → ∃ x ∈ ls, goodP (sumL ls x.q) = false
theorem good_zero : goodP (0, 0) = true := by decide
theorem run_ok : ∀ (ls : List Le), (∀ x ∈ ls, okLe x = true) → RunOK ls := by
  refine snoc_ind (fun _ => ⟨List.nodup_nil, fun q => by simp [runA], by simp [runA], by simp [runA], fun _ q => rfl, by simp [runA]⟩) ?_
  intro ls x ih hok
  have hok' : ∀ y ∈ ls, okLe y = true := fun y hy => hok y (by simp [hy])
  obtain ⟨g1, g2, g3, g4, g5, g6⟩ := ih hok'
  have hx := okLe_iff.1 (hok x (by simp))
  have hkeys : ∀ v, (putA (runA ls).1 x.q v).map (·.1) = if x.q ∈ (runA ls).1.map (·.1) then (runA ls).1.map (·.1) else (runA ls).1.map (·.1) ++ [x.q] := fun v => keys_put _ _ _
  have hlk : goodP (lookA (runA ls).1 x.q) = true := lookA_mem (P := fun v => goodP v = true) good_zero g3 _
  have common : ∀ v, ((putA (runA ls).1 x.q v).map (·.1)).Nodup ∧ (∀ q, q ∈ (putA (runA ls).1 x.q v).map (·.1) ↔ ∃ y ∈ ls ++ [x], y.q = q) ∧ (putA (runA ls).1 x.q v).length ≤ (ls ++ [x]).length := fun v => by
    refine ⟨?_, fun q => ?_, ?_⟩
    · rw [hkeys]
      split
      · exact g1
      · rename_i h
        exact List.nodup_append.2 ⟨g1, by simp, fun a ha b hb e => by simp at hb; subst hb; subst e; exact h ha⟩
    · have e1 : (∃ y ∈ ls ++ [x], y.q = q) ↔ (∃ y ∈ ls, y.q = q) ∨ x.q = q := by
        constructor
        · rintro ⟨y, hy, e⟩
          rcases List.mem_append.1 hy with hy | hy
          · exact .inl ⟨y, hy, e⟩
          · simp at hy; subst hy; exact .inr e
        · rintro (⟨y, hy, e⟩ | e)
          · exact ⟨y, by simp [hy], e⟩
          · exact ⟨x, by simp, e⟩
      rw [e1, ← g2 q, hkeys]
      split
      · rename_i h
        constructor
        · exact .inl
        · rintro (h2 | rfl)
          · exact h2
          · exact h
      · rw [List.mem_append]
        simp [eq_comm]
    · rw [len_put]; split <;> simp <;> omega
  rw [show RunOK (ls ++ [x]) ↔ RunOK (ls ++ [x]) from Iff.rfl]
  have hsn := sumL_nonneg hok' 
  by_cases hg : good (nextV (runA ls).1 x).1 (nextV (runA ls).1 x).2 = true
  · have e : runA (ls ++ [x]) = (putA (runA ls).1 x.q (nextV (runA ls).1 x), (runA ls).2) := by rw [runA_snoc, stepA, if_pos hg]
    obtain ⟨c1, c2, c3⟩ := common (nextV (runA ls).1 x)
    refine ⟨by rw [e]; exact c1, by rw [e]; exact c2, by rw [e]; exact put_mem (P := fun v => goodP v = true) hg g3, by rw [e]; exact c3, fun ho q => ?_, fun ho => ?_⟩
    · rw [e] at ho ⊢
      simp only at ho ⊢
      rw [lookA_put, sumL_snoc]
      split
      · rename_i h; subst h
        unfold nextV; rw [g5 ho]
      · exact g5 ho q
    · rw [e] at ho
      simp only at ho
      obtain ⟨y, hy, h⟩ := g6 ho
      refine ⟨y, by simp [hy], ?_⟩
      rw [sumL_snoc]
      split
      · rename_i h2
        have hs := hsn y.q
        have : ¬ goodP (sumL ls y.q) = true := by rw [h]; simp
        unfold goodP at this
        rw [good_iff] at this
        cases hb : goodP ((sumL ls y.q).1 + x.cs.length, (sumL ls y.q).2 + x.m) with
        | false => rfl
        | true =>
          exfalso
          unfold goodP at hb
          rw [good_iff] at hb
          simp only at hb
          omega
      · exact h
  · have e : runA (ls ++ [x]) = (putA (runA ls).1 x.q (lookA (runA ls).1 x.q), true) := by rw [runA_snoc, stepA, if_neg hg]
    obtain ⟨c1, c2, c3⟩ := common (lookA (runA ls).1 x.q)
    refine ⟨by rw [e]; exact c1, by rw [e]; exact c2, by rw [e]; exact put_mem (P := fun v => goodP v = true) hlk g3, by rw [e]; exact c3, fun ho q => ?_, fun ho => ?_⟩
    · rw [e] at ho; cases ho
    · cases hov : (runA ls).2 with
      | false =>
        refine ⟨x, by simp, ?_⟩
        rw [sumL_snoc, if_pos rfl]
        unfold nextV at hg
        rw [g5 hov] at hg
        simpa [goodP] using hg
      | true =>
        obtain ⟨y, hy, h⟩ := g6 hov
        refine ⟨y, by simp [hy], ?_⟩
        rw [sumL_snoc]
        split
        · rename_i h2
          have hs := hsn y.q
          have : ¬ goodP (sumL ls y.q) = true := by rw [h]; simp
          unfold goodP at this
          rw [good_iff] at this
          cases hb : goodP ((sumL ls y.q).1 + x.cs.length, (sumL ls y.q).2 + x.m) with
          | false => rfl
          | true =>
            exfalso
            unfold goodP at hb
            rw [good_iff] at hb
            simp only at hb
            omega
        · exact h
/-- the queues of leases, each once, rising -/
def idsL (ls : List Le) : List Int := ((runA ls).1.map (·.1)).mergeSort fun x y => decide (x ≤ y)
def usesL (ls : List Le) : List U := (idsL ls).map fun q => ⟨q, (sumL ls q).1, (sumL ls q).2⟩
def vusesE (ls : List Le) : Int := if ls.any (fun x => !okLe x) = true then 1 else if ls.any (fun x => !goodP (sumL ls x.q)) = true then 2 else 0
def vusesV (ls : List Le) : V := if vusesE ls = 0 then .tup [.d (.sl false 3 ((usesL ls).map encU)), .d (.int .i64 0)] else .tup [.nil 3, .d (.int .i64 (vusesE ls))]
theorem idsL_mem {ls : List Le} (h : ∀ x ∈ ls, okLe x = true) {q : Int} : q ∈ idsL ls ↔ ∃ x ∈ ls, x.q = q := by
  unfold idsL
  rw [(List.mergeSort_perm _ _).mem_iff]
  exact (run_ok ls h).mem q
theorem sort_pairwise (l : List Int) (h : l.Nodup) : (l.mergeSort fun x y => decide (x ≤ y)).Pairwise (· < ·) := by
  have h1 : (l.mergeSort fun x y => decide (x ≤ y)).Pairwise fun x y => decide (x ≤ y) = true := List.pairwise_mergeSort (fun a b c h1 h2 => by simp at *; omega) (fun a b => by simp; omega) l
  have h2 : (l.mergeSort fun x y => decide (x ≤ y)).Nodup := (List.mergeSort_perm l _).nodup_iff.2 h
  refine (List.Pairwise.and h1 (List.nodup_iff_pairwise_ne.1 h2)).imp fun ⟨a, b⟩ => ?_
  simp at a; omega
theorem idsL_sorted {ls : List Le} (h : ∀ x ∈ ls, okLe x = true) : (idsL ls).Pairwise (· < ·) := sort_pairwise _ (run_ok ls h).nodup
theorem over_iff {ls : List Le} (h : ∀ x ∈ ls, okLe x = true) : (runA ls).2 = ls.any (fun x => !goodP (sumL ls x.q)) := by
  obtain ⟨g1, g2, g3, g4, g5, g6⟩ := run_ok ls h
  cases ho : (runA ls).2 with
  | true =>
    obtain ⟨x, hx, e⟩ := g6 ho
    exact (List.any_eq_true.2 ⟨x, hx, by rw [e]; rfl⟩).symm
  | false =>
    symm
    rw [List.any_eq_false]
    intro x hx
    rw [← g5 ho x.q, lookA_mem (P := fun v => goodP v = true) good_zero g3]
    decide
end Go.Idl
end
section
namespace Go.Idl
set_option linter.unusedSimpArgs false
set_option linter.unusedVariables false

def stepC (l : List Q) (M : List (Int × Int)) (t : Int × Int) (s : Int × Int) (x : Le) : Int × Int :=
  if fits (l.getD (place l x.q).toNat q0).MC (l.getD (place l x.q).toNat q0).MM ((M.getD (place l x.q).toNat (0, 0)).1 - x.cs.length) ((M.getD (place l x.q).toNat (0, 0)).2 - x.m) = false then s
  else if 0 ≤ s.1 ∧ place l x.q ≠ s.1 ∧ (ordZ (M.getD (place l x.q).toNat (0, 0)) (l.getD (place l x.q).toNat q0).Wt (M.getD s.1.toNat (0, 0)) (l.getD s.1.toNat q0).Wt t < 0 ∨
      (ordZ (M.getD (place l x.q).toNat (0, 0)) (l.getD (place l x.q).toNat q0).Wt (M.getD s.1.toNat (0, 0)) (l.getD s.1.toNat q0).Wt t = 0 ∧ s.1 < place l x.q)) then s
  else if place l x.q ≠ s.1 ∨ s.2 < x.t then (place l x.q, x.t) else s
def runC (l : List Q) (M : List (Int × Int)) (t : Int × Int) (ls : List Le) : Int × Int := ls.foldl (stepC l M t) (-1, 0)
theorem runC_take {l : List Q} {M : List (Int × Int)} {t : Int × Int} {ls : List Le} {i : Nat} (h : i < ls.length) : runC l M t (ls.take (i + 1)) = stepC l M t (runC l M t (ls.take i)) ls[i] := by
  rw [List.take_add_one, List.getElem?_eq_getElem h, Option.toList_some]
  unfold runC
  rw [List.foldl_append]; rfl
theorem runC_range {l : List Q} {M : List (Int × Int)} {t : Int × Int} : ∀ (ls : List Le), (∀ x ∈ ls, ∃ j : Nat, j < l.length ∧ place l x.q = j) → (runC l M t ls).1 = -1 ∨ ∃ j : Nat, j < l.length ∧ (runC l M t ls).1 = j := by
  refine snoc_ind (fun _ => .inl rfl) ?_
  intro ls x ih h
  have ih := ih fun y hy => h y (by simp [hy])
  obtain ⟨j, hj, e⟩ := h x (by simp)
  have e1 : runC l M t (ls ++ [x]) = stepC l M t (runC l M t ls) x := by simp [runC]
  rw [e1]
  unfold stepC
  split
  · exact ih
  · split
    · exact ih
    · split
      · exact .inr ⟨j, hj, e⟩
      · exact ih
def liveL (ls : List Le) : List Le := ls.filter fun x => !x.st
theorem sum_ids (f : Le → Int) (P : Int → Prop) [DecidablePred P] (ids : List Int) (hnd : ids.Nodup) : ∀ (ls : List Le), (∀ x ∈ ls, x.q ∈ ids) → sumI (fun q => if P q then sumI (fun x => if x.q = q then f x else 0) ls else 0) ids = sumI (fun x => if P x.q then f x else 0) ls
  | [], _ => by
    rw [sumI_nil]
    refine sumI_zero fun q _ => ?_
    split <;> rfl
  | x :: ls, h => by
    have ih := sum_ids f P ids hnd ls fun y hy => h y (by simp [hy])
    rw [sumI_cons, ← ih]
    have e1 : sumI (fun q => if P q then sumI (fun x => if x.q = q then f x else 0) (x :: ls) else 0) ids = sumI (fun q => (if q = x.q then (if P x.q then f x else 0) else 0) + (if P q then sumI (fun x => if x.q = q then f x else 0) ls else 0)) ids := by
      refine sumI_congr fun q _ => ?_
      rw [sumI_cons]
      by_cases e : q = x.q
      · subst e; simp; split <;> simp
      · have e2 : ¬ x.q = q := fun h => e h.symm
        simp [e, e2]
    rw [e1, sumI_add]
    congr 1
    have key : ∀ (ids : List Int), ids.Nodup → x.q ∈ ids → ∀ v : Int, sumI (fun q => if q = x.q then v else 0) ids = v := by
      intro ids
      induction ids with
      | nil => intro _ h; cases h
      | cons a r ih =>
        intro hn hm v
        rw [List.nodup_cons] at hn
        rw [sumI_cons]
        by_cases e : a = x.q
        · subst e
          rw [if_pos rfl, sumI_zero fun q hq => by rw [if_neg]; rintro rfl; exact hn.1 hq]
          simp
        · rw [if_neg e, ih hn.2 (by rcases List.mem_cons.1 hm with h | h; exact absurd h.symm e; exact h) v]
          simp
    exact key ids hnd (h x (by simp)) _
theorem totF_sum2 (l : List Q) (id : Int) : ∀ (us : List U) (s : Int × Int), totF l id us s = (s.1 + sumI (fun u => if id ∈ path l u.q then u.c else 0) us, s.2 + sumI (fun u => if id ∈ path l u.q then u.m else 0) us)
  | [], s => by simp [totF, sumI]
  | u :: r, s => by
    rw [totF, totF_sum2 l id r, sumI_cons, sumI_cons]
    split
    · simp only; ext <;> simp <;> omega
    · simp
theorem tot_uses {ls : List Le} (h : ∀ x ∈ ls, okLe x = true) (l : List Q) (id : Int) : tot l (usesL ls) id = (sumI (fun x : Le => if id ∈ path l x.q then (x.cs.length : Int) else 0) ls, sumI (fun x : Le => if id ∈ path l x.q then x.m else 0) ls) := by
  have hnd : (idsL ls).Nodup := (idsL_sorted h).imp fun h e => by omega
  have hin : ∀ x ∈ ls, x.q ∈ idsL ls := fun x hx => (idsL_mem h).2 ⟨x, hx, rfl⟩
  unfold tot
  rw [totF_sum2]
  have e1 : ∀ (g : Int × Int → Int) (f : Le → Int), (∀ q, g (sumL ls q) = sumI (fun x => if x.q = q then f x else 0) ls) → sumI (fun u : U => if id ∈ path l u.q then g (u.c, u.m) else 0) (usesL ls) = sumI (fun x : Le => if id ∈ path l x.q then f x else 0) ls := fun g f hg => by
    rw [← sum_ids f (fun q => id ∈ path l q) (idsL ls) hnd ls hin]
    unfold usesL sumI
    rw [List.map_map]
    congr 1
    refine List.map_congr_left fun q _ => ?_
    simp only [Function.comp]
    split
    · exact hg q
    · rfl
  have h1 := e1 (·.1) (fun x => (x.cs.length : Int)) fun q => rfl
  have h2 := e1 (·.2) (fun x => x.m) fun q => rfl
  simp only at h1 h2
  rw [h1, h2]; simp
theorem ok_of {ls : List Le} (h : vusesE ls = 0) : (∀ x ∈ ls, okLe x = true) ∧ ∀ x ∈ ls, goodP (sumL ls x.q) = true := by
  unfold vusesE at h
  split at h
  · cases h
  · rename_i h1
    split at h
    · cases h
    · rename_i h2
      refine ⟨fun x hx => ?_, fun x hx => ?_⟩
      · cases e : okLe x with
        | true => rfl
        | false => exact absurd (List.any_eq_true.2 ⟨x, hx, by rw [e]; rfl⟩) h1
      · cases e : goodP (sumL ls x.q) with
        | true => rfl
        | false => exact absurd (List.any_eq_true.2 ⟨x, hx, by rw [e]; rfl⟩) h2
theorem uses_of {ls : List Le} (h1 : ∀ x ∈ ls, okLe x = true) (h2 : ∀ x ∈ ls, goodP (sumL ls x.q) = true) : vusesE ls = 0 := by
  unfold vusesE
  rw [if_neg, if_neg]
  · intro h
    obtain ⟨x, hx, e⟩ := List.any_eq_true.1 h
    rw [h2 x hx] at e; cases e
  · intro h
    obtain ⟨x, hx, e⟩ := List.any_eq_true.1 h
    rw [h1 x hx] at e; cases e
theorem sumI_filter (f : Le → Int) (p : Le → Bool) : ∀ (ls : List Le), (∀ x ∈ ls, 0 ≤ f x) → 0 ≤ sumI f (ls.filter p) ∧ sumI f (ls.filter p) ≤ sumI f ls
  | [], _ => by simp [sumI]
  | x :: r, h => by
    obtain ⟨i1, i2⟩ := sumI_filter f p r fun y hy => h y (by simp [hy])
    have := h x (by simp)
    rw [List.filter_cons]
    split
    · rw [sumI_cons, sumI_cons]; omega
    · rw [sumI_cons]; omega
theorem good_le {a b : Int × Int} (hb : goodP b = true) (h1 : 0 ≤ a.1) (h2 : 0 ≤ a.2) (h3 : a.1 ≤ b.1) (h4 : a.2 ≤ b.2) : goodP a = true := by
  unfold goodP at hb ⊢
  rw [good_iff] at hb ⊢
  omega
def vsumsE (l : List Q) (ls : List Le) : Int := if check l ≠ 0 then check l else if vusesE ls ≠ 0 then vusesE ls else sumsE l (usesL ls)
theorem vsums_zero {l : List Q} {ls : List Le} : vsumsE l ls = 0 ↔ check l = 0 ∧ vusesE ls = 0 ∧ sumsE l (usesL ls) = 0 := by
  unfold vsumsE
  by_cases h1 : check l = 0
  · by_cases h2 : vusesE ls = 0
    · simp [h1, h2]
    · simp [h1, h2]
  · simp [h1]
theorem usesE_iff {l : List Q} : ∀ {us : List U}, usesE l us = 0 ↔ ∀ u ∈ us, useE l u = 0
  | [] => by simp [usesE]
  | u :: r => by
    have ih := usesE_iff (l := l) (us := r)
    unfold usesE
    constructor
    · intro h
      split at h
      · rename_i h1; exact absurd h h1
      · rename_i h1
        intro v hv
        rcases List.mem_cons.1 hv with rfl | hv
        · exact Classical.byContradiction fun k => h1 k
        · exact ih.1 h v hv
    · intro h
      have h1 := h u (by simp)
      rw [if_neg (by simp [h1])]
      exact ih.2 fun v hv => h v (by simp [hv])
/-- where all fits, so do some of the leases -/
theorem vsums_filter {l : List Q} {ls : List Le} (p : Le → Bool) (h : vsumsE l ls = 0) : vsumsE l (ls.filter p) = 0 := by
  obtain ⟨hc, hu, hs⟩ := vsums_zero.1 h
  obtain ⟨o1, o2⟩ := ok_of hu
  obtain ⟨_, hu0, ho⟩ := sumsE_zero.1 hs
  have o1' : ∀ x ∈ ls.filter p, okLe x = true := fun x hx => o1 x ((List.mem_filter.1 hx).1)
  have hcpu : ∀ q, ∀ x ∈ ls, 0 ≤ cpuOf q x := fun q x _ => by unfold cpuOf; split <;> omega
  have hmem : ∀ q, ∀ x ∈ ls, 0 ≤ memOf q x := fun q x hx => by have := okLe_iff.1 (o1 x hx); unfold memOf; split <;> omega
  have hg : ∀ x ∈ ls.filter p, goodP (sumL (ls.filter p) x.q) = true := fun x hx => by
    have a := sumI_filter (cpuOf x.q) p ls (hcpu _)
    have b := sumI_filter (memOf x.q) p ls (hmem _)
    exact good_le (o2 x ((List.mem_filter.1 hx).1)) a.1 b.1 a.2 b.2
  have hu' := uses_of o1' hg
  refine vsums_zero.2 ⟨hc, hu', sumsE_zero.2 ⟨hc, usesE_iff.2 fun u hu2 => ?_, overs_iff.2 fun q hq => ?_⟩⟩
  · unfold usesL at hu2
    obtain ⟨q, hq, rfl⟩ := List.mem_map.1 hu2
    obtain ⟨x, hx, rfl⟩ := (idsL_mem o1').1 hq
    have hx' := (List.mem_filter.1 hx).1
    have := usesE_mem hu0 ⟨x.q, (sumL ls x.q).1, (sumL ls x.q).2⟩ (by
      unfold usesL
      exact List.mem_map.2 ⟨x.q, (idsL_mem o1).2 ⟨x, hx', rfl⟩, rfl⟩)
    unfold useE at this ⊢
    simp only at this ⊢
    split at this
    · cases this
    · rename_i h1
      rw [if_neg h1]
      split at this
      · cases this
      · rename_i h2
        rw [if_neg h2, if_neg]
        have := hg x hx
        unfold goodP at this
        rw [this]; decide
  · have := overs_iff.1 ho q hq
    rw [tot_uses o1] at this
    rw [tot_uses o1']
    have a := sumI_filter (fun x => if q.Id ∈ path l x.q then (x.cs.length : Int) else 0) p ls fun x _ => by split <;> omega
    have b := sumI_filter (fun x => if q.Id ∈ path l x.q then x.m else 0) p ls fun x hx => by have := okLe_iff.1 (o1 x hx); split <;> omega
    exact good_le this a.1 b.1 a.2 b.2
theorem lease_place {l : List Q} {ls : List Le} (h : vsumsE l ls = 0) : ∀ x ∈ ls, ∃ j : Nat, ∃ hj : j < l.length, place l x.q = j ∧ l[j].Id = x.q := fun x hx => by
  obtain ⟨hc, hu, hs⟩ := vsums_zero.1 h
  obtain ⟨o1, o2⟩ := ok_of hu
  obtain ⟨_, hu0, ho⟩ := sumsE_zero.1 hs
  have := usesE_mem hu0 ⟨x.q, (sumL ls x.q).1, (sumL ls x.q).2⟩ (by
    unfold usesL
    exact List.mem_map.2 ⟨x.q, (idsL_mem o1).2 ⟨x, hx, rfl⟩, rfl⟩)
  have hh : has l x.q = true := by
    unfold useE at this
    simp only at this
    split at this
    · cases this
    · rename_i h1; simpa using h1
  obtain ⟨a, b, c⟩ := place_pos (check_rises hc) hh
  exact ⟨pos l x.q, b, a, c b⟩
end Go.Idl
end
section
namespace Go.Idl
set_option linter.unusedSimpArgs false
set_option linter.unusedVariables false

end Go.Idl
end
section
namespace Go.Idl
set_option linter.unusedSimpArgs false
set_option linter.unusedVariables false

/-- one queue stands behind another -/
def worse (F : Nat → Fr) (j k : Nat) : Prop := ¬ (F k).le (F j) ∨ ((F j).le (F k) ∧ (F k).le (F j) ∧ k < j)
theorem worse_trans {F : Nat → Fr} {i j k : Nat} (hi : (F i).ok) (hj : (F j).ok) (hk : (F k).ok) (h1 : worse F i j) (h2 : worse F j k) : worse F i k := by
  rcases h1 with h1 | ⟨a, b, c⟩
  · refine .inl fun h => ?_
    rcases h2 with h2 | ⟨d, e, f⟩
    · rcases Fr.le_total (F k) (F j) with h3 | h3
      · exact h2 h3
      · exact h1 (Fr.le_trans hj hk hi h3 h)
    · exact h1 (Fr.le_trans hj hk hi d h)
  · rcases h2 with h2 | ⟨d, e, f⟩
    · exact .inl fun h => h2 (Fr.le_trans hk hi hj h a)
    · exact .inr ⟨Fr.le_trans hi hj hk a d, Fr.le_trans hk hj hi e b, by omega⟩
theorem worse_total {F : Nat → Fr} {j k : Nat} (h : j ≠ k) (hn : ¬ worse F j k) : worse F k j := by
  unfold worse at *
  simp only [not_or, not_and, Classical.not_not] at hn
  obtain ⟨h1, h2⟩ := hn
  by_cases h3 : (F j).le (F k)
  · have := h2 h3 h1
    exact .inr ⟨h1, h3, by omega⟩
  · exact .inl h3
/-- the task that is to end, among the leases at hand -/
structure Best (l : List Q) (F : Nat → Fr) (S : Le → Prop) (k : Nat) (tk : Int) : Prop where
  at_ : ∃ x, S x ∧ place l x.q = k ∧ x.t = tk
  top : ∀ x, S x → place l x.q = k → x.t ≤ tk
  far : ∀ x (j : Nat), S x → place l x.q = j → j ≠ k → worse F j k
/-- the state of either search -/
def BestS (l : List Q) (F : Nat → Fr) (S : Le → Prop) (s : Int × Int) : Prop := (s.1 = -1 ∧ ∀ x, ¬ S x) ∨ ∃ k : Nat, k < l.length ∧ s.1 = k ∧ Best l F S k s.2
/-- a lease more -/
theorem BestS.lease {l : List Q} {F : Nat → Fr} {S : Le → Prop} {s : Int × Int} (h : BestS l F S s) {x : Le} {j : Nat} (hj : j < l.length) (hp : place l x.q = j) (hok : ∀ k, k < l.length → (F k).ok) (hin : ∀ y, S y → ∃ i : Nat, i < l.length ∧ place l y.q = i) :
    (0 ≤ s.1 → (j : Int) ≠ s.1 → worse F j s.1.toNat → BestS l F (fun y => S y ∨ y = x) s) ∧ ((0 ≤ s.1 → (j : Int) ≠ s.1 → ¬ worse F j s.1.toNat) → (j : Int) ≠ s.1 ∨ s.2 < x.t → BestS l F (fun y => S y ∨ y = x) (j, x.t)) ∧ ((j : Int) = s.1 → x.t ≤ s.2 → BestS l F (fun y => S y ∨ y = x) s) := by
  obtain ⟨b, tk⟩ := s
  refine ⟨fun h0 hne hw => ?_, fun hnw hc => ?_, fun he hle => ?_⟩
  · rcases h with ⟨e, _⟩ | ⟨k, hk, e, hb⟩
    · simp only at e h0; omega
    · simp only at e hne hw; subst e
      refine .inr ⟨k, hk, rfl, ?_, ?_, ?_⟩
      · obtain ⟨y, a, b, c⟩ := hb.at_
        exact ⟨y, .inl a, b, c⟩
      · rintro y (hy | rfl) hpy
        · exact hb.top y hy hpy
        · rw [hp] at hpy; exact absurd hpy hne
      · rintro y i (hy | rfl) hpy hik
        · exact hb.far y i hy hpy hik
        · rw [hp] at hpy
          have : i = j := by omega
          subst this; exact hw
  · refine .inr ⟨j, hj, rfl, ⟨x, .inr rfl, hp, rfl⟩, ?_, ?_⟩
    · rintro y (hy | rfl) hpy
      · rcases h with ⟨_, e⟩ | ⟨k, hk, e, hb⟩
        · exact absurd hy (e y)
        · simp only at e hc hnw; subst e
          by_cases ejk : j = k
          · subst ejk
            have := hb.top y hy hpy
            simp only at *
            omega
          · have := hb.far y j hy hpy ejk
            exact absurd this (hnw (by omega) (by omega))
      · exact Int.le_refl _
    · rintro y i (hy | rfl) hpy hij
      · rcases h with ⟨_, e⟩ | ⟨k, hk, e, hb⟩
        · exact absurd hy (e y)
        · simp only at e hc hnw; subst e
          by_cases ejk : j = k
          · subst ejk; exact hb.far y i hy hpy hij
          · have hkj := worse_total ejk (hnw (by omega) (by omega))
            by_cases eik : i = k
            · subst eik; exact hkj
            · obtain ⟨i', hi', e'⟩ := hin y hy
              have : i' = i := by omega
              subst this
              exact worse_trans (hok _ hi') (hok _ hk) (hok _ hj) (hb.far y i' hy hpy eik) hkj
      · rw [hp] at hpy; exact absurd (by omega) hij
  · rcases h with ⟨e, _⟩ | ⟨k, hk, e, hb⟩
    · simp only at e he; omega
    · simp only at e he hle; subst e
      have ejk : j = k := by omega
      subst ejk
      refine .inr ⟨j, hj, rfl, ?_, ?_, ?_⟩
      · obtain ⟨y, a, b, c⟩ := hb.at_
        exact ⟨y, .inl a, b, c⟩
      · rintro y (hy | rfl) hpy
        · exact hb.top y hy hpy
        · exact hle
      · rintro y i (hy | rfl) hpy hik
        · exact hb.far y i hy hpy hik
        · rw [hp] at hpy; exact absurd (by omega) hik
theorem BestS.congr {l : List Q} {F : Nat → Fr} {S S' : Le → Prop} {s : Int × Int} (h : BestS l F S s) (e : ∀ x, S x ↔ S' x) : BestS l F S' s := by
  have : S = S' := funext fun x => propext (e x)
  subst this; exact h
/-! ### the document's search, queue by queue -/
/-- one queue more: i is the queue at hand -/
theorem BestS.queue {l : List Q} {F : Nat → Fr} {ls : List Le} {Y : Le → Bool} {s : Int × Int} {i : Nat} (hi : i < l.length) (hin : ∀ y ∈ ls, ∃ j : Nat, j < l.length ∧ place l y.q = j) (h : BestS l F (fun y => y ∈ ls ∧ Y y = true ∧ place l y.q < i) s) (hok : ∀ k, k < l.length → (F k).ok) (r : Int × Bool)
    (hr : ((r.2 = false → ∀ x ∈ ls, (decide (place l x.q = i) && Y x) = false) ∧ (r.2 = true → (∃ x ∈ ls, (decide (place l x.q = i) && Y x) = true ∧ x.t = r.1) ∧ ∀ x ∈ ls, (decide (place l x.q = i) && Y x) = true → x.t ≤ r.1))) :
    (r.2 = false → BestS l F (fun y => y ∈ ls ∧ Y y = true ∧ place l y.q < (i + 1 : Nat)) s) ∧ (r.2 = true → (s.1 < 0 ∨ (0 ≤ s.1 ∧ ¬ (F i).le (F s.1.toNat))) → BestS l F (fun y => y ∈ ls ∧ Y y = true ∧ place l y.q < (i + 1 : Nat)) (i, r.1)) ∧
    (r.2 = true → 0 ≤ s.1 → (F i).le (F s.1.toNat) → BestS l F (fun y => y ∈ ls ∧ Y y = true ∧ place l y.q < (i + 1 : Nat)) s) := by
  have hsp : ∀ y ∈ ls, Y y = true → place l y.q < (i + 1 : Nat) → place l y.q < i ∨ (decide (place l y.q = i) && Y y) = true := fun y hy hY hp => by
    by_cases e : place l y.q = i
    · exact .inr (by simp [e, hY])
    · exact .inl (by omega)
  refine ⟨fun h0 => ?_, fun h1 hc => ?_, fun h1 h0 hle => ?_⟩
  · refine h.congr fun y => ⟨fun ⟨a, b, c⟩ => ⟨a, b, by omega⟩, fun ⟨a, b, c⟩ => ⟨a, b, ?_⟩⟩
    rcases hsp y a b c with k | k
    · exact k
    · rw [hr.1 h0 y a] at k; cases k
  · obtain ⟨⟨x, x1, x2, x3⟩, xt⟩ := hr.2 h1
    simp only [Bool.and_eq_true, decide_eq_true_eq] at x2
    refine .inr ⟨i, hi, rfl, ⟨x, ⟨x1, x2.2, by omega⟩, x2.1, x3⟩, fun y ⟨a, b, c⟩ hp => xt y a (by simp [hp, b]), fun y j ⟨a, b, c⟩ hp hne => ?_⟩
    have hlt : place l y.q < i := by omega
    rcases h with ⟨e, hn⟩ | ⟨k, hk, e, hb⟩
    · exact absurd ⟨a, b, hlt⟩ (hn y)
    · rcases hc with hc | ⟨_, hc⟩
      · omega
      · rw [e] at hc; simp only [Int.toNat_natCast] at hc
        have hki : worse F k i := .inl hc
        by_cases ejk : j = k
        · subst ejk; exact hki
        · obtain ⟨j', hj', e'⟩ := hin y a
          have : j' = j := by omega
          subst this
          exact worse_trans (hok _ hj') (hok _ hk) (hok _ hi) (hb.far y j' ⟨a, b, hlt⟩ hp ejk) hki
  · rcases h with ⟨e, hn⟩ | ⟨k, hk, e, hb⟩
    · omega
    · rw [e] at hle; simp only [Int.toNat_natCast] at hle
      have hki : k < i := by
        obtain ⟨x, ⟨_, _, a⟩, c, _⟩ := hb.at_
        omega
      refine .inr ⟨k, hk, e, ?_, fun y ⟨a, b, c⟩ hp => hb.top y ⟨a, b, by omega⟩ hp, fun y j ⟨a, b, c⟩ hp hne => ?_⟩
      · obtain ⟨x, ⟨a, b, d⟩, c, f⟩ := hb.at_
        exact ⟨x, ⟨a, b, by omega⟩, c, f⟩
      · rcases hsp y a b c with h2 | h2
        · exact hb.far y j ⟨a, b, h2⟩ hp hne
        · simp only [Bool.and_eq_true, decide_eq_true_eq] at h2
          have : j = i := by omega
          subst this
          by_cases h3 : (F k).le (F j)
          · exact .inr ⟨hle, h3, hki⟩
          · exact .inl h3
end Go.Idl
end
