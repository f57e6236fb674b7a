/- Queues as plain data: what the document's answer and the program compute on them. No program here.; Queues as plain data, part 2: lists with a queue more, changed, less. No program here.; Queues as plain data, part 3: ways to the root, what is below a queue, the leaves. No program here.; Queues as plain data, part 4: uses and their sums. No program here.; Queues as plain data, part 5: what was added can be dropped, what was set can be set back; the shape of ways. No program here.; Queues as plain data, part 6: what a queue uses is what its sons use, or, of a leaf, its own. No program here.; Queues as plain data, part 7: whether there is room. No program here.; Queues as plain data, part 8: sums, use by use, along the ways. No program here. -/
import Derived.Test.YtdhifabhjlbjiaaIdlThree
set_option linter.all false
section
namespace Go.Idl

noncomputable def bodyOf (f : Func) : Code := f.body.getD .skip

/-- a queue -/
structure Q where
  Id : Int
  Par : Int
  Wt : Int
  QC : Int
  QM : Int
  MC : Int
  MM : Int
  deriving DecidableEq
@[simp] def encQ (q : Q) : D := .agg [.int .i64 q.Id, .int .i64 q.Par, .int .i64 q.Wt, .int .i64 q.QC, .int .i64 q.QM, .int .i64 q.MC, .int .i64 q.MM]
abbrev encL (b : Bool) (l : List Q) : D := .sl b 7 (l.map encQ)
abbrev I (n : Int) : D := .int .i64 n
abbrev encI (b : Bool) (l : List Int) : D := .sl b 1 (l.map I)
/-- of the kind -/
abbrev In64 (n : Int) : Prop := -9223372036854775808 ≤ n ∧ n ≤ 9223372036854775807
structure Q.ok (q : Q) : Prop where
  Id : In64 q.Id
  Par : In64 q.Par
  Wt : In64 q.Wt
  QC : In64 q.QC
  QM : In64 q.QM
  MC : In64 q.MC
  MM : In64 q.MM

theorem maxLen_i64 : maxLen ≤ 9223372036854775807 := by decide
@[simp] theorem isucc {i j : Nat} : ((i : Int) + 1 = (j : Int)) = (i + 1 = j) := propext ⟨fun h => by omega, fun h => by omega⟩
@[simp] theorem ione {j : Nat} : ((1 : Int) = (j : Int)) = (1 = j) := propext ⟨fun h => by omega, fun h => by omega⟩
theorem wrap1 {α : Type} {l : List α} {i : Nat} (hl : l.length ≤ maxLen) (h : i < l.length) : IntKind.i64.wrap ((i : Int) + 1) = ((i + 1 : Nat) : Int) := by
  have := maxLen_i64
  rw [wrap_i64 (by omega) (by omega)]; omega
theorem wrapm1 {α : Type} {l : List α} {i : Nat} (hl : l.length ≤ maxLen) (h : i < l.length) (h0 : 0 < i) : IntKind.i64.wrap ((i : Int) - 1) = ((i - 1 : Nat) : Int) := by
  have := maxLen_i64
  rw [wrap_i64 (by omega) (by omega)]; omega

def placeF (id : Int) : List Q → Nat → Int
  | [], _ => -1
  | q :: r, i => if q.Id = id then i else placeF id r (i + 1)
/-- where a queue stands; -1 -/
def place (l : List Q) (id : Int) : Int := placeF id l 0
def q0 : Q := ⟨0, 0, 0, 0, 0, 0, 0⟩
def has (l : List Q) (id : Int) : Bool := decide (0 ≤ place l id)
def find (l : List Q) (id : Int) : Q := if 0 ≤ place l id then l.getD (place l id).toNat q0 else q0
def good (a b : Int) : Bool := decide (0 ≤ a) && decide (a ≤ 1099511627776) && decide (0 ≤ b) && decide (b ≤ 1099511627776)
def fits (a b c d : Int) : Bool := decide (a ≤ c) && decide (b ≤ d)
def formAt (l : List Q) (i : Nat) (q : Q) : Bool := if i = 0 then decide (q.Id = 0) && decide (q.Par = -1) else decide ((l.getD (i - 1) q0).Id < q.Id) && decide (0 ≤ place (l.take i) q.Par)
def formF (l : List Q) : List Q → Nat → Bool
  | [], _ => decide (0 < l.length)
  | q :: r, i => formAt l i q && formF l r (i + 1)
def form (l : List Q) : Bool := formF l l 0
/-- the sum of what the sons must have -/
def sumMin (id : Int) : List Q → Int → Int → Int × Int
  | [], a, b => (a, b)
  | c :: r, a, b => if c.Par = id then sumMin id r (IntKind.i64.wrap (a + c.MC)) (IntKind.i64.wrap (b + c.MM)) else sumMin id r a b
def minsAt (l : List Q) (q : Q) : Bool := fits q.MC q.MM q.QC q.QM && fits (sumMin q.Id l 0 0).1 (sumMin q.Id l 0 0).2 q.MC q.MM
def minsF (l : List Q) : List Q → Bool
  | [] => true
  | q :: r => minsAt l q && minsF l r
def mins (l : List Q) : Bool := minsF l l
def okQ (q : Q) : Bool := decide (1 ≤ q.Wt) && decide (q.Wt ≤ 1048576) && good q.QC q.QM && good q.MC q.MM
def argsF : List Q → Bool
  | [] => true
  | q :: r => okQ q && argsF r
/-- what is wrong with a list -/
def check (l : List Q) : Int := if 64 < l.length then 3 else if form l = false then 4 else if argsF l = false then 1 else if mins l = false then 11 else 0
theorem check_len {l : List Q} (h : check l = 0) : 0 < l.length ∧ l.length ≤ 64 := by
  unfold check at h
  split at h
  · cases h
  · split at h
    · cases h
    · rename_i h1 h2
      cases l with
      | nil => simp [form, formF] at h2
      | cons q r => simp at h1 ⊢; omega

/-- the lists whose numbers rise -/
def Rises (l : List Q) : Prop := l.Pairwise fun a b => a.Id < b.Id
/-- how many numbers are lesser -/
def pos (l : List Q) (id : Int) : Nat := (l.takeWhile fun q => decide (q.Id < id)).length
theorem pos_le (l : List Q) (id : Int) : pos l id ≤ l.length := by
  unfold pos; exact (List.takeWhile_prefix _).length_le
theorem pos_spec : ∀ (l : List Q) (id : Int), Rises l → (∀ i (h : i < l.length), i < pos l id → l[i].Id < id) ∧ (∀ i (h : i < l.length), pos l id ≤ i → id ≤ l[i].Id) ∧ (∀ i, placeF id l i = if ∃ h : pos l id < l.length, l[pos l id].Id = id then ((i + pos l id : Nat) : Int) else -1)
  | [], id, _ => by simp [pos, placeF]
  | q :: r, id, hr => by
    unfold Rises at hr
    rw [List.pairwise_cons] at hr
    obtain ⟨i1, i2, i3⟩ := pos_spec r id hr.2
    by_cases h : q.Id < id
    · have hp : pos (q :: r) id = pos r id + 1 := by simp [pos, h]
      rw [hp]
      refine ⟨fun i hi hlt => ?_, fun i hi hle => ?_, fun i => ?_⟩
      · cases i with
        | zero => exact h
        | succ i => simpa using i1 i (by simpa using hi) (by omega)
      · cases i with
        | zero => omega
        | succ i => simpa using i2 i (by simpa using hi) (by omega)
      · rw [placeF, if_neg (by omega), i3 (i + 1)]
        simp only [List.length_cons, List.getElem_cons_succ]
        by_cases hc : ∃ h : pos r id < r.length, r[pos r id].Id = id
        · rw [if_pos hc, if_pos (by obtain ⟨a, b⟩ := hc; exact ⟨by omega, b⟩)]; omega
        · rw [if_neg hc, if_neg (by rintro ⟨a, b⟩; exact hc ⟨by omega, b⟩)]
    · have hp : pos (q :: r) id = 0 := by simp [pos, h]
      rw [hp]
      refine ⟨fun i hi hlt => by omega, fun i hi _ => ?_, fun i => ?_⟩
      · cases i with
        | zero => simp; omega
        | succ i =>
          have := hr.1 _ (List.getElem_mem (by simpa using hi : i < r.length))
          simp; omega
      · rw [placeF]
        simp only [List.length_cons, List.getElem_cons_zero]
        by_cases e : q.Id = id
        · rw [if_pos e, if_pos ⟨by omega, e⟩]; simp
        · rw [if_neg e, if_neg (by rintro ⟨_, h⟩; exact e h)]
          have hno : ¬ ∃ h : pos r id < r.length, r[pos r id].Id = id := by
            rintro ⟨hlt, he⟩
            have := hr.1 _ (List.getElem_mem hlt)
            omega
          rw [i3, if_neg hno]
theorem place_pos {l : List Q} {id : Int} (hr : Rises l) (h : has l id = true) : place l id = pos l id ∧ pos l id < l.length ∧ ∀ h : pos l id < l.length, l[pos l id].Id = id := by
  have := (pos_spec l id hr).2.2 0
  unfold has place at *
  simp only [decide_eq_true_eq] at h
  rw [this] at h ⊢
  split at h
  · rename_i hc; rw [if_pos hc]; obtain ⟨a, e⟩ := hc; exact ⟨by simp, a, fun _ => e⟩
  · omega
theorem has_iff {l : List Q} {id : Int} (hr : Rises l) : has l id = true ↔ ∃ h : pos l id < l.length, l[pos l id].Id = id := by
  refine ⟨fun h => ⟨(place_pos hr h).2.1, (place_pos hr h).2.2 _⟩, fun h => ?_⟩
  have := (pos_spec l id hr).2.2 0
  unfold has place
  rw [this, if_pos h]; simp
theorem rises_succ {l : List Q} {i : Nat} (hr : Rises (l.take i)) (h : i < l.length) (hlt : i = 0 ∨ ∃ h0 : i - 1 < l.length, l[i - 1].Id < l[i].Id) : Rises (l.take (i + 1)) := by
  unfold Rises at *
  rw [List.take_add_one, List.getElem?_eq_getElem h]
  simp only [Option.toList_some]
  rw [List.pairwise_append]
  refine ⟨hr, List.pairwise_singleton _ _, fun a ha c hc => ?_⟩
  simp at hc; subst hc
  obtain ⟨j, hj, rfl⟩ := List.getElem_of_mem ha
  simp only [List.length_take] at hj
  rcases hlt with rfl | ⟨h0, hlt⟩
  · omega
  · rw [List.getElem_take]
    by_cases e : j = i - 1
    · subst e; exact hlt
    · have := List.pairwise_iff_getElem.1 hr j (i - 1) (by simp; omega) (by simp; omega) (by omega)
      simp only [List.getElem_take] at this
      omega
theorem formF_rises (l : List Q) : ∀ (n i : Nat), n = l.length - i → i ≤ l.length → formF l (l.drop i) i = true → Rises (l.take i) → Rises l
  | 0, i, hn, hi, _, hr => by
    have : i = l.length := by omega
    subst this; rwa [List.take_length] at hr
  | n + 1, i, hn, hi, hf, hr => by
    have h : i < l.length := by omega
    rw [List.drop_eq_getElem_cons h, formF, Bool.and_eq_true] at hf
    refine formF_rises l n (i + 1) (by omega) (by omega) hf.2 (rises_succ hr h ?_)
    have h1 := hf.1
    unfold formAt at h1
    by_cases e : i = 0
    · exact .inl e
    · right
      rw [if_neg e] at h1
      have h2 : i - 1 < l.length := by omega
      refine ⟨h2, ?_⟩
      simp [h2] at h1
      exact h1.1
theorem form_rises {l : List Q} (h : form l = true) : Rises l := formF_rises l l.length 0 (by omega) (Nat.zero_le _) h List.Pairwise.nil
theorem check_rises {l : List Q} (h : check l = 0) : Rises l := by
  refine form_rises ?_
  unfold check at h
  split at h
  · cases h
  · split at h
    · cases h
    · rename_i h1 h2; simpa using h2
/-- what the comparison with a number tells -/
def cmpId (l : List Q) (id : Int) (i : Nat) : Int := if h : i < l.length then (if l[i].Id < id then -1 else if id < l[i].Id then 1 else 0) else 1
theorem cmpId_has {l : List Q} {id : Int} (hr : Rises l) : (decide (pos l id < l.length) && decide (cmpId l id (pos l id) = 0)) = has l id := by
  rw [Bool.eq_iff_iff, has_iff hr]
  simp only [Bool.and_eq_true, decide_eq_true_eq]
  constructor
  · rintro ⟨h, e⟩
    refine ⟨h, ?_⟩
    rw [cmpId, dif_pos h] at e
    split at e
    · cases e
    · split at e
      · cases e
      · omega
  · rintro ⟨h, e⟩
    refine ⟨h, ?_⟩
    rw [cmpId, dif_pos h, if_neg (by omega), if_neg (by omega)]

/-- the sons of a queue, with their places -/
def sonsF (id : Int) : List Q → Nat → List (Nat × Q)
  | [], _ => []
  | q :: r, i => if q.Par = id then (i, q) :: sonsF id r (i + 1) else sonsF id r (i + 1)
def sons (l : List Q) (id : Int) : List (Nat × Q) := sonsF id l 0
def sumF : List (Nat × Q) → Int → Int → Int × Int
  | [], a, b => (a, b)
  | c :: r, a, b => sumF r (IntKind.i64.wrap (a + c.2.MC)) (IntKind.i64.wrap (b + c.2.MM))
theorem sumMin_sons (id : Int) : ∀ (l : List Q) (i : Nat) (a b : Int), sumMin id l a b = sumF (sonsF id l i) a b
  | [], _, _, _ => rfl
  | q :: r, i, a, b => by
    unfold sumMin sonsF
    split
    · rw [sumMin_sons id r (i + 1)]; rfl
    · rw [sumMin_sons id r (i + 1)]
end Go.Idl
end
section
namespace Go.Idl
set_option linter.unusedSimpArgs false
set_option linter.unusedVariables false

theorem has_mem {l : List Q} {id : Int} : has l id = true ↔ ∃ q ∈ l, q.Id = id := by
  have key : ∀ (l : List Q) (i : Nat), 0 ≤ placeF id l i ↔ ∃ q ∈ l, q.Id = id := by
    intro l
    induction l with
    | nil => intro i; simp [placeF]
    | cons x r ih =>
      intro i
      unfold placeF
      split
      · rename_i e; simp [e]
      · rename_i e; rw [ih]; simp [e]
  unfold has place
  rw [decide_eq_true_eq, key]
/-- Drop -/
def sonIds (l : List Q) (id : Int) : List Int := (l.filter fun q => decide (q.Par = id)).map (·.Id)
end Go.Idl
end
section
namespace Go.Idl
set_option linter.unusedSimpArgs false
set_option linter.unusedVariables false

theorem check_form {l : List Q} (h : check l = 0) : form l = true := by
  unfold check at h
  split at h
  · cases h
  · split at h
    · cases h
    · rename_i h1 h2; simpa using h2
theorem formF_at (l : List Q) : ∀ (r : List Q) (i : Nat), formF l r i = true → ∀ j (h : j < r.length), formAt l (i + j) r[j] = true
  | [], _, _, j, h => by simp at h
  | q :: r, i, hf, j, h => by
    rw [formF, Bool.and_eq_true] at hf
    cases j with
    | zero => exact hf.1
    | succ j =>
      have := formF_at l r (i + 1) hf.2 j (by simpa using h)
      rw [show i + (j + 1) = i + 1 + j by omega]
      simpa using this
theorem form_at {l : List Q} (h : form l = true) {i : Nat} (hi : i < l.length) : formAt l i l[i] = true := by
  have := formF_at l l 0 h i hi
  simpa using this
theorem form_root {l : List Q} (h : form l = true) (h0 : 0 < l.length) : l[0].Id = 0 ∧ l[0].Par = -1 := by
  have := form_at h h0
  simpa [formAt] using this
theorem form_par {l : List Q} (h : form l = true) {i : Nat} (hi : i < l.length) (h0 : 0 < i) : ∃ j, ∃ hj : j < l.length, j < i ∧ l[j].Id = l[i].Par := by
  have := form_at h hi
  rw [formAt, if_neg (by omega), Bool.and_eq_true] at this
  have h2 : has (l.take i) l[i].Par = true := this.2
  rw [has_mem] at h2
  obtain ⟨q, hq, e⟩ := h2
  obtain ⟨j, hj, rfl⟩ := List.getElem_of_mem hq
  simp only [List.length_take] at hj
  exact ⟨j, by omega, by omega, by simpa using e⟩
theorem form_pos {l : List Q} (h : form l = true) : 0 < l.length := by
  cases l with
  | nil => simp [form, formF] at h
  | cons q r => simp
theorem rises_lt {l : List Q} (hr : Rises l) {i j : Nat} (hi : i < l.length) (hj : j < l.length) (h : i < j) : l[i].Id < l[j].Id :=
  List.pairwise_iff_getElem.1 hr i j hi hj h
theorem rises_inj {l : List Q} (hr : Rises l) {i j : Nat} (hi : i < l.length) (hj : j < l.length) (h : l[i].Id = l[j].Id) : i = j := by
  rcases Nat.lt_trichotomy i j with k | k | k
  · have := rises_lt hr hi hj k; omega
  · exact k
  · have := rises_lt hr hj hi k; omega
theorem id_nonneg {l : List Q} (h : form l = true) {i : Nat} (hi : i < l.length) : 0 ≤ l[i].Id := by
  have h0 := (form_root h (by omega)).1
  rcases Nat.eq_zero_or_pos i with rfl | k
  · omega
  · have := rises_lt (form_rises h) (by omega : 0 < l.length) hi k; omega
theorem has_nonneg {l : List Q} {id : Int} (h : form l = true) (hh : has l id = true) : 0 ≤ id := by
  rw [has_mem] at hh
  obtain ⟨q, hq, rfl⟩ := hh
  obtain ⟨j, hj, rfl⟩ := List.getElem_of_mem hq
  exact id_nonneg h hj
theorem has_at {l : List Q} {i : Nat} (hi : i < l.length) : has l l[i].Id = true := has_mem.2 ⟨_, List.getElem_mem hi, rfl⟩
theorem pos_at {l : List Q} (hr : Rises l) {i : Nat} (hi : i < l.length) : pos l l[i].Id = i := by
  obtain ⟨_, h2, h3⟩ := place_pos hr (has_at hi)
  exact rises_inj hr h2 hi (h3 h2)
theorem find_pos {l : List Q} {id : Int} (hr : Rises l) (hh : has l id = true) (h : pos l id < l.length) : find l id = l[pos l id] := by
  obtain ⟨h1, _, _⟩ := place_pos hr hh
  unfold find
  rw [h1, if_pos (by omega)]
  simp [h]
theorem find_Id {l : List Q} {id : Int} (hr : Rises l) (hh : has l id = true) : (find l id).Id = id := by
  obtain ⟨_, h2, h3⟩ := place_pos hr hh
  rw [find_pos hr hh h2]; exact h3 h2

/-- how far a queue stands from the list's head, 0 for what is none -/
def rank (l : List Q) (id : Int) : Nat := if has l id = true then pos l id + 1 else 0
theorem rank_par {l : List Q} {id : Int} (h : form l = true) (hh : has l id = true) : rank l (find l id).Par < rank l id := by
  have hr := form_rises h
  obtain ⟨_, h2, h3⟩ := place_pos hr hh
  rw [find_pos hr hh h2]
  have e : rank l id = pos l id + 1 := by simp [rank, hh]
  rw [e]
  generalize hp : pos l id = i at h2 ⊢
  rcases Nat.eq_zero_or_pos i with rfl | k
  · have := (form_root h h2).2
    rw [this]
    have : has l (-1) = false := by
      cases e : has l (-1) with
      | false => rfl
      | true => have := has_nonneg h e; omega
    simp [rank, this]
  · obtain ⟨j, hj, hji, e⟩ := form_par h h2 k
    rw [← e]
    simp only [rank, has_at hj, pos_at hr hj, if_true]; omega
theorem rank_le {l : List Q} (id : Int) (hr : Rises l) : rank l id ≤ l.length := by
  unfold rank
  split
  · rename_i h; have := (place_pos hr h).2.1; omega
  · omega
/-- a queue and all above it, with their places -/
def upF (l : List Q) : Nat → Int → List (Nat × Q)
  | 0, _ => []
  | n + 1, id => if has l id = true then (pos l id, find l id) :: upF l n (find l id).Par else []
def up (l : List Q) (id : Int) : List (Nat × Q) := upF l l.length id
theorem upF_stable {l : List Q} (h : form l = true) : ∀ (n m : Nat) (id : Int), rank l id ≤ n → rank l id ≤ m → upF l n id = upF l m id
  | 0, m, id, hn, hm => by
    have : has l id = false := by
      cases e : has l id with
      | false => rfl
      | true => simp [rank, e] at hn
    cases m <;> simp [upF, this]
  | n + 1, 0, id, hn, hm => by
    have : has l id = false := by
      cases e : has l id with
      | false => rfl
      | true => simp [rank, e] at hm
    simp [upF, this]
  | n + 1, m + 1, id, hn, hm => by
    unfold upF
    split
    · rename_i hh
      have := rank_par h hh
      rw [upF_stable h n m _ (by omega) (by omega)]
    · rfl
theorem up_eq {l : List Q} (h : form l = true) (id : Int) : up l id = if has l id = true then (pos l id, find l id) :: up l (find l id).Par else [] := by
  have h0 := form_pos h
  have hr := form_rises h
  unfold up
  rw [upF_stable h l.length (l.length + 1) id (rank_le id hr) (Nat.le_succ_of_le (rank_le id hr)), upF]
/-- the way to the root -/
def path (l : List Q) (id : Int) : List Int := (up l id).map fun p => p.2.Id
theorem path_eq {l : List Q} (h : form l = true) (id : Int) : path l id = if has l id = true then id :: path l (find l id).Par else [] := by
  unfold path
  rw [up_eq h id]
  split
  · rename_i hh
    simp [find_Id (form_rises h) hh]
  · rfl
theorem up_at {l : List Q} (h : form l = true) : ∀ (n : Nat) (id : Int), rank l id ≤ n → ∀ p ∈ up l id, ∃ hp : p.1 < l.length, p.2 = l[p.1]
  | n, id, hn, p, hp => by
    rw [up_eq h id] at hp
    split at hp
    · rename_i hh
      rcases List.mem_cons.1 hp with rfl | hp
      · have h2 := (place_pos (form_rises h) hh).2.1
        exact ⟨h2, find_pos (form_rises h) hh h2⟩
      · have := rank_par h hh
        cases n with
        | zero => omega
        | succ n => exact up_at h n _ (by omega) p hp
    · cases hp
theorem up_mem {l : List Q} (h : form l = true) {id : Int} {p : Nat × Q} (hp : p ∈ up l id) : ∃ hp : p.1 < l.length, p.2 = l[p.1] := up_at h _ id (Nat.le_refl _) p hp
/-- what the walk down meets -/
def downF (id : Int) : List Q → List Int → List Int
  | [], _ => []
  | q :: r, m => if q.Id = id ∨ q.Par ∈ m then q.Id :: downF id r (m ++ [q.Id]) else downF id r m
def down (l : List Q) (id : Int) : List Int := downF id l []
/-- a queue and all below it -/
def below (l : List Q) (id : Int) : List Int := (l.filter fun q => decide (id ∈ path l q.Id)).map (·.Id)
end Go.Idl
end
section
namespace Go.Idl
set_option linter.unusedSimpArgs false
set_option linter.unusedVariables false

/-- what a leaf uses -/
structure U where
  q : Int
  c : Int
  m : Int
  deriving DecidableEq
@[simp] def encU (u : U) : D := .agg [.int .i64 u.q, .int .i64 u.c, .int .i64 u.m]
@[simp] def encV (v : Int × Int) : D := .agg [.int .i64 v.1, .int .i64 v.2]
/-- what uses are together at a queue and below it -/
def totF (l : List Q) (id : Int) : List U → Int × Int → Int × Int
  | [], s => s
  | u :: r, s => totF l id r (if id ∈ path l u.q then (s.1 + u.c, s.2 + u.m) else s)
def tot (l : List Q) (uses : List U) (id : Int) : Int × Int := totF l id uses (0, 0)
def useE (l : List Q) (u : U) : Int := if has l u.q = false then 8 else if sonIds l u.q ≠ [] then 14 else if good u.c u.m = false then 1 else 0
def usesE (l : List Q) : List U → Int
  | [] => 0
  | u :: r => if useE l u ≠ 0 then useE l u else usesE l r
def goodP (v : Int × Int) : Bool := good v.1 v.2
def sumsL (l : List Q) (uses : List U) : List (Int × Int) := l.map fun q => tot l uses q.Id
def overs (l : List Q) (uses : List U) : Bool := (sumsL l uses).any fun v => !goodP v
def sumsE (l : List Q) (uses : List U) : Int := if check l ≠ 0 then check l else if usesE l uses ≠ 0 then usesE l uses else if overs l uses = true then 2 else 0
theorem good_iff {a b : Int} : good a b = true ↔ (0 ≤ a ∧ a ≤ 1099511627776) ∧ 0 ≤ b ∧ b ≤ 1099511627776 := by
  simp [good, and_assoc]
theorem totF_snoc (l : List Q) (id : Int) (u : U) : ∀ (r : List U) (s : Int × Int), totF l id (r ++ [u]) s = (if id ∈ path l u.q then ((totF l id r s).1 + u.c, (totF l id r s).2 + u.m) else totF l id r s)
  | [], s => rfl
  | v :: r, s => by
    rw [List.cons_append, totF, totF_snoc l id u r]; rfl
theorem tot_snoc (l : List Q) (id : Int) (u : U) (r : List U) : tot l (r ++ [u]) id = (if id ∈ path l u.q then ((tot l r id).1 + u.c, (tot l r id).2 + u.m) else tot l r id) := totF_snoc l id u r _
theorem usesE_mem {l : List Q} : ∀ {uses : List U}, usesE l uses = 0 → ∀ u ∈ uses, useE l u = 0
  | [], _, u, hu => by cases hu
  | v :: r, h, u, hu => by
    unfold usesE at h
    split at h
    · rename_i h1; exact absurd h h1
    · rename_i h1
      rcases List.mem_cons.1 hu with rfl | hu
      · simpa using h1
      · exact usesE_mem h u hu
theorem useE_zero {l : List Q} {u : U} (h : useE l u = 0) : has l u.q = true ∧ sonIds l u.q = [] ∧ good u.c u.m = true := by
  unfold useE at h
  split at h
  · cases h
  · split at h
    · cases h
    · split at h
      · cases h
      · rename_i h1 h2 h3
        exact ⟨by simpa using h1, by simpa using h2, by simpa using h3⟩
/-- amounts that are right -/
abbrev Goods (uses : List U) : Prop := ∀ u ∈ uses, good u.c u.m = true
theorem goods_of {l : List Q} {uses : List U} (h : usesE l uses = 0) : Goods uses := fun u hu => (useE_zero (usesE_mem h u hu)).2.2
theorem totF_ge (l : List Q) (id : Int) : ∀ (r : List U) (s : Int × Int), Goods r → s.1 ≤ (totF l id r s).1 ∧ s.2 ≤ (totF l id r s).2
  | [], s, _ => ⟨Int.le_refl _, Int.le_refl _⟩
  | u :: r, s, h => by
    have hu := good_iff.1 (h u (by simp))
    have ih := totF_ge l id r (if id ∈ path l u.q then (s.1 + u.c, s.2 + u.m) else s) fun v hv => h v (by simp [hv])
    rw [totF]
    split at ih
    · rename_i e; rw [if_pos e]; simp only at ih; omega
    · rename_i e; rw [if_neg e]; exact ih
theorem totF_append (l : List Q) (id : Int) : ∀ (a b : List U) (s : Int × Int), totF l id (a ++ b) s = totF l id b (totF l id a s)
  | [], b, s => rfl
  | u :: a, b, s => by rw [List.cons_append, totF, totF_append l id a b]; rfl
theorem tot_take_le {l : List Q} {uses : List U} (h : Goods uses) (id : Int) (k : Nat) : (tot l (uses.take k) id).1 ≤ (tot l uses id).1 ∧ (tot l (uses.take k) id).2 ≤ (tot l uses id).2 := by
  have e : tot l uses id = totF l id (uses.drop k) (tot l (uses.take k) id) := by
    conv => lhs; rw [← List.take_append_drop k uses]
    exact totF_append l id _ _ _
  rw [e]
  exact totF_ge l id _ _ fun u hu => h u (List.mem_of_mem_drop hu)

end Go.Idl
end
section
namespace Go.Idl
set_option linter.unusedSimpArgs false
set_option linter.unusedVariables false

theorem path_self {l : List Q} (h : form l = true) {id : Int} (hh : has l id = true) : id ∈ path l id := by
  rw [path_eq h, if_pos hh]; exact List.mem_cons_self
end Go.Idl
end
section
namespace Go.Idl
set_option linter.unusedSimpArgs false
set_option linter.unusedVariables false

def sumI {α : Type} (f : α → Int) (l : List α) : Int := (l.map f).sum
theorem sumI_nil {α : Type} (f : α → Int) : sumI f [] = 0 := rfl
theorem sumI_cons {α : Type} (f : α → Int) (x : α) (l : List α) : sumI f (x :: l) = f x + sumI f l := by simp [sumI]
theorem sumI_snoc {α : Type} (f : α → Int) (a : List α) (x : α) : sumI f (a ++ [x]) = sumI f a + f x := by simp [sumI]
theorem sumI_zero {α : Type} {f : α → Int} : ∀ {l : List α}, (∀ x ∈ l, f x = 0) → sumI f l = 0
  | [], _ => rfl
  | x :: l, h => by rw [sumI_cons, h x (by simp), sumI_zero fun y hy => h y (by simp [hy])]; rfl
theorem sumI_add {α : Type} (f g : α → Int) : ∀ (l : List α), sumI (fun x => f x + g x) l = sumI f l + sumI g l
  | [] => rfl
  | x :: l => by rw [sumI_cons, sumI_cons, sumI_cons, sumI_add f g l]; omega
theorem sumI_congr {α : Type} {f g : α → Int} : ∀ {l : List α}, (∀ x ∈ l, f x = g x) → sumI f l = sumI g l
  | [], _ => rfl
  | x :: l, h => by rw [sumI_cons, sumI_cons, h x (by simp), sumI_congr fun y hy => h y (by simp [hy])]
theorem sumI_le {α : Type} {f g : α → Int} : ∀ {l : List α}, (∀ x ∈ l, f x ≤ g x) → sumI f l ≤ sumI g l
  | [], _ => Int.le_refl _
  | x :: l, h => by
    have h1 := h x (by simp)
    have h2 := sumI_le (f := f) (g := g) (l := l) fun y hy => h y (by simp [hy])
    rw [sumI_cons, sumI_cons]; omega
theorem sumI_nonneg {α : Type} {f : α → Int} {l : List α} (h : ∀ x ∈ l, 0 ≤ f x) : 0 ≤ sumI f l := by
  have := sumI_le (f := fun _ => (0 : Int)) (g := f) (l := l) h
  rw [sumI_zero (fun _ _ => rfl)] at this; exact this
end Go.Idl
end
section
namespace Go.Idl
set_option linter.unusedSimpArgs false
set_option linter.unusedVariables false

theorem sumsE_zero {l : List Q} {uses : List U} : sumsE l uses = 0 ↔ check l = 0 ∧ usesE l uses = 0 ∧ overs l uses = false := by
  unfold sumsE
  by_cases h1 : check l = 0
  · by_cases h2 : usesE l uses = 0
    · by_cases h3 : overs l uses = true
      · simp [h1, h2, h3]
      · simp [h1, h2, h3]
    · simp [h1, h2]
  · simp [h1]
theorem overs_iff {l : List Q} {uses : List U} : overs l uses = false ↔ ∀ q ∈ l, goodP (tot l uses q.Id) = true := by
  simp [overs, sumsL]
theorem args_mem : ∀ {l : List Q}, argsF l = true → ∀ q ∈ l, okQ q = true
  | [], _, q, h => by cases h
  | x :: r, h, q, hq => by
    rw [argsF, Bool.and_eq_true] at h
    rcases List.mem_cons.1 hq with rfl | hq
    · exact h.1
    · exact args_mem h.2 q hq
theorem check_args {l : List Q} (h : check l = 0) : argsF l = true := by
  unfold check at h
  split at h
  · cases h
  · split at h
    · cases h
    · split at h
      · cases h
      · rename_i h1 h2 h3; simpa using h3
end Go.Idl
end
section
namespace Go.Idl
set_option linter.unusedSimpArgs false
set_option linter.unusedVariables false

theorem up_lt {l : List Q} (h : form l = true) : ∀ (n : Nat) (id : Int), rank l id ≤ n → ∀ p ∈ up l id, p.1 < rank l id
  | n, id, hn, p, hp => by
    rw [up_eq h id] at hp
    split at hp
    · rename_i hh
      have e : rank l id = pos l id + 1 := by simp [rank, hh]
      rcases List.mem_cons.1 hp with rfl | hp
      · simp only; omega
      · have := rank_par h hh
        cases n with
        | zero => omega
        | succ n => have := up_lt h n _ (by omega) p hp; omega
    · cases hp
theorem up_sorted {l : List Q} (h : form l = true) : ∀ (n : Nat) (id : Int), rank l id ≤ n → ((up l id).map (·.1)).Pairwise fun a b => b < a
  | n, id, hn => by
    rw [up_eq h id]
    split
    · rename_i hh
      have e : rank l id = pos l id + 1 := by simp [rank, hh]
      have hlt := rank_par h hh
      rw [List.map_cons, List.pairwise_cons]
      refine ⟨fun a ha => ?_, ?_⟩
      · obtain ⟨p, hp, rfl⟩ := List.mem_map.1 ha
        have := up_lt h _ _ (Nat.le_refl _) p hp
        simp only; omega
      · cases n with
        | zero => omega
        | succ n => exact up_sorted h n _ (by omega)
    · exact List.Pairwise.nil
theorem up_new {l : List Q} (h : form l = true) (id : Int) {k : Nat} (hk : k < (up l id).length) : (up l id)[k].1 ∉ ((up l id).take k).map (·.1) := by
  intro hm
  obtain ⟨p, hp, e⟩ := List.mem_map.1 hm
  obtain ⟨j, hj, rfl⟩ := List.getElem_of_mem hp
  simp only [List.length_take] at hj
  rw [List.getElem_take] at e
  have := List.pairwise_iff_getElem.1 (up_sorted h _ id (Nat.le_refl _)) j k (by simp; omega) (by simpa using hk) (by omega)
  simp only [List.getElem_map] at this
  omega
theorem up_path_iff {l : List Q} (h : form l = true) (id : Int) {j : Nat} (hj : j < l.length) : j ∈ (up l id).map (·.1) ↔ l[j].Id ∈ path l id := by
  have hr := form_rises h
  constructor
  · intro hm
    obtain ⟨p, hp, rfl⟩ := List.mem_map.1 hm
    obtain ⟨h1, h2⟩ := up_mem h hp
    exact List.mem_map.2 ⟨p, hp, by rw [h2]⟩
  · intro hm
    obtain ⟨p, hp, e⟩ := List.mem_map.1 hm
    obtain ⟨h1, h2⟩ := up_mem h hp
    rw [h2] at e
    exact List.mem_map.2 ⟨p, hp, rises_inj hr h1 hj e⟩

/-- what a use has made of the sums, k steps up -/
def Upd (l : List Q) (u : U) (k : Nat) (m m' : List (Int × Int)) : Prop :=
  m'.length = m.length ∧ ∀ j (h : j < m'.length) (h' : j < m.length), m'[j] = if j ∈ ((up l u.q).take k).map (·.1) then (m[j].1 + u.c, m[j].2 + u.m) else m[j]
theorem upd_zero (l : List Q) (u : U) (m : List (Int × Int)) : Upd l u 0 m m := ⟨rfl, fun j _ _ => by simp⟩
theorem upd_at {l : List Q} (h : form l = true) {u : U} {k : Nat} {m m' : List (Int × Int)} (hu : Upd l u k m m') (hk : k < (up l u.q).length) (h1 : (up l u.q)[k].1 < m'.length) (h2 : (up l u.q)[k].1 < m.length) : m'[(up l u.q)[k].1] = m[(up l u.q)[k].1] := by
  rw [hu.2 _ h1 h2, if_neg (up_new h u.q hk)]
theorem upd_step {l : List Q} (h : form l = true) {u : U} {k : Nat} {m m' : List (Int × Int)} (hu : Upd l u k m m') (hk : k < (up l u.q).length) (h1 : (up l u.q)[k].1 < m'.length) :
    Upd l u (k + 1) m (m'.set (up l u.q)[k].1 (m'[(up l u.q)[k].1].1 + u.c, m'[(up l u.q)[k].1].2 + u.m)) := by
  have h2 : (up l u.q)[k].1 < m.length := by rw [← hu.1]; exact h1
  refine ⟨by rw [List.length_set]; exact hu.1, fun j hj hj' => ?_⟩
  rw [List.length_set] at hj
  rw [List.getElem_set, List.take_add_one, List.getElem?_eq_getElem hk, Option.toList_some, List.map_append]
  by_cases e : (up l u.q)[k].1 = j
  · subst e
    rw [if_pos rfl, upd_at h hu hk h1 h2, if_pos (by simp)]
  · rw [if_neg e, hu.2 j hj hj']
    have : (j ∈ ((up l u.q).take k).map (·.1) ++ [(up l u.q)[k]].map (·.1)) ↔ j ∈ ((up l u.q).take k).map (·.1) := by
      rw [List.mem_append]
      constructor
      · rintro (k1 | k1)
        · exact k1
        · simp at k1; exact absurd k1.symm e
      · exact .inl
    simp only [this]
/-- between two uses -/
structure SInv (l : List Q) (uses : List U) (i : Nat) (m : List (Int × Int)) (over : Bool) : Prop where
  len : m.length = l.length
  le : ∀ j (h : j < m.length) (h' : j < l.length), m[j].1 ≤ (tot l (uses.take i) l[j].Id).1 ∧ m[j].2 ≤ (tot l (uses.take i) l[j].Id).2
  good : ∀ j (h : j < m.length), goodP m[j] = true
  no : over = false → m = sumsL l (uses.take i)
  yes : over = true → overs l uses = true
theorem sinv_zero (l : List Q) (uses : List U) : SInv l uses 0 (List.replicate l.length (0, 0)) false := by
  have e : ∀ id, tot l (uses.take 0) id = (0, 0) := fun id => rfl
  refine ⟨by simp, fun j h h' => ?_, fun j h => ?_, fun _ => ?_, fun h => by cases h⟩
  · rw [e]; simp
  · simp; rfl
  · unfold sumsL
    refine List.ext_getElem (by simp) fun j h1 h2 => ?_
    simp [tot, totF]
theorem take_tot {l : List Q} {uses : List U} {i : Nat} (h : i < uses.length) (id : Int) : tot l (uses.take (i + 1)) id = if id ∈ path l uses[i].q then ((tot l (uses.take i) id).1 + uses[i].c, (tot l (uses.take i) id).2 + uses[i].m) else tot l (uses.take i) id := by
  rw [List.take_add_one, List.getElem?_eq_getElem h, Option.toList_some, tot_snoc]
theorem upd_le {l : List Q} {uses : List U} {i k : Nat} {m m' : List (Int × Int)} {over : Bool} (h : form l = true) (hg : Goods uses) (hs : SInv l uses i m over) (hi : i < uses.length) (hu : Upd l uses[i] k m m') (j : Nat) (h1 : j < m'.length) (h2 : j < l.length) :
    m'[j].1 ≤ (tot l (uses.take (i + 1)) l[j].Id).1 ∧ m'[j].2 ≤ (tot l (uses.take (i + 1)) l[j].Id).2 := by
  have h3 : j < m.length := by rw [hs.len]; exact h2
  have h4 := hs.le j h3 h2
  have h5 := good_iff.1 (hg _ (List.getElem_mem hi))
  have hz := hu.2 j h1 h3
  rw [take_tot hi, hz]
  by_cases a : j ∈ ((up l uses[i].q).take k).map (·.1)
  · have b : l[j].Id ∈ path l uses[i].q := by
      rw [← up_path_iff h _ h2]
      obtain ⟨p, hp, e⟩ := List.mem_map.1 a
      exact List.mem_map.2 ⟨p, List.mem_of_mem_take hp, e⟩
    rw [if_pos a, if_pos b]; simp only; omega
  · rw [if_neg a]
    split
    · simp only; omega
    · exact h4
theorem sinv_full {l : List Q} {uses : List U} {i : Nat} {m m' : List (Int × Int)} {over : Bool} (h : form l = true) (hg : Goods uses) (hs : SInv l uses i m over) (hi : i < uses.length) (hu : Upd l uses[i] (up l uses[i].q).length m m') (hgood : ∀ j (h : j < m'.length), goodP m'[j] = true) : SInv l uses (i + 1) m' over := by
  refine ⟨hu.1.trans hs.len, fun j h1 h2 => upd_le h hg hs hi hu j h1 h2, hgood, fun ho => ?_, hs.yes⟩
  have hm := hs.no ho
  unfold sumsL
  refine List.ext_getElem (by simp [hu.1, hs.len]) fun j h1 h2 => ?_
  have h3 : j < l.length := by simpa using h2
  have h4 : j < m.length := by rw [hs.len]; exact h3
  have hz := hu.2 j h1 h4
  have hmj : m[j] = tot l (uses.take i) l[j].Id := by simp [hm, sumsL]
  rw [hz, List.getElem_map, take_tot hi, hmj, List.take_of_length_le (Nat.le_refl _)]
  simp only [up_path_iff h _ h3]
theorem sinv_over {l : List Q} {uses : List U} {i k : Nat} {m m' : List (Int × Int)} {over : Bool} (h : form l = true) (hg : Goods uses) (hs : SInv l uses i m over) (hi : i < uses.length) (hu : Upd l uses[i] k m m') (hgood : ∀ j (h : j < m'.length), goodP m'[j] = true) (hk : k < (up l uses[i].q).length) (h1 : (up l uses[i].q)[k].1 < m'.length)
    (hbad : good (m'[(up l uses[i].q)[k].1].1 + uses[i].c) (m'[(up l uses[i].q)[k].1].2 + uses[i].m) = false) : SInv l uses (i + 1) m' true := by
  refine ⟨hu.1.trans hs.len, fun j h1 h2 => upd_le h hg hs hi hu j h1 h2, hgood, fun h => by (cases h), fun _ => ?_⟩
  obtain ⟨h2, h3⟩ := up_mem h (List.getElem_mem hk)
  have h4 : (up l uses[i].q)[k].1 < m.length := by rw [hs.len]; exact h2
  rw [upd_at h hu hk h1 h4] at hbad
  generalize (up l uses[i].q)[k].1 = p at *
  have h5 := hs.le p h4 h2
  have h6 := good_iff.1 (hg _ (List.getElem_mem hi))
  have h7 := good_iff.1 (hs.good p h4)
  have hmem : l[p].Id ∈ path l uses[i].q := by
    unfold path; rw [List.mem_map]
    exact ⟨_, List.getElem_mem hk, by rw [h3]⟩
  have h8 := take_tot (l := l) hi l[p].Id
  rw [if_pos hmem] at h8
  have h9 := tot_take_le (l := l) hg l[p].Id (i + 1)
  rw [h8] at h9
  simp only at h9
  cases ho : overs l uses with
  | true => rfl
  | false =>
    have := good_iff.1 (overs_iff.1 ho l[p] (List.getElem_mem h2))
    have hbad' : ¬ (good (m[p].1 + uses[i].c) (m[p].2 + uses[i].m) = true) := by rw [hbad]; simp
    exact absurd (good_iff.2 ⟨by omega, by omega⟩) hbad'
end Go.Idl
end
