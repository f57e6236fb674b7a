/- Queues as plain data: what the document's answer and the program compute on them. No program here.; Queues as plain data, part 2: lists with a queue more, changed, less. No program here.; Queues as plain data, part 3: ways to the root, what is below a queue, the leaves. No program here.; Queues as plain data, part 4: uses and their sums. No program here.; Queues as plain data, part 5: what was added can be dropped, what was set can be set back; the shape of ways. No program here. -/
import Derived.Test.YtdhifabhjlbjiaaIdlThree
set_option linter.all false
section
namespace Go.Idl

noncomputable def bodyOf (f : Func) : Code := f.body.getD .skip

/-- a queue -/
structure Q where
  Id : Int
  Par : Int
  Wt : Int
  QC : Int
  QM : Int
  MC : Int
  MM : Int
  deriving DecidableEq
@[simp] def encQ (q : Q) : D := .agg [.int .i64 q.Id, .int .i64 q.Par, .int .i64 q.Wt, .int .i64 q.QC, .int .i64 q.QM, .int .i64 q.MC, .int .i64 q.MM]
abbrev encL (b : Bool) (l : List Q) : D := .sl b 7 (l.map encQ)
abbrev I (n : Int) : D := .int .i64 n
abbrev encI (b : Bool) (l : List Int) : D := .sl b 1 (l.map I)
/-- of the kind -/
abbrev In64 (n : Int) : Prop := -9223372036854775808 ≤ n ∧ n ≤ 9223372036854775807
structure Q.ok (q : Q) : Prop where
  Id : In64 q.Id
  Par : In64 q.Par
  Wt : In64 q.Wt
  QC : In64 q.QC
  QM : In64 q.QM
  MC : In64 q.MC
  MM : In64 q.MM

theorem maxLen_i64 : maxLen ≤ 9223372036854775807 := by decide
@[simp] theorem isucc {i j : Nat} : ((i : Int) + 1 = (j : Int)) = (i + 1 = j) := propext ⟨fun h => by omega, fun h => by omega⟩
@[simp] theorem ione {j : Nat} : ((1 : Int) = (j : Int)) = (1 = j) := propext ⟨fun h => by omega, fun h => by omega⟩
theorem wrap1 {α : Type} {l : List α} {i : Nat} (hl : l.length ≤ maxLen) (h : i < l.length) : IntKind.i64.wrap ((i : Int) + 1) = ((i + 1 : Nat) : Int) := by
  have := maxLen_i64
  rw [wrap_i64 (by omega) (by omega)]; omega
theorem wrapm1 {α : Type} {l : List α} {i : Nat} (hl : l.length ≤ maxLen) (h : i < l.length) (h0 : 0 < i) : IntKind.i64.wrap ((i : Int) - 1) = ((i - 1 : Nat) : Int) := by
  have := maxLen_i64
  rw [wrap_i64 (by omega) (by omega)]; omega

def placeF (id : Int) : List Q → Nat → Int
  | [], _ => -1
  | q :: r, i => if q.Id = id then i else placeF id r (i + 1)
/-- where a queue stands; -1 -/
def place (l : List Q) (id : Int) : Int := placeF id l 0
theorem placeF_range (id : Int) : ∀ (l : List Q) (i : Nat), 0 ≤ placeF id l i → (i : Int) ≤ placeF id l i ∧ placeF id l i < i + l.length
  | [], i, h => by simp [placeF] at h
  | q :: r, i, h => by
    unfold placeF at h ⊢
    split
    · simp; omega
    · rename_i e
      rw [if_neg e] at h
      have := placeF_range id r (i + 1) h
      simp at this ⊢; omega
theorem place_lt {l : List Q} {id : Int} (h : 0 ≤ place l id) : (place l id).toNat < l.length ∧ place l id < l.length := by
  have := placeF_range id l 0 h
  unfold place at *; omega
def q0 : Q := ⟨0, 0, 0, 0, 0, 0, 0⟩
def has (l : List Q) (id : Int) : Bool := decide (0 ≤ place l id)
def find (l : List Q) (id : Int) : Q := if 0 ≤ place l id then l.getD (place l id).toNat q0 else q0
def good (a b : Int) : Bool := decide (0 ≤ a) && decide (a ≤ 1099511627776) && decide (0 ≤ b) && decide (b ≤ 1099511627776)
def fits (a b c d : Int) : Bool := decide (a ≤ c) && decide (b ≤ d)
def formAt (l : List Q) (i : Nat) (q : Q) : Bool := if i = 0 then decide (q.Id = 0) && decide (q.Par = -1) else decide ((l.getD (i - 1) q0).Id < q.Id) && decide (0 ≤ place (l.take i) q.Par)
def formF (l : List Q) : List Q → Nat → Bool
  | [], _ => decide (0 < l.length)
  | q :: r, i => formAt l i q && formF l r (i + 1)
def form (l : List Q) : Bool := formF l l 0
/-- the sum of what the sons must have -/
def sumMin (id : Int) : List Q → Int → Int → Int × Int
  | [], a, b => (a, b)
  | c :: r, a, b => if c.Par = id then sumMin id r (IntKind.i64.wrap (a + c.MC)) (IntKind.i64.wrap (b + c.MM)) else sumMin id r a b
def minsAt (l : List Q) (q : Q) : Bool := fits q.MC q.MM q.QC q.QM && fits (sumMin q.Id l 0 0).1 (sumMin q.Id l 0 0).2 q.MC q.MM
def minsF (l : List Q) : List Q → Bool
  | [] => true
  | q :: r => minsAt l q && minsF l r
def mins (l : List Q) : Bool := minsF l l
def okQ (q : Q) : Bool := decide (1 ≤ q.Wt) && decide (q.Wt ≤ 1048576) && good q.QC q.QM && good q.MC q.MM
def argsF : List Q → Bool
  | [] => true
  | q :: r => okQ q && argsF r
/-- what is wrong with a list -/
def check (l : List Q) : Int := if 64 < l.length then 3 else if form l = false then 4 else if argsF l = false then 1 else if mins l = false then 11 else 0
theorem check_len {l : List Q} (h : check l = 0) : 0 < l.length ∧ l.length ≤ 64 := by
  unfold check at h
  split at h
  · cases h
  · split at h
    · cases h
    · rename_i h1 h2
      cases l with
      | nil => simp [form, formF] at h2
      | cons q r => simp at h1 ⊢; omega

/-- the lists whose numbers rise -/
def Rises (l : List Q) : Prop := l.Pairwise fun a b => a.Id < b.Id
/-- how many numbers are lesser -/
def pos (l : List Q) (id : Int) : Nat := (l.takeWhile fun q => decide (q.Id < id)).length
theorem pos_le (l : List Q) (id : Int) : pos l id ≤ l.length := by
  unfold pos; exact (List.takeWhile_prefix _).length_le
theorem pos_spec : ∀ (l : List Q) (id : Int), Rises l → (∀ i (h : i < l.length), i < pos l id → l[i].Id < id) ∧ (∀ i (h : i < l.length), pos l id ≤ i → id ≤ l[i].Id) ∧ (∀ i, placeF id l i = if ∃ h : pos l id < l.length, l[pos l id].Id = id then ((i + pos l id : Nat) : Int) else -1)
  | [], id, _ => by simp [pos, placeF]
  | q :: r, id, hr => by
    unfold Rises at hr
    rw [List.pairwise_cons] at hr
    obtain ⟨i1, i2, i3⟩ := pos_spec r id hr.2
    by_cases h : q.Id < id
    · have hp : pos (q :: r) id = pos r id + 1 := by simp [pos, h]
      rw [hp]
      refine ⟨fun i hi hlt => ?_, fun i hi hle => ?_, fun i => ?_⟩
      · cases i with
        | zero => exact h
        | succ i => simpa using i1 i (by simpa using hi) (by omega)
      · cases i with
        | zero => omega
        | succ i => simpa using i2 i (by simpa using hi) (by omega)
      · rw [placeF, if_neg (by omega), i3 (i + 1)]
        simp only [List.length_cons, List.getElem_cons_succ]
        by_cases hc : ∃ h : pos r id < r.length, r[pos r id].Id = id
        · rw [if_pos hc, if_pos (by obtain ⟨a, b⟩ := hc; exact ⟨by omega, b⟩)]; omega
        · rw [if_neg hc, if_neg (by rintro ⟨a, b⟩; exact hc ⟨by omega, b⟩)]
    · have hp : pos (q :: r) id = 0 := by simp [pos, h]
      rw [hp]
      refine ⟨fun i hi hlt => by omega, fun i hi _ => ?_, fun i => ?_⟩
      · cases i with
        | zero => simp; omega
        | succ i =>
          have := hr.1 _ (List.getElem_mem (by simpa using hi : i < r.length))
          simp; omega
      · rw [placeF]
        simp only [List.length_cons, List.getElem_cons_zero]
        by_cases e : q.Id = id
        · rw [if_pos e, if_pos ⟨by omega, e⟩]; simp
        · rw [if_neg e, if_neg (by rintro ⟨_, h⟩; exact e h)]
          have hno : ¬ ∃ h : pos r id < r.length, r[pos r id].Id = id := by
            rintro ⟨hlt, he⟩
            have := hr.1 _ (List.getElem_mem hlt)
            omega
          rw [i3, if_neg hno]
theorem place_pos {l : List Q} {id : Int} (hr : Rises l) (h : has l id = true) : place l id = pos l id ∧ pos l id < l.length ∧ ∀ h : pos l id < l.length, l[pos l id].Id = id := by
  have := (pos_spec l id hr).2.2 0
  unfold has place at *
  simp only [decide_eq_true_eq] at h
  rw [this] at h ⊢
  split at h
  · rename_i hc; rw [if_pos hc]; obtain ⟨a, e⟩ := hc; exact ⟨by simp, a, fun _ => e⟩
  · omega
theorem has_iff {l : List Q} {id : Int} (hr : Rises l) : has l id = true ↔ ∃ h : pos l id < l.length, l[pos l id].Id = id := by
  refine ⟨fun h => ⟨(place_pos hr h).2.1, (place_pos hr h).2.2 _⟩, fun h => ?_⟩
  have := (pos_spec l id hr).2.2 0
  unfold has place
  rw [this, if_pos h]; simp
theorem rises_succ {l : List Q} {i : Nat} (hr : Rises (l.take i)) (h : i < l.length) (hlt : i = 0 ∨ ∃ h0 : i - 1 < l.length, l[i - 1].Id < l[i].Id) : Rises (l.take (i + 1)) := by
  unfold Rises at *
  rw [List.take_add_one, List.getElem?_eq_getElem h]
  simp only [Option.toList_some]
  rw [List.pairwise_append]
  refine ⟨hr, List.pairwise_singleton _ _, fun a ha c hc => ?_⟩
  simp at hc; subst hc
  obtain ⟨j, hj, rfl⟩ := List.getElem_of_mem ha
  simp only [List.length_take] at hj
  rcases hlt with rfl | ⟨h0, hlt⟩
  · omega
  · rw [List.getElem_take]
    by_cases e : j = i - 1
    · subst e; exact hlt
    · have := List.pairwise_iff_getElem.1 hr j (i - 1) (by simp; omega) (by simp; omega) (by omega)
      simp only [List.getElem_take] at this
      omega
theorem formF_rises (l : List Q) : ∀ (n i : Nat), n = l.length - i → i ≤ l.length → formF l (l.drop i) i = true → Rises (l.take i) → Rises l
  | 0, i, hn, hi, _, hr => by
    have : i = l.length := by omega
    subst this; rwa [List.take_length] at hr
  | n + 1, i, hn, hi, hf, hr => by
    have h : i < l.length := by omega
    rw [List.drop_eq_getElem_cons h, formF, Bool.and_eq_true] at hf
    refine formF_rises l n (i + 1) (by omega) (by omega) hf.2 (rises_succ hr h ?_)
    have h1 := hf.1
    unfold formAt at h1
    by_cases e : i = 0
    · exact .inl e
    · right
      rw [if_neg e] at h1
      have h2 : i - 1 < l.length := by omega
      refine ⟨h2, ?_⟩
      simp [h2] at h1
      exact h1.1
theorem form_rises {l : List Q} (h : form l = true) : Rises l := formF_rises l l.length 0 (by omega) (Nat.zero_le _) h List.Pairwise.nil
theorem check_rises {l : List Q} (h : check l = 0) : Rises l := by
  refine form_rises ?_
  unfold check at h
  split at h
  · cases h
  · split at h
    · cases h
    · rename_i h1 h2; simpa using h2
/-- what the comparison with a number tells -/
def cmpId (l : List Q) (id : Int) (i : Nat) : Int := if h : i < l.length then (if l[i].Id < id then -1 else if id < l[i].Id then 1 else 0) else 1
theorem cmpId_has {l : List Q} {id : Int} (hr : Rises l) : (decide (pos l id < l.length) && decide (cmpId l id (pos l id) = 0)) = has l id := by
  rw [Bool.eq_iff_iff, has_iff hr]
  simp only [Bool.and_eq_true, decide_eq_true_eq]
  constructor
  · rintro ⟨h, e⟩
    refine ⟨h, ?_⟩
    rw [cmpId, dif_pos h] at e
    split at e
    · cases e
    · split at e
      · cases e
      · omega
  · rintro ⟨h, e⟩
    refine ⟨h, ?_⟩
    rw [cmpId, dif_pos h, if_neg (by omega), if_neg (by omega)]

/-- the sons of a queue, with their places -/
def sonsF (id : Int) : List Q → Nat → List (Nat × Q)
  | [], _ => []
  | q :: r, i => if q.Par = id then (i, q) :: sonsF id r (i + 1) else sonsF id r (i + 1)
def sons (l : List Q) (id : Int) : List (Nat × Q) := sonsF id l 0
def sumF : List (Nat × Q) → Int → Int → Int × Int
  | [], a, b => (a, b)
  | c :: r, a, b => sumF r (IntKind.i64.wrap (a + c.2.MC)) (IntKind.i64.wrap (b + c.2.MM))
theorem sumMin_sons (id : Int) : ∀ (l : List Q) (i : Nat) (a b : Int), sumMin id l a b = sumF (sonsF id l i) a b
  | [], _, _, _ => rfl
  | q :: r, i, a, b => by
    unfold sumMin sonsF
    split
    · rw [sumMin_sons id r (i + 1)]; rfl
    · rw [sumMin_sons id r (i + 1)]
end Go.Idl
end
section
namespace Go.Idl
set_option linter.unusedSimpArgs false
set_option linter.unusedVariables false

/-- Add -/
def addE (l : List Q) (q : Q) : Int := if check l ≠ 0 then check l else if has l q.Id = true then 9 else if 64 ≤ l.length then 10 else if has l q.Par = false then 8 else 0
def addF (q : Q) : List Q → List Q → Bool → List Q
  | [], m, put => if put = false then m ++ [q] else m
  | x :: r, m, put => if put = false ∧ q.Id < x.Id then addF q r (m ++ [q] ++ [x]) true else addF q r (m ++ [x]) put
def ins (l : List Q) (q : Q) : List Q := l.take (pos l q.Id) ++ [q] ++ l.drop (pos l q.Id)
theorem addF_true (q : Q) : ∀ (l m : List Q), addF q l m true = m ++ l
  | [], m => by simp [addF]
  | x :: r, m => by rw [addF, if_neg (by simp), addF_true q r]; simp
theorem pos_cons (x : Q) (r : List Q) (id : Int) : pos (x :: r) id = if x.Id < id then pos r id + 1 else 0 := by
  unfold pos; rw [List.takeWhile_cons]
  by_cases h : x.Id < id <;> simp [h]
theorem addF_false (q : Q) : ∀ (l m : List Q), (∀ x ∈ l, x.Id ≠ q.Id) → addF q l m false = m ++ ins l q
  | [], m, _ => by simp [addF, ins]
  | x :: r, m, hn => by
    have h1 := hn x (by simp)
    rw [addF]
    by_cases h : q.Id < x.Id
    · rw [if_pos ⟨rfl, h⟩, addF_true]
      simp [ins, pos_cons, show ¬ x.Id < q.Id by omega]
    · rw [if_neg (by simp [h]), addF_false q r _ fun y hy => hn y (by simp [hy])]
      simp [ins, pos_cons, show x.Id < q.Id by omega]
theorem has_mem {l : List Q} {id : Int} : has l id = true ↔ ∃ q ∈ l, q.Id = id := by
  have key : ∀ (l : List Q) (i : Nat), 0 ≤ placeF id l i ↔ ∃ q ∈ l, q.Id = id := by
    intro l
    induction l with
    | nil => intro i; simp [placeF]
    | cons x r ih =>
      intro i
      unfold placeF
      split
      · rename_i e; simp [e]
      · rename_i e; rw [ih]; simp [e]
  unfold has place
  rw [decide_eq_true_eq, key]
theorem addF_ins {l : List Q} {q : Q} (h : has l q.Id = false) : addF q l [] false = ins l q := by
  rw [addF_false]
  · simp
  · intro x hx e
    have : has l q.Id = true := has_mem.2 ⟨x, hx, e⟩
    rw [h] at this; cases this

/-- Set -/
def setE (l : List Q) (q : Q) : Int := if check l ≠ 0 then check l else if has l q.Id = false then 8 else if (find l q.Id).Par ≠ q.Par then 4 else 0
def setL (l : List Q) (q : Q) : List Q := l.set (place l q.Id).toNat q
theorem set_pos {l : List Q} {q : Q} (hr : Rises l) (h : has l q.Id = true) : setL l q = l.set (pos l q.Id) q ∧ ∀ h' : pos l q.Id < l.length, find l q.Id = l[pos l q.Id] := by
  obtain ⟨h1, h2, h3⟩ := place_pos hr h
  unfold setL find
  rw [h1]
  simp [h2]

/-- Drop -/
def sonIds (l : List Q) (id : Int) : List Int := (l.filter fun q => decide (q.Par = id)).map (·.Id)
def dropE (l : List Q) (id : Int) : Int := if check l ≠ 0 then check l else if has l id = false then 8 else if id = 0 then 4 else if sonIds l id ≠ [] then 12 else 0
def dropL (l : List Q) (id : Int) : List Q := l.filter fun q => decide (q.Id ≠ id)
theorem drop_pos : ∀ {l : List Q} {id : Int}, Rises l → has l id = true → dropL l id = l.take (pos l id) ++ l.drop (pos l id + 1)
  | [], id, _, h => by simp [has, place, placeF] at h
  | x :: r, id, hr, h => by
    unfold Rises at hr
    rw [List.pairwise_cons] at hr
    rw [pos_cons]
    by_cases e : x.Id < id
    · rw [if_pos e]
      have hh : has r id = true := by
        rw [has_mem] at h ⊢
        obtain ⟨q, hq, rfl⟩ := h
        rcases List.mem_cons.1 hq with rfl | hq
        · omega
        · exact ⟨q, hq, rfl⟩
      have := drop_pos (l := r) hr.2 hh
      unfold dropL at this ⊢
      rw [List.filter_cons, if_pos (by simp; omega), this]; simp
    · rw [if_neg e]
      have hx : x.Id = id := by
        rw [has_mem] at h
        obtain ⟨q, hq, rfl⟩ := h
        rcases List.mem_cons.1 hq with rfl | hq
        · rfl
        · have := hr.1 q hq; omega
      unfold dropL
      rw [List.filter_cons, if_neg (by simp [hx])]
      simp only [List.take_zero, List.nil_append, List.drop_succ_cons, List.drop_zero, Nat.zero_add]
      rw [List.filter_eq_self]
      intro q hq
      have := hr.1 q hq
      simp; omega
end Go.Idl
end
section
namespace Go.Idl
set_option linter.unusedSimpArgs false
set_option linter.unusedVariables false

theorem check_form {l : List Q} (h : check l = 0) : form l = true := by
  unfold check at h
  split at h
  · cases h
  · split at h
    · cases h
    · rename_i h1 h2; simpa using h2
theorem formF_at (l : List Q) : ∀ (r : List Q) (i : Nat), formF l r i = true → ∀ j (h : j < r.length), formAt l (i + j) r[j] = true
  | [], _, _, j, h => by simp at h
  | q :: r, i, hf, j, h => by
    rw [formF, Bool.and_eq_true] at hf
    cases j with
    | zero => exact hf.1
    | succ j =>
      have := formF_at l r (i + 1) hf.2 j (by simpa using h)
      rw [show i + (j + 1) = i + 1 + j by omega]
      simpa using this
theorem form_at {l : List Q} (h : form l = true) {i : Nat} (hi : i < l.length) : formAt l i l[i] = true := by
  have := formF_at l l 0 h i hi
  simpa using this
theorem form_root {l : List Q} (h : form l = true) (h0 : 0 < l.length) : l[0].Id = 0 ∧ l[0].Par = -1 := by
  have := form_at h h0
  simpa [formAt] using this
theorem form_par {l : List Q} (h : form l = true) {i : Nat} (hi : i < l.length) (h0 : 0 < i) : ∃ j, ∃ hj : j < l.length, j < i ∧ l[j].Id = l[i].Par := by
  have := form_at h hi
  rw [formAt, if_neg (by omega), Bool.and_eq_true] at this
  have h2 : has (l.take i) l[i].Par = true := this.2
  rw [has_mem] at h2
  obtain ⟨q, hq, e⟩ := h2
  obtain ⟨j, hj, rfl⟩ := List.getElem_of_mem hq
  simp only [List.length_take] at hj
  exact ⟨j, by omega, by omega, by simpa using e⟩
theorem form_pos {l : List Q} (h : form l = true) : 0 < l.length := by
  cases l with
  | nil => simp [form, formF] at h
  | cons q r => simp
theorem rises_lt {l : List Q} (hr : Rises l) {i j : Nat} (hi : i < l.length) (hj : j < l.length) (h : i < j) : l[i].Id < l[j].Id :=
  List.pairwise_iff_getElem.1 hr i j hi hj h
theorem rises_inj {l : List Q} (hr : Rises l) {i j : Nat} (hi : i < l.length) (hj : j < l.length) (h : l[i].Id = l[j].Id) : i = j := by
  rcases Nat.lt_trichotomy i j with k | k | k
  · have := rises_lt hr hi hj k; omega
  · exact k
  · have := rises_lt hr hj hi k; omega
theorem id_nonneg {l : List Q} (h : form l = true) {i : Nat} (hi : i < l.length) : 0 ≤ l[i].Id := by
  have h0 := (form_root h (by omega)).1
  rcases Nat.eq_zero_or_pos i with rfl | k
  · omega
  · have := rises_lt (form_rises h) (by omega : 0 < l.length) hi k; omega
theorem has_nonneg {l : List Q} {id : Int} (h : form l = true) (hh : has l id = true) : 0 ≤ id := by
  rw [has_mem] at hh
  obtain ⟨q, hq, rfl⟩ := hh
  obtain ⟨j, hj, rfl⟩ := List.getElem_of_mem hq
  exact id_nonneg h hj
theorem has_at {l : List Q} {i : Nat} (hi : i < l.length) : has l l[i].Id = true := has_mem.2 ⟨_, List.getElem_mem hi, rfl⟩
theorem pos_at {l : List Q} (hr : Rises l) {i : Nat} (hi : i < l.length) : pos l l[i].Id = i := by
  obtain ⟨_, h2, h3⟩ := place_pos hr (has_at hi)
  exact rises_inj hr h2 hi (h3 h2)
theorem find_pos {l : List Q} {id : Int} (hr : Rises l) (hh : has l id = true) (h : pos l id < l.length) : find l id = l[pos l id] := by
  obtain ⟨h1, _, _⟩ := place_pos hr hh
  unfold find
  rw [h1, if_pos (by omega)]
  simp [h]
theorem find_at {l : List Q} (hr : Rises l) {i : Nat} (hi : i < l.length) : find l l[i].Id = l[i] := by
  have h := pos_at hr hi
  rw [find_pos hr (has_at hi) (by rw [h]; exact hi)]
  simp only [h]
theorem find_Id {l : List Q} {id : Int} (hr : Rises l) (hh : has l id = true) : (find l id).Id = id := by
  obtain ⟨_, h2, h3⟩ := place_pos hr hh
  rw [find_pos hr hh h2]; exact h3 h2

/-- how far a queue stands from the list's head, 0 for what is none -/
def rank (l : List Q) (id : Int) : Nat := if has l id = true then pos l id + 1 else 0
theorem rank_par {l : List Q} {id : Int} (h : form l = true) (hh : has l id = true) : rank l (find l id).Par < rank l id := by
  have hr := form_rises h
  obtain ⟨_, h2, h3⟩ := place_pos hr hh
  rw [find_pos hr hh h2]
  have e : rank l id = pos l id + 1 := by simp [rank, hh]
  rw [e]
  generalize hp : pos l id = i at h2 ⊢
  rcases Nat.eq_zero_or_pos i with rfl | k
  · have := (form_root h h2).2
    rw [this]
    have : has l (-1) = false := by
      cases e : has l (-1) with
      | false => rfl
      | true => have := has_nonneg h e; omega
    simp [rank, this]
  · obtain ⟨j, hj, hji, e⟩ := form_par h h2 k
    rw [← e]
    simp only [rank, has_at hj, pos_at hr hj, if_true]; omega
theorem rank_le {l : List Q} (id : Int) (hr : Rises l) : rank l id ≤ l.length := by
  unfold rank
  split
  · rename_i h; have := (place_pos hr h).2.1; omega
  · omega
/-- a queue and all above it, with their places -/
def upF (l : List Q) : Nat → Int → List (Nat × Q)
  | 0, _ => []
  | n + 1, id => if has l id = true then (pos l id, find l id) :: upF l n (find l id).Par else []
def up (l : List Q) (id : Int) : List (Nat × Q) := upF l l.length id
theorem upF_stable {l : List Q} (h : form l = true) : ∀ (n m : Nat) (id : Int), rank l id ≤ n → rank l id ≤ m → upF l n id = upF l m id
  | 0, m, id, hn, hm => by
    have : has l id = false := by
      cases e : has l id with
      | false => rfl
      | true => simp [rank, e] at hn
    cases m <;> simp [upF, this]
  | n + 1, 0, id, hn, hm => by
    have : has l id = false := by
      cases e : has l id with
      | false => rfl
      | true => simp [rank, e] at hm
    simp [upF, this]
  | n + 1, m + 1, id, hn, hm => by
    unfold upF
    split
    · rename_i hh
      have := rank_par h hh
      rw [upF_stable h n m _ (by omega) (by omega)]
    · rfl
theorem up_eq {l : List Q} (h : form l = true) (id : Int) : up l id = if has l id = true then (pos l id, find l id) :: up l (find l id).Par else [] := by
  have h0 := form_pos h
  have hr := form_rises h
  unfold up
  rw [upF_stable h l.length (l.length + 1) id (rank_le id hr) (Nat.le_succ_of_le (rank_le id hr)), upF]
theorem upF_len (l : List Q) : ∀ (n : Nat) (id : Int), (upF l n id).length ≤ n
  | 0, _ => by simp [upF]
  | n + 1, id => by
    unfold upF
    split
    · simp; exact upF_len l n _
    · simp
theorem up_len (l : List Q) (id : Int) : (up l id).length ≤ l.length := upF_len l _ _
/-- the way to the root -/
def path (l : List Q) (id : Int) : List Int := (up l id).map fun p => p.2.Id
theorem path_eq {l : List Q} (h : form l = true) (id : Int) : path l id = if has l id = true then id :: path l (find l id).Par else [] := by
  unfold path
  rw [up_eq h id]
  split
  · rename_i hh
    simp [find_Id (form_rises h) hh]
  · rfl
theorem path_len (l : List Q) (id : Int) : (path l id).length ≤ l.length := by simp [path]; exact up_len l id
theorem up_at {l : List Q} (h : form l = true) : ∀ (n : Nat) (id : Int), rank l id ≤ n → ∀ p ∈ up l id, ∃ hp : p.1 < l.length, p.2 = l[p.1]
  | n, id, hn, p, hp => by
    rw [up_eq h id] at hp
    split at hp
    · rename_i hh
      rcases List.mem_cons.1 hp with rfl | hp
      · have h2 := (place_pos (form_rises h) hh).2.1
        exact ⟨h2, find_pos (form_rises h) hh h2⟩
      · have := rank_par h hh
        cases n with
        | zero => omega
        | succ n => exact up_at h n _ (by omega) p hp
    · cases hp
theorem up_mem {l : List Q} (h : form l = true) {id : Int} {p : Nat × Q} (hp : p ∈ up l id) : ∃ hp : p.1 < l.length, p.2 = l[p.1] := up_at h _ id (Nat.le_refl _) p hp
theorem path_root {l : List Q} (h : form l = true) : ∀ (n : Nat) (id : Int), rank l id ≤ n → has l id = true → 0 ∈ path l id
  | n, id, hn, hh => by
    have hr := form_rises h
    have h0 := form_pos h
    rw [path_eq h, if_pos hh]
    by_cases e : id = 0
    · simp [e]
    · obtain ⟨_, h2, h3⟩ := place_pos hr hh
      have hk : 0 < pos l id := by
        rcases Nat.eq_zero_or_pos (pos l id) with k | k
        · have h4 := h3 h2
          simp only [k] at h4
          have := (form_root h h0).1
          omega
        · exact k
      have hq : has l (find l id).Par = true := by
        rw [find_pos hr hh h2]
        obtain ⟨j, hj, _, e⟩ := form_par h h2 hk
        rw [← e]; exact has_at hj
      have := rank_par h hh
      cases n with
      | zero => omega
      | succ n => exact List.mem_cons_of_mem _ (path_root h n _ (by omega) hq)
theorem root_mem {l : List Q} (h : form l = true) {id : Int} (hh : has l id = true) : 0 ∈ path l id := path_root h _ id (Nat.le_refl _) hh

/-- what the walk down meets -/
def downF (id : Int) : List Q → List Int → List Int
  | [], _ => []
  | q :: r, m => if q.Id = id ∨ q.Par ∈ m then q.Id :: downF id r (m ++ [q.Id]) else downF id r m
def down (l : List Q) (id : Int) : List Int := downF id l []
/-- a queue and all below it -/
def below (l : List Q) (id : Int) : List Int := (l.filter fun q => decide (id ∈ path l q.Id)).map (·.Id)
theorem downF_below {l : List Q} (h : form l = true) (id : Int) : ∀ (n i : Nat) (m : List Int), n = l.length - i → i ≤ l.length → (∀ x, x ∈ m ↔ ∃ j, ∃ hj : j < l.length, j < i ∧ l[j].Id = x ∧ id ∈ path l x) →
    downF id (l.drop i) m = ((l.drop i).filter fun q => decide (id ∈ path l q.Id)).map (·.Id)
  | 0, i, m, hn, hi, hm => by
    have : i = l.length := by omega
    subst this; simp [downF]
  | n + 1, i, m, hn, hi, hm => by
    have k : i < l.length := by omega
    have hr := form_rises h
    have key : (l[i].Id = id ∨ l[i].Par ∈ m) ↔ id ∈ path l l[i].Id := by
      rw [path_eq h, if_pos (has_at k), find_at hr k, List.mem_cons]
      constructor
      · rintro (e | e)
        · exact .inl e.symm
        · obtain ⟨j, hj, _, e1, e2⟩ := (hm _).1 e
          exact .inr e2
      · rintro (e | e)
        · exact .inl e.symm
        · refine .inr ((hm _).2 ?_)
          rcases Nat.eq_zero_or_pos i with rfl | k0
          · rw [(form_root h k).2, path_eq h] at e
            split at e
            · rename_i e2; have := has_nonneg h e2; omega
            · cases e
          · obtain ⟨j, hj, hji, e1⟩ := form_par h k k0
            exact ⟨j, hj, hji, e1, e⟩
    rw [List.drop_eq_getElem_cons k, downF, List.filter_cons]
    have step : ∀ m', (∀ x, x ∈ m' ↔ ∃ j, ∃ hj : j < l.length, j < i + 1 ∧ l[j].Id = x ∧ id ∈ path l x) → downF id (l.drop (i + 1)) m' = ((l.drop (i + 1)).filter fun q => decide (id ∈ path l q.Id)).map (·.Id) :=
      fun m' hm' => downF_below h id n (i + 1) m' (by omega) (by omega) hm'
    by_cases c : l[i].Id = id ∨ l[i].Par ∈ m
    · rw [if_pos c, if_pos (by simpa using key.1 c), List.map_cons, step]
      intro x
      rw [List.mem_append, hm]
      constructor
      · rintro (⟨j, hj, a, b, c⟩ | e)
        · exact ⟨j, hj, by omega, b, c⟩
        · simp at e; subst e; exact ⟨i, k, by omega, rfl, key.1 c⟩
      · rintro ⟨j, hj, a, b, c'⟩
        by_cases e : j = i
        · subst e; exact .inr (by simp [b])
        · exact .inl ⟨j, hj, by omega, b, c'⟩
    · rw [if_neg c, if_neg (by simpa using fun e => c (key.2 e)), step]
      intro x
      rw [hm]
      constructor
      · rintro ⟨j, hj, a, b, c⟩; exact ⟨j, hj, by omega, b, c⟩
      · rintro ⟨j, hj, a, b, c'⟩
        by_cases e : j = i
        · subst e; subst b; exact absurd (key.2 c') c
        · exact ⟨j, hj, by omega, b, c'⟩
theorem down_below {l : List Q} (h : form l = true) (id : Int) : down l id = below l id := by
  have := downF_below h id l.length 0 [] rfl (Nat.zero_le _) (by simp)
  simpa [down, below] using this
theorem down_root {l : List Q} (h : form l = true) : down l 0 = l.map (·.Id) := by
  rw [down_below h, below]
  congr 1
  rw [List.filter_eq_self]
  intro q hq
  simp
  exact root_mem h (has_mem.2 ⟨q, hq, rfl⟩)
end Go.Idl
end
section
namespace Go.Idl
set_option linter.unusedSimpArgs false
set_option linter.unusedVariables false

/-- what a leaf uses -/
structure U where
  q : Int
  c : Int
  m : Int
  deriving DecidableEq
@[simp] def encU (u : U) : D := .agg [.int .i64 u.q, .int .i64 u.c, .int .i64 u.m]
@[simp] def encV (v : Int × Int) : D := .agg [.int .i64 v.1, .int .i64 v.2]
/-- what uses are together at a queue and below it -/
def totF (l : List Q) (id : Int) : List U → Int × Int → Int × Int
  | [], s => s
  | u :: r, s => totF l id r (if id ∈ path l u.q then (s.1 + u.c, s.2 + u.m) else s)
def tot (l : List Q) (uses : List U) (id : Int) : Int × Int := totF l id uses (0, 0)
def useE (l : List Q) (u : U) : Int := if has l u.q = false then 8 else if sonIds l u.q ≠ [] then 14 else if good u.c u.m = false then 1 else 0
def usesE (l : List Q) : List U → Int
  | [] => 0
  | u :: r => if useE l u ≠ 0 then useE l u else usesE l r
def goodP (v : Int × Int) : Bool := good v.1 v.2
def sumsL (l : List Q) (uses : List U) : List (Int × Int) := l.map fun q => tot l uses q.Id
def overs (l : List Q) (uses : List U) : Bool := (sumsL l uses).any fun v => !goodP v
def sumsE (l : List Q) (uses : List U) : Int := if check l ≠ 0 then check l else if usesE l uses ≠ 0 then usesE l uses else if overs l uses = true then 2 else 0
theorem good_iff {a b : Int} : good a b = true ↔ (0 ≤ a ∧ a ≤ 1099511627776) ∧ 0 ≤ b ∧ b ≤ 1099511627776 := by
  simp [good, and_assoc]
theorem totF_snoc (l : List Q) (id : Int) (u : U) : ∀ (r : List U) (s : Int × Int), totF l id (r ++ [u]) s = (if id ∈ path l u.q then ((totF l id r s).1 + u.c, (totF l id r s).2 + u.m) else totF l id r s)
  | [], s => rfl
  | v :: r, s => by
    rw [List.cons_append, totF, totF_snoc l id u r]; rfl
theorem tot_snoc (l : List Q) (id : Int) (u : U) (r : List U) : tot l (r ++ [u]) id = (if id ∈ path l u.q then ((tot l r id).1 + u.c, (tot l r id).2 + u.m) else tot l r id) := totF_snoc l id u r _
theorem usesE_mem {l : List Q} : ∀ {uses : List U}, usesE l uses = 0 → ∀ u ∈ uses, useE l u = 0
  | [], _, u, hu => by cases hu
  | v :: r, h, u, hu => by
    unfold usesE at h
    split at h
    · rename_i h1; exact absurd h h1
    · rename_i h1
      rcases List.mem_cons.1 hu with rfl | hu
      · simpa using h1
      · exact usesE_mem h u hu
theorem useE_zero {l : List Q} {u : U} (h : useE l u = 0) : has l u.q = true ∧ sonIds l u.q = [] ∧ good u.c u.m = true := by
  unfold useE at h
  split at h
  · cases h
  · split at h
    · cases h
    · split at h
      · cases h
      · rename_i h1 h2 h3
        exact ⟨by simpa using h1, by simpa using h2, by simpa using h3⟩
/-- amounts that are right -/
abbrev Goods (uses : List U) : Prop := ∀ u ∈ uses, good u.c u.m = true
theorem goods_of {l : List Q} {uses : List U} (h : usesE l uses = 0) : Goods uses := fun u hu => (useE_zero (usesE_mem h u hu)).2.2
theorem totF_ge (l : List Q) (id : Int) : ∀ (r : List U) (s : Int × Int), Goods r → s.1 ≤ (totF l id r s).1 ∧ s.2 ≤ (totF l id r s).2
  | [], s, _ => ⟨Int.le_refl _, Int.le_refl _⟩
  | u :: r, s, h => by
    have hu := good_iff.1 (h u (by simp))
    have ih := totF_ge l id r (if id ∈ path l u.q then (s.1 + u.c, s.2 + u.m) else s) fun v hv => h v (by simp [hv])
    rw [totF]
    split at ih
    · rename_i e; rw [if_pos e]; simp only at ih; omega
    · rename_i e; rw [if_neg e]; exact ih
theorem tot_nonneg {l : List Q} {uses : List U} (h : Goods uses) (id : Int) : 0 ≤ (tot l uses id).1 ∧ 0 ≤ (tot l uses id).2 := totF_ge l id uses (0, 0) h
theorem totF_append (l : List Q) (id : Int) : ∀ (a b : List U) (s : Int × Int), totF l id (a ++ b) s = totF l id b (totF l id a s)
  | [], b, s => rfl
  | u :: a, b, s => by rw [List.cons_append, totF, totF_append l id a b]; rfl
theorem tot_take_le {l : List Q} {uses : List U} (h : Goods uses) (id : Int) (k : Nat) : (tot l (uses.take k) id).1 ≤ (tot l uses id).1 ∧ (tot l (uses.take k) id).2 ≤ (tot l uses id).2 := by
  have e : tot l uses id = totF l id (uses.drop k) (tot l (uses.take k) id) := by
    conv => lhs; rw [← List.take_append_drop k uses]
    exact totF_append l id _ _ _
  rw [e]
  exact totF_ge l id _ _ fun u hu => h u (List.mem_of_mem_drop hu)

/-- the document's sums, that end at one more than may be -/
def satF (l : List Q) (id : Int) : List U → Int × Int → Int × Int
  | [], s => s
  | u :: r, s => satF l id r (if id ∈ path l u.q then (min (s.1 + u.c) 1099511627777, min (s.2 + u.m) 1099511627777) else s)
theorem satF_eq (l : List Q) (id : Int) : ∀ (r : List U) (s : Int × Int), Goods r → satF l id r (min s.1 1099511627777, min s.2 1099511627777) = (min (totF l id r s).1 1099511627777, min (totF l id r s).2 1099511627777)
  | [], s, _ => rfl
  | u :: r, s, h => by
    have hu := good_iff.1 (h u (by simp))
    have h' : Goods r := fun v hv => h v (by simp [hv])
    rw [satF, totF]
    split
    · rw [← satF_eq l id r (s.1 + u.c, s.2 + u.m) h']
      congr 1
      simp only [Prod.mk.injEq]
      constructor <;> omega
    · exact satF_eq l id r s h'
theorem sat_eq {l : List Q} {id : Int} {r : List U} (h : Goods r) : satF l id r (0, 0) = (min (tot l r id).1 1099511627777, min (tot l r id).2 1099511627777) := satF_eq l id r (0, 0) h
theorem sat_good {l : List Q} {id : Int} {r : List U} (h : Goods r) : goodP (satF l id r (0, 0)) = goodP (tot l r id) ∧ (goodP (tot l r id) = true → satF l id r (0, 0) = tot l r id) := by
  have h0 := tot_nonneg (l := l) h id
  rw [sat_eq h]
  constructor
  · rw [Bool.eq_iff_iff]
    simp only [goodP, good_iff]
    omega
  · intro hg
    simp only [goodP, good_iff] at hg
    rw [Prod.ext_iff]
    simp only
    omega
end Go.Idl
end
section
namespace Go.Idl
set_option linter.unusedSimpArgs false
set_option linter.unusedVariables false

theorem addE_zero {l : List Q} {q : Q} (h : addE l q = 0) : check l = 0 ∧ has l q.Id = false ∧ l.length < 64 ∧ has l q.Par = true := by
  unfold addE at h
  split at h
  · rename_i h1; exact absurd h h1
  · split at h
    · cases h
    · split at h
      · cases h
      · split at h
        · cases h
        · rename_i h1 h2 h3 h4
          exact ⟨by simpa using h1, by simpa using h2, by omega, by simpa using h4⟩
theorem ins_mem {l : List Q} {q x : Q} : x ∈ ins l q ↔ x = q ∨ x ∈ l := by
  have e : x ∈ l ↔ x ∈ l.take (pos l q.Id) ++ l.drop (pos l q.Id) := by rw [List.take_append_drop]
  rw [e]
  simp only [ins, List.mem_append, List.mem_singleton]
  constructor
  · rintro ((h | h) | h)
    · exact .inr (.inl h)
    · exact .inl h
    · exact .inr (.inr h)
  · rintro (h | h | h)
    · exact .inl (.inr h)
    · exact .inl (.inl h)
    · exact .inr h
theorem par_has {l : List Q} (h : form l = true) {x : Q} (hx : x ∈ l) : x.Par = -1 ∨ has l x.Par = true := by
  obtain ⟨i, hi, rfl⟩ := List.getElem_of_mem hx
  rcases Nat.eq_zero_or_pos i with rfl | k
  · exact .inl (form_root h hi).2
  · obtain ⟨j, hj, _, e⟩ := form_par h hi k
    exact .inr (by rw [← e]; exact has_at hj)
theorem has_root {l : List Q} (h : form l = true) : has l 0 = true := by
  have h0 := form_pos h
  have := has_at (l := l) h0
  rwa [(form_root h h0).1] at this
theorem back_add {l : List Q} {q : Q} (h : addE l q = 0) (hc : check (ins l q) = 0) : dropE (ins l q) q.Id = 0 ∧ dropL (ins l q) q.Id = l ∧ (ins l q).length = l.length + 1 := by
  obtain ⟨h1, h2, h3, h4⟩ := addE_zero h
  have hf := check_form h1
  have hf' := check_form hc
  have hh : has (ins l q) q.Id = true := has_mem.2 ⟨q, ins_mem.2 (.inl rfl), rfl⟩
  have hne : q.Id ≠ 0 := by
    intro e
    rw [e, has_root hf] at h2; cases h2
  have hnn := has_nonneg hf' hh
  have hno : ∀ x ∈ l, x.Id ≠ q.Id := by
    intro x hx e
    have : has l q.Id = true := has_mem.2 ⟨x, hx, e⟩
    rw [h2] at this; cases this
  have hs : sonIds (ins l q) q.Id = [] := by
    unfold sonIds
    rw [List.map_eq_nil_iff, List.filter_eq_nil_iff]
    intro x hx
    simp only [decide_eq_true_eq]
    intro e
    rcases ins_mem.1 hx with rfl | hx
    · rw [e, h2] at h4; cases h4
    · rcases par_has hf hx with k | k
      · omega
      · rw [e, h2] at k; cases k
  refine ⟨by simp [dropE, hc, hh, hne, hs], ?_, ?_⟩
  · have e1 : (l.take (pos l q.Id)).filter (fun x => decide (x.Id ≠ q.Id)) = l.take (pos l q.Id) := by
      rw [List.filter_eq_self]
      intro x hx
      simpa using hno x (List.mem_of_mem_take hx)
    have e2 : (l.drop (pos l q.Id)).filter (fun x => decide (x.Id ≠ q.Id)) = l.drop (pos l q.Id) := by
      rw [List.filter_eq_self]
      intro x hx
      simpa using hno x (List.mem_of_mem_drop hx)
    unfold dropL ins
    rw [List.filter_append, List.filter_append, e1, e2]
    simp
  · have := pos_le l q.Id
    simp [ins]; omega

theorem setE_zero {l : List Q} {q : Q} (h : setE l q = 0) : check l = 0 ∧ has l q.Id = true ∧ (find l q.Id).Par = q.Par := by
  unfold setE at h
  split at h
  · rename_i h1; exact absurd h h1
  · split at h
    · cases h
    · split at h
      · cases h
      · rename_i h1 h2 h3
        exact ⟨by simpa using h1, by simpa using h2, by simpa using h3⟩
theorem back_set {l : List Q} {q : Q} (h : setE l q = 0) (hc : check (setL l q) = 0) {i : Nat} (hi : i < l.length) (e : l[i].Id = q.Id) : setE (setL l q) l[i] = 0 ∧ setL (setL l q) l[i] = l ∧ setL l q = l.set i q := by
  obtain ⟨h1, h2, h3⟩ := setE_zero h
  have hr := check_rises h1
  have hr' := check_rises hc
  have hs : setL l q = l.set i q := by
    rw [(set_pos hr h2).1, ← e, pos_at hr hi]
  have hi' : i < (setL l q).length := by rw [hs]; simpa using hi
  have e2 : (setL l q)[i] = q := by simp [hs]
  have e3 : l[i].Id = (setL l q)[i].Id := by rw [e2, e]
  have e4 : has (setL l q) l[i].Id = true := by rw [e3]; exact has_at hi'
  have e5 : find (setL l q) l[i].Id = q := by rw [e3, find_at hr' hi', e2]
  have e6 : find l q.Id = l[i] := by rw [← e, find_at hr hi]
  refine ⟨?_, ?_, hs⟩
  · have : q.Par = l[i].Par := by rw [← h3, e6]
    simp [setE, hc, e4, e5, this]
  · rw [(set_pos hr' e4).1, e3, pos_at hr' hi', hs, List.set_set]
    exact List.set_getElem_self hi

/-- a way begins with the queue, and ends with the root -/
theorem path_ends {l : List Q} (h : form l = true) : ∀ (n : Nat) (id : Int), rank l id ≤ n → has l id = true → ∃ r, path l id = id :: r ∧ (path l id).getLast? = some 0
  | n, id, hn, hh => by
    have hr := form_rises h
    have hlt := rank_par h hh
    rw [path_eq h, if_pos hh]
    refine ⟨_, rfl, ?_⟩
    by_cases hq : has l (find l id).Par = true
    · cases n with
      | zero => omega
      | succ n =>
        obtain ⟨r, e1, e2⟩ := path_ends h n _ (by omega) hq
        rw [e1] at e2 ⊢
        rw [List.getLast?_cons_cons]; exact e2
    · have e0 : path l (find l id).Par = [] := by rw [path_eq h, if_neg hq]
      rw [e0]
      obtain ⟨_, h2, h3⟩ := place_pos hr hh
      rw [find_pos hr hh h2] at hq
      have : pos l id = 0 := by
        rcases Nat.eq_zero_or_pos (pos l id) with k | k
        · exact k
        · obtain ⟨j, hj, _, e⟩ := form_par h h2 k
          rw [← e] at hq
          exact absurd (has_at hj) hq
      have h4 := h3 h2
      have h5 := (form_root h (form_pos h)).1
      simp only [this] at h4
      simp [← h4, h5]
theorem path_head {l : List Q} (h : form l = true) {id : Int} (hh : has l id = true) : ∃ r, path l id = id :: r ∧ (path l id).getLast? = some 0 := path_ends h _ id (Nat.le_refl _) hh
/-- each one is a son of the next -/
theorem path_step {l : List Q} (h : form l = true) : ∀ (n : Nat) (id : Int), rank l id ≤ n → ∀ i (hi : i < (path l id).length), has l (path l id)[i] = true ∧ ∀ (hj : i + 1 < (path l id).length), (path l id)[i] ∈ sonIds l (path l id)[i + 1]
  | n, id, hn, i, hi => by
    have hr := form_rises h
    have hh : has l id = true := by
      cases e : has l id with
      | true => rfl
      | false => rw [path_eq h, if_neg (by simp [e])] at hi; simp at hi
    have e := path_eq h id
    rw [if_pos hh] at e
    have hlt := rank_par h hh
    cases i with
    | zero =>
      refine ⟨by simp only [e, List.getElem_cons_zero]; exact hh, fun hj => ?_⟩
      simp only [e, List.getElem_cons_zero, List.getElem_cons_succ]
      have hj' : 0 < (path l (find l id).Par).length := by simp only [e] at hj; simpa using hj
      have hp : has l (find l id).Par = true := by
        cases e2 : has l (find l id).Par with
        | true => rfl
        | false => rw [path_eq h, if_neg (by simp [e2])] at hj'; simp at hj'
      have e3 := path_eq h (find l id).Par
      rw [if_pos hp] at e3
      simp only [e3, List.getElem_cons_zero]
      obtain ⟨_, h2, h3⟩ := place_pos hr hh
      unfold sonIds
      rw [List.mem_map]
      refine ⟨find l id, ?_, find_Id hr hh⟩
      rw [List.mem_filter]
      refine ⟨by rw [find_pos hr hh h2]; exact List.getElem_mem h2, by simp⟩
    | succ i =>
      cases n with
      | zero => omega
      | succ n =>
        have hi' : i < (path l (find l id).Par).length := by simp only [e] at hi; simpa using hi
        obtain ⟨a, b⟩ := path_step h n (find l id).Par (by omega) i hi'
        refine ⟨by simp only [e, List.getElem_cons_succ]; exact a, fun hj => ?_⟩
        have hj' : i + 1 < (path l (find l id).Par).length := by simp only [e] at hj; simpa using hj
        simp only [e, List.getElem_cons_succ]
        exact b hj'
theorem path_has {l : List Q} (h : form l = true) (id : Int) {i : Nat} (hi : i < (path l id).length) : has l (path l id)[i] = true := (path_step h _ id (Nat.le_refl _) i hi).1
theorem path_son {l : List Q} (h : form l = true) (id : Int) {i : Nat} (hj : i + 1 < (path l id).length) : (path l id)[i] ∈ sonIds l (path l id)[i + 1] := (path_step h _ id (Nat.le_refl _) i (by omega)).2 hj
theorem below_mem {l : List Q} {x id : Int} (hh : has l id = true) : id ∈ below l x ↔ x ∈ path l id := by
  unfold below
  rw [List.mem_map]
  constructor
  · rintro ⟨q, hq, rfl⟩
    simpa using (List.mem_filter.1 hq).2
  · intro h
    obtain ⟨q, hq, rfl⟩ := has_mem.1 hh
    exact ⟨q, List.mem_filter.2 ⟨hq, by simpa using h⟩, rfl⟩
theorem path_self {l : List Q} (h : form l = true) {id : Int} (hh : has l id = true) : id ∈ path l id := by
  rw [path_eq h, if_pos hh]; exact List.mem_cons_self
end Go.Idl
end
