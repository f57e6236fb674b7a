/- Queues as plain data: what the document's answer and the program compute on them. No program here.; Numbers of 128 bits as plain data: products by halves. No program here.; The program's queues, what it computes: contracts of the packages queue, vec.; Operations in each order that may be: the states that are met, each once.; The program's numbers of 128 bits: Mul64, Product, Compare.; The document's answer for queues, what it computes: contracts of the packages furlongref05, furlongref02, furlongref01.; Queues as plain data, part 2: lists with a queue more, changed, less. No program here.; The document's answer for queues, further: lists that are made.; Queues as plain data, part 3: ways to the root, what is below a queue, the leaves. No program here.; Queues as plain data, part 4: uses and their sums. No program here.; Queues as plain data, part 5: what was added can be dropped, what was set can be set back; the shape of ways. No program here.; The document's answer for queues: ways to the root, what is below.; What the arguments of the statements on queues are, as data: lists of queues, of uses, of numbers; amounts; numbers.; Queues as plain data, part 6: what a queue uses is what its sons use, or, of a leaf, its own. No program here.; Queues as plain data, part 7: whether there is room. No program here.; Queues as plain data, part 8: sums, use by use, along the ways. No program here.; The document's answer for queues: sums and room.; The document's numbers of two words, and its weighted shares.; The program's queues: what is wrong with a list. -/
import Derived.Test.YtkfpaffcglijeaaAuditOrderPart13
import Derived.Test.YtkfpaffcglijeaaAuditOrderPart14
set_option linter.all false
section
namespace Go.Idl

noncomputable def bodyOf (f : Func) : Code := f.body.getD .skip

/-- a queue -/
structure Q where
  Id : Int
  Par : Int
  Wt : Int
  QC : Int
  QM : Int
  MC : Int
  MM : Int
  deriving DecidableEq
@[simp] def encQ (q : Q) : D := .agg [.int .i64 q.Id, .int .i64 q.Par, .int .i64 q.Wt, .int .i64 q.QC, .int .i64 q.QM, .int .i64 q.MC, .int .i64 q.MM]
abbrev encL (b : Bool) (l : List Q) : D := .sl b 7 (l.map encQ)
abbrev I (n : Int) : D := .int .i64 n
abbrev encI (b : Bool) (l : List Int) : D := .sl b 1 (l.map I)
/-- of the kind -/
abbrev In64 (n : Int) : Prop := -9223372036854775808 ≤ n ∧ n ≤ 9223372036854775807
structure Q.ok (q : Q) : Prop where
  Id : In64 q.Id
  Par : In64 q.Par
  Wt : In64 q.Wt
  QC : In64 q.QC
  QM : In64 q.QM
  MC : In64 q.MC
  MM : In64 q.MM

theorem maxLen_i64 : maxLen ≤ 9223372036854775807 := by decide
@[simp] theorem isucc {i j : Nat} : ((i : Int) + 1 = (j : Int)) = (i + 1 = j) := propext ⟨fun h => by omega, fun h => by omega⟩
@[simp] theorem ione {j : Nat} : ((1 : Int) = (j : Int)) = (1 = j) := propext ⟨fun h => by omega, fun h => by omega⟩
theorem wrap1 {α : Type} {l : List α} {i : Nat} (hl : l.length ≤ maxLen) (h : i < l.length) : IntKind.i64.wrap ((i : Int) + 1) = ((i + 1 : Nat) : Int) := by
  have := maxLen_i64
  rw [wrap_i64 (by omega) (by omega)]; omega
theorem wrapm1 {α : Type} {l : List α} {i : Nat} (hl : l.length ≤ maxLen) (h : i < l.length) (h0 : 0 < i) : IntKind.i64.wrap ((i : Int) - 1) = ((i - 1 : Nat) : Int) := by
  have := maxLen_i64
  rw [wrap_i64 (by omega) (by omega)]; omega

def placeF (id : Int) : List Q → Nat → Int
  | [], _ => -1
  | q :: r, i => if q.Id = id then i else placeF id r (i + 1)
/-- where a queue stands; -1 -/
def place (l : List Q) (id : Int) : Int := placeF id l 0
def q0 : Q := ⟨0, 0, 0, 0, 0, 0, 0⟩
def has (l : List Q) (id : Int) : Bool := decide (0 ≤ place l id)
def find (l : List Q) (id : Int) : Q := if 0 ≤ place l id then l.getD (place l id).toNat q0 else q0
def good (a b : Int) : Bool := decide (0 ≤ a) && decide (a ≤ 1099511627776) && decide (0 ≤ b) && decide (b ≤ 1099511627776)
def fits (a b c d : Int) : Bool := decide (a ≤ c) && decide (b ≤ d)
def formAt (l : List Q) (i : Nat) (q : Q) : Bool := if i = 0 then decide (q.Id = 0) && decide (q.Par = -1) else decide ((l.getD (i - 1) q0).Id < q.Id) && decide (0 ≤ place (l.take i) q.Par)
def formF (l : List Q) : List Q → Nat → Bool
  | [], _ => decide (0 < l.length)
  | q :: r, i => formAt l i q && formF l r (i + 1)
def form (l : List Q) : Bool := formF l l 0
/-- the sum of what the sons must have -/
def sumMin (id : Int) : List Q → Int → Int → Int × Int
  | [], a, b => (a, b)
  | c :: r, a, b => if c.Par = id then sumMin id r (IntKind.i64.wrap (a + c.MC)) (IntKind.i64.wrap (b + c.MM)) else sumMin id r a b
def minsAt (l : List Q) (q : Q) : Bool := fits q.MC q.MM q.QC q.QM && fits (sumMin q.Id l 0 0).1 (sumMin q.Id l 0 0).2 q.MC q.MM
def minsF (l : List Q) : List Q → Bool
  | [] => true
  | q :: r => minsAt l q && minsF l r
def mins (l : List Q) : Bool := minsF l l
def okQ (q : Q) : Bool := decide (1 ≤ q.Wt) && decide (q.Wt ≤ 1048576) && good q.QC q.QM && good q.MC q.MM
def argsF : List Q → Bool
  | [] => true
  | q :: r => okQ q && argsF r
/-- what is wrong with a list -/
def check (l : List Q) : Int := if 64 < l.length then 3 else if form l = false then 4 else if argsF l = false then 1 else if mins l = false then 11 else 0
theorem check_len {l : List Q} (h : check l = 0) : 0 < l.length ∧ l.length ≤ 64 := by
  unfold check at h
  split at h
  · cases h
  · split at h
    · cases h
    · rename_i h1 h2
      cases l with
      | nil => simp [form, formF] at h2
      | cons q r => simp at h1 ⊢; omega

/-- the lists whose numbers rise -/
def Rises (l : List Q) : Prop := l.Pairwise fun a b => a.Id < b.Id
/-- how many numbers are lesser -/
def pos (l : List Q) (id : Int) : Nat := (l.takeWhile fun q => decide (q.Id < id)).length
theorem pos_le (l : List Q) (id : Int) : pos l id ≤ l.length := by
  unfold pos; exact (List.takeWhile_prefix _).length_le
theorem pos_spec : ∀ (l : List Q) (id : Int), Rises l → (∀ i (h : i < l.length), i < pos l id → l[i].Id < id) ∧ (∀ i (h : i < l.length), pos l id ≤ i → id ≤ l[i].Id) ∧ (∀ i, placeF id l i = if ∃ h : pos l id < l.length, l[pos l id].Id = id then ((i + pos l id : Nat) : Int) else -1)
  | [], id, _ => by simp [pos, placeF]
  | q :: r, id, hr => by
    unfold Rises at hr
    rw [List.pairwise_cons] at hr
    obtain ⟨i1, i2, i3⟩ := pos_spec r id hr.2
    by_cases h : q.Id < id
    · have hp : pos (q :: r) id = pos r id + 1 := by simp [pos, h]
      rw [hp]
      refine ⟨fun i hi hlt => ?_, fun i hi hle => ?_, fun i => ?_⟩
      · cases i with
        | zero => exact h
        | succ i => simpa using i1 i (by simpa using hi) (by omega)
      · cases i with
        | zero => omega
        | succ i => simpa using i2 i (by simpa using hi) (by omega)
      · rw [placeF, if_neg (by omega), i3 (i + 1)]
        simp only [List.length_cons, List.getElem_cons_succ]
        by_cases hc : ∃ h : pos r id < r.length, r[pos r id].Id = id
        · rw [if_pos hc, if_pos (by obtain ⟨a, b⟩ := hc; exact ⟨by omega, b⟩)]; omega
        · rw [if_neg hc, if_neg (by rintro ⟨a, b⟩; exact hc ⟨by omega, b⟩)]
    · have hp : pos (q :: r) id = 0 := by simp [pos, h]
      rw [hp]
      refine ⟨fun i hi hlt => by omega, fun i hi _ => ?_, fun i => ?_⟩
      · cases i with
        | zero => simp; omega
        | succ i =>
          have := hr.1 _ (List.getElem_mem (by simpa using hi : i < r.length))
          simp; omega
      · rw [placeF]
        simp only [List.length_cons, List.getElem_cons_zero]
        by_cases e : q.Id = id
        · rw [if_pos e, if_pos ⟨by omega, e⟩]; simp
        · rw [if_neg e, if_neg (by rintro ⟨_, h⟩; exact e h)]
          have hno : ¬ ∃ h : pos r id < r.length, r[pos r id].Id = id := by
            rintro ⟨hlt, he⟩
            have := hr.1 _ (List.getElem_mem hlt)
            omega
          rw [i3, if_neg hno]
theorem place_pos {l : List Q} {id : Int} (hr : Rises l) (h : has l id = true) : place l id = pos l id ∧ pos l id < l.length ∧ ∀ h : pos l id < l.length, l[pos l id].Id = id := by
  have := (pos_spec l id hr).2.2 0
  unfold has place at *
  simp only [decide_eq_true_eq] at h
  rw [this] at h ⊢
  split at h
  · rename_i hc; rw [if_pos hc]; obtain ⟨a, e⟩ := hc; exact ⟨by simp, a, fun _ => e⟩
  · omega
theorem has_iff {l : List Q} {id : Int} (hr : Rises l) : has l id = true ↔ ∃ h : pos l id < l.length, l[pos l id].Id = id := by
  refine ⟨fun h => ⟨(place_pos hr h).2.1, (place_pos hr h).2.2 _⟩, fun h => ?_⟩
  have := (pos_spec l id hr).2.2 0
  unfold has place
  rw [this, if_pos h]; simp
theorem rises_succ {l : List Q} {i : Nat} (hr : Rises (l.take i)) (h : i < l.length) (hlt : i = 0 ∨ ∃ h0 : i - 1 < l.length, l[i - 1].Id < l[i].Id) : Rises (l.take (i + 1)) := by
  unfold Rises at *
  rw [List.take_add_one, List.getElem?_eq_getElem h]
  simp only [Option.toList_some]
  rw [List.pairwise_append]
  refine ⟨hr, List.pairwise_singleton _ _, fun a ha c hc => ?_⟩
  simp at hc; subst hc
  obtain ⟨j, hj, rfl⟩ := List.getElem_of_mem ha
  simp only [List.length_take] at hj
  rcases hlt with rfl | ⟨h0, hlt⟩
  · omega
  · rw [List.getElem_take]
    by_cases e : j = i - 1
    · subst e; exact hlt
    · have := List.pairwise_iff_getElem.1 hr j (i - 1) (by simp; omega) (by simp; omega) (by omega)
      simp only [List.getElem_take] at this
      omega
theorem formF_rises (l : List Q) : ∀ (n i : Nat), n = l.length - i → i ≤ l.length → formF l (l.drop i) i = true → Rises (l.take i) → Rises l
  | 0, i, hn, hi, _, hr => by
    have : i = l.length := by omega
    subst this; rwa [List.take_length] at hr
  | n + 1, i, hn, hi, hf, hr => by
    have h : i < l.length := by omega
    rw [List.drop_eq_getElem_cons h, formF, Bool.and_eq_true] at hf
    refine formF_rises l n (i + 1) (by omega) (by omega) hf.2 (rises_succ hr h ?_)
    have h1 := hf.1
    unfold formAt at h1
    by_cases e : i = 0
    · exact .inl e
    · right
      rw [if_neg e] at h1
      have h2 : i - 1 < l.length := by omega
      refine ⟨h2, ?_⟩
      simp [h2] at h1
      exact h1.1
theorem form_rises {l : List Q} (h : form l = true) : Rises l := formF_rises l l.length 0 (by omega) (Nat.zero_le _) h List.Pairwise.nil
theorem check_rises {l : List Q} (h : check l = 0) : Rises l := by
  refine form_rises ?_
  unfold check at h
  split at h
  · cases h
  · split at h
    · cases h
    · rename_i h1 h2; simpa using h2
/-- what the comparison with a number tells -/
def cmpId (l : List Q) (id : Int) (i : Nat) : Int := if h : i < l.length then (if l[i].Id < id then -1 else if id < l[i].Id then 1 else 0) else 1
theorem cmpId_has {l : List Q} {id : Int} (hr : Rises l) : (decide (pos l id < l.length) && decide (cmpId l id (pos l id) = 0)) = has l id := by
  rw [Bool.eq_iff_iff, has_iff hr]
  simp only [Bool.and_eq_true, decide_eq_true_eq]
  constructor
  · rintro ⟨h, e⟩
    refine ⟨h, ?_⟩
    rw [cmpId, dif_pos h] at e
    split at e
    · cases e
    · split at e
      · cases e
      · omega
  · rintro ⟨h, e⟩
    refine ⟨h, ?_⟩
    rw [cmpId, dif_pos h, if_neg (by omega), if_neg (by omega)]

/-- the sons of a queue, with their places -/
def sonsF (id : Int) : List Q → Nat → List (Nat × Q)
  | [], _ => []
  | q :: r, i => if q.Par = id then (i, q) :: sonsF id r (i + 1) else sonsF id r (i + 1)
def sons (l : List Q) (id : Int) : List (Nat × Q) := sonsF id l 0
def sumF : List (Nat × Q) → Int → Int → Int × Int
  | [], a, b => (a, b)
  | c :: r, a, b => sumF r (IntKind.i64.wrap (a + c.2.MC)) (IntKind.i64.wrap (b + c.2.MM))
theorem sumMin_sons (id : Int) : ∀ (l : List Q) (i : Nat) (a b : Int), sumMin id l a b = sumF (sonsF id l i) a b
  | [], _, _, _ => rfl
  | q :: r, i, a, b => by
    unfold sumMin sonsF
    split
    · rw [sumMin_sons id r (i + 1)]; rfl
    · rw [sumMin_sons id r (i + 1)]
end Go.Idl
end
section
namespace Go.Idl
set_option linter.unusedSimpArgs false
set_option linter.unusedVariables false

abbrev N64 (n : Int) : D := .int .u64 n
theorem u64w (n : Int) : IntKind.u64.wrap n = n % 18446744073709551616 := rfl
/-- a number of 128 bits: its size in two words, and whether it is below 0 -/
def wide (z : Int) : D := .agg [N64 ((z.natAbs : Int) / 18446744073709551616), N64 ((z.natAbs : Int) % 18446744073709551616), .bool (decide (z < 0))]
def sgn (x y : Int) : Int := if x < y then -1 else if y < x then 1 else 0
end Go.Idl
end
section
namespace Go.Idl
open Go.Proofs
set_option linter.unusedSimpArgs false
set_option linter.unusedVariables false
set_option maxRecDepth 8000
variable (b : Bool)

theorem half {i j : Nat} (h : i + j ≤ 281474976710656) : IntKind.i64.wrap ((IntKind.u64.wrap (IntKind.i64.wrap ((i : Int) + (j : Int)))).fdiv (2 ^ min 1 IntKind.u64.bits)) = (((i + j) / 2 : Nat) : Int) := by
  have e : ∀ n : Int, IntKind.u64.wrap n = n % 18446744073709551616 := fun n => rfl
  rw [wrap_i64 (n := (i : Int) + j) (by omega) (by omega), e, show (2 : Int) ^ min 1 IntKind.u64.bits = 2 by decide, Int.emod_eq_of_lt (by omega) (by omega)]
  have : ((i : Int) + j).fdiv 2 = (((i + j) / 2 : Nat) : Int) := by
    rw [Int.fdiv_eq_ediv_of_nonneg _ (by decide)]; omega
  rw [this, wrap_i64 (by omega) (by omega)]

theorem bsearchQ_spec (g : FuncId) (l : List Q) (t : Int) (c : Nat → Int) (k : Nat) (hb : hasBody Try.prog g = true) (hl : l.length ≤ 140737488355328) (hk : k ≤ l.length) (hlo : ∀ i, i < k → c i < 0) (hhi : ∀ i, k ≤ i → i < l.length → 0 ≤ c i) (hc : ∀ i (h : i < l.length), PCall Try.prog g [encQ l[i], I t] (.d (I (c i)))) :
    FCall Try.prog 124 [.d (encL b l), .d (I t), .fn (.func g) []] (.tup [.d (I k), .d (.bool (decide (k < l.length) && decide (c k = 0)))]) := by
  refine fcallS (fn := Try.f124) [] [] mixed (bodyOf Try.f124) [.tmp 6, .tmp 7] Try.func124 rfl rfl (by decide) 46 rfl (by kernel_rfl) ?_
  simp -implicitDefEqProofs [↓gd_tt, ↓gd_ff, ↓gd_tf, ↓gd_ft, bodyOf, Try.f124, stripC, stripL, stripM, onsOf, upto, hintOf, freeOf, List.replicate]
  refine loopA mixed [false, false, false, false, false, false, false, false, false, true, true, true, false, false, false, true, true, true, true, true, true, true, true, true, true, true, true, true, true, true, true, true, true, true, true] (fun (p : Nat × Nat) => [(9, .d (I p.1)), (10, .d (I p.2))]) (fun (p : Nat × Nat) => []) (fun (p : Nat × Nat) => p.1 ≤ k ∧ k ≤ p.2 ∧ p.2 ≤ l.length) (fun (p : Nat × Nat) => p.2 - p.1) ((0, l.length)) (⟨Nat.zero_le _, hk, Nat.le_refl _⟩) (by simp) ?_
  rintro p hx
  obtain ⟨i, j⟩ := p
  obtain ⟨h1, h2, h3⟩ := hx
  simp only at h1 h2 h3 ⊢
  by_cases h : i < j
  · have hh := half (i := i) (j := j) (by omega)
    obtain ⟨m, hm⟩ : ∃ m, m = (i + j) / 2 := ⟨_, rfl⟩
    rw [← hm] at hh
    have h4 : m < l.length := by omega
    simp -implicitDefEqProofs [↓gd_tt, ↓gd_ff, ↓gd_tf, ↓gd_ft, h, hh, h4, encQ, hb]
    refine callK_pcall (hc m h4) rfl rfl ?_
    have hw : IntKind.i64.wrap ((m : Int) + 1) = ((m + 1 : Nat) : Int) := by rw [wrap_i64 (by omega) (by omega)]; omega
    simp -implicitDefEqProofs [↓gd_tt, ↓gd_ff, ↓gd_tf, ↓gd_ft, hw]
    refine ⟨fun e => ⟨m + 1, j, ⟨?_, h2, h3⟩, by omega, rfl, rfl⟩, fun e => ⟨i, m, ⟨h1, ?_, by omega⟩, by omega, rfl, rfl⟩⟩
    · rcases Nat.lt_or_ge m k with q | q
      · omega
      · have := hhi m q h4; omega
    · rcases Nat.lt_or_ge m k with q | q
      · have := hlo m q; omega
      · exact q
  · have h5 : i = k := by omega
    subst h5
    by_cases hi : i < l.length
    · simp -implicitDefEqProofs [↓gd_tt, ↓gd_ff, ↓gd_tf, ↓gd_ft, h, hi, encQ, hb]
      refine callK_pcall (hc i hi) rfl rfl ?_
      simp -implicitDefEqProofs [↓gd_tt, ↓gd_ff, ↓gd_tf, ↓gd_ft]
    · simp -implicitDefEqProofs [↓gd_tt, ↓gd_ff, ↓gd_tf, ↓gd_ft, h, hi]

theorem find1_spec (q : Q) (id : Int) : PCall Try.prog 125 [encQ q, I id] (.d (I (if q.Id < id then -1 else if id < q.Id then 1 else 0))) := by
  refine pcallS (fn := Try.f125) [] [] mixed (bodyOf Try.f125) [.tmp 4] Try.func125 rfl rfl (by decide) 13 rfl (by kernel_rfl) ?_
  simp -implicitDefEqProofs [↓gd_tt, ↓gd_ff, ↓gd_tf, ↓gd_ft, bodyOf, Try.f125, stripC, stripL, stripM, onsOf, upto, hintOf, freeOf, List.replicate]
  (repeat' (first | apply And.intro | intro _)) <;> first | omega | (simp_all; done) | (simp_all; omega) | (split <;> omega)

theorem qfind_spec (l : List Q) (id : Int) (hl : l.length ≤ 140737488355328) (hr : Rises l) : PCall Try.prog 65 [encL b l, I id] (.tup [.d (I (pos l id)), .d (.bool (has l id))]) := by
  refine pcallS (fn := Try.f65) [] [] mixed (bodyOf Try.f65) [.tmp 4, .tmp 5] Try.func65 rfl rfl (by decide) 9 rfl (by kernel_rfl) ?_
  simp -implicitDefEqProofs [↓gd_tt, ↓gd_ff, ↓gd_tf, ↓gd_ft, bodyOf, Try.f65, stripC, stripL, stripM, onsOf, upto, hintOf, freeOf, List.replicate]
  obtain ⟨h1, h2, _⟩ := pos_spec l id hr
  have := bsearchQ_spec b 125 l id (cmpId l id) (pos l id) (by simp) hl (pos_le l id)
    (fun i h => by have hi : i < l.length := by have := pos_le l id; omega
                   rw [cmpId, dif_pos hi, if_pos (h1 i hi h)]; decide)
    (fun i h hi => by have := h2 i hi h; rw [cmpId, dif_pos hi, if_neg (by omega)]; split <;> decide)
    (fun i h => by simpa [h, cmpId] using find1_spec l[i] id)
  refine callK_fcall this (by simp) (by simp) (by simp) (by simp) rfl ?_
  simp -implicitDefEqProofs [↓gd_tt, ↓gd_ff, ↓gd_tf, ↓gd_ft]
  exact cmpId_has hr

def yQ (p : Nat × Q) : List V := [.d (I p.1), .d (encQ p.2)]
theorem children_yields (l : List Q) (id : Int) (ka kb : Nat) (hl : l.length ≤ maxLen) :
    Yields Try.prog 165 [.ptr ka 0, .ptr kb 0] (fun hp => hp[ka]? = some (.var [.d (encL b l)]) ∧ hp[kb]? = some (.var [.d (I id)])) ((sons l id).map yQ) := by
  intro y hp J E hy h0 hJ hround hend
  obtain ⟨g1, g2, g3, g4⟩ := hJ 0 hp h0
  have hka : ka < hp.length := (List.getElem?_eq_some_iff.1 g3).1
  have hkb : kb < hp.length := (List.getElem?_eq_some_iff.1 g4).1
  refine callS (fn := Try.f165) [] [] mixed (bodyOf Try.f165) [] Try.func165 rfl rfl (by decide) 22 rfl (by kernel_rfl) ?_
  simp -implicitDefEqProofs [↓gd_tt, ↓gd_ff, ↓gd_tf, ↓gd_ft, bodyOf, Try.f165, stripC, stripL, stripM, onsOf, upto, hintOf, freeOf, List.replicate]
  simp -implicitDefEqProofs [↓gd_tt, ↓gd_ff, ↓gd_tf, ↓gd_ft, g3]
  refine loopA mixed [false, false, false, false, true, true, false, false, true, true, true, true, true, true, true, true, true, true, true, true, true, true, true, true, true] (fun (x : Nat × Nat × List IObj) => [(8, .d (I x.1))]) (fun (x : Nat × Nat × List IObj) => x.2.2) (fun (x : Nat × Nat × List IObj) => x.1 ≤ l.length ∧ J x.2.1 x.2.2 ∧ x.2.1 ≤ (sons l id).length ∧ sonsF id (l.drop x.1) x.1 = (sons l id).drop x.2.1) (fun (x : Nat × Nat × List IObj) => l.length - x.1) ((0, 0, hp)) (⟨Nat.zero_le _, h0, Nat.zero_le _, rfl⟩) (by simp [hy, hka, hkb, g2]) ?_
  rintro x hx
  obtain ⟨i, k, hp1⟩ := x
  obtain ⟨hi, hj, hk, hq⟩ := hx
  simp only at hi hj hk hq ⊢
  obtain ⟨p1, p2, p3, p4⟩ := hJ k hp1 hj
  have hka1 : ka < hp1.length := (List.getElem?_eq_some_iff.1 p3).1
  have hkb1 : kb < hp1.length := (List.getElem?_eq_some_iff.1 p4).1
  rcases Nat.lt_or_eq_of_le hi with h | h
  · rw [List.drop_eq_getElem_cons h, sonsF] at hq
    simp -implicitDefEqProofs [↓gd_tt, ↓gd_ff, ↓gd_tf, ↓gd_ft, h, p3, p4, wrap1 hl h, List.getElem?_append_left hka1, List.getElem?_append_left hkb1]
    have hpass : ∀ (k' : Nat) (hp2 priv : List IObj), J k' hp2 → k' ≤ (sons l id).length → sonsF id (l.drop (i + 1)) (i + 1) = (sons l id).drop k' → hp2.length = hp.length → ∃ a a_1 b, (a ≤ l.length ∧ J a_1 b ∧ a_1 ≤ (sons l id).length ∧ sonsF id (List.drop a l) a = List.drop a_1 (sons l id)) ∧ l.length - a < l.length - i ∧ i + 1 = a ∧ (y < b.length ∧ ka < b.length ∧ kb < b.length) ∧ ltObjs b.length b = true ∧ hp.length ≤ b.length ∧ List.take b.length (hp2 ++ priv) = b ∧ b.length ≤ (hp2 ++ priv).length := fun k' hp2 priv q1 q2 q3 q4 =>
      ⟨i + 1, k', hp2, ⟨by omega, q1, q2, q3⟩, by omega, rfl, ⟨by omega, by omega, by omega⟩, by rw [q4]; exact (hJ k' hp2 q1).2.1, by omega, by simp, by simp⟩
    refine ⟨fun e => ?_, fun e => ?_⟩
    · rw [if_pos e] at hq
      have hk3 : k < (sons l id).length := by
        have := congrArg List.length hq; simp at this; omega
      have hat : (sons l id)[k] = (i, l[i]) := by
        have := congrArg (·[0]?) hq
        simp [hk3] at this; exact this.symm
      have hr := hround k hp1 hj (by simpa using hk3)
      simp only [List.getElem_map, hat, yQ] at hr
      refine yieldA hr p1 p2 hy (by simp) (by simp) fun b2 hp2 q1 q2 q3 q4 => ?_
      simp -implicitDefEqProofs [↓gd_tt, ↓gd_ff, ↓gd_tf, ↓gd_ft, wrap1 hl h]
      refine ⟨fun e2 => ⟨by omega, by rw [← q1, List.take_left]; exact q4 e2⟩, fun e2 => ?_⟩
      have := hpass (k + 1) hp2 [IObj.var [V.d (D.int IntKind.i64 l[i].Id), V.d (D.int IntKind.i64 l[i].Par), V.d (D.int IntKind.i64 l[i].Wt), V.d (D.int IntKind.i64 l[i].QC), V.d (D.int IntKind.i64 l[i].QM), V.d (D.int IntKind.i64 l[i].MC), V.d (D.int IntKind.i64 l[i].MM)]] (q3 e2) (by omega) (by have := congrArg List.tail hq; simpa using this) q1
      simpa using this
    · rw [if_neg e] at hq
      have := hpass k hp1 [IObj.var [V.d (D.int IntKind.i64 l[i].Id), V.d (D.int IntKind.i64 l[i].Par), V.d (D.int IntKind.i64 l[i].Wt), V.d (D.int IntKind.i64 l[i].QC), V.d (D.int IntKind.i64 l[i].QM), V.d (D.int IntKind.i64 l[i].MC), V.d (D.int IntKind.i64 l[i].MM)]] hj hk hq p1
      simpa using this
  · rw [h, List.drop_length, sonsF] at hq
    simp -implicitDefEqProofs [↓gd_tt, ↓gd_ff, ↓gd_tf, ↓gd_ft, h]
    have hk2 : k = (sons l id).length := by
      have := congrArg List.length hq; simp at this; omega
    subst hk2
    exact ⟨by omega, by rw [← p1, List.take_length]; exact hend hp1 (by simpa using hj)⟩

theorem children_spec (l : List Q) (id : Int) (hp : List IObj) (K : V → List IObj → Prop) (hk : K (.fn (.func 165) [.ptr hp.length 0, .ptr (hp.length + 1) 0]) (hp ++ [.var [.d (encL b l)], .var [.d (I id)]])) : CallK Try.prog 144 [.d (encL b l), .d (I id)] hp K := by
  refine callS (fn := Try.f144) [] [] mixed (bodyOf Try.f144) [.tmp 4] Try.func144 rfl rfl (by decide) 4 rfl (by kernel_rfl) ?_
  simp -implicitDefEqProofs [↓gd_tt, ↓gd_ff, ↓gd_tf, ↓gd_ft, bodyOf, Try.f144, stripC, stripL, stripM, onsOf, upto, hintOf, freeOf, List.replicate]
  simpa using hk

theorem vparts_yields (a c : Int × Int) (ka kb : Nat) : Yields Try.prog 166 [.ptr ka 0, .ptr kb 0] (fun hp => hp[ka]? = some (.var [.d (I a.1), .d (I a.2)]) ∧ hp[kb]? = some (.var [.d (I c.1), .d (I c.2)])) [[.d (.agg [I a.1, I c.1])], [.d (.agg [I a.2, I c.2])]] := by
  intro y hp J E hy h0 hJ hround hend
  obtain ⟨g1, g2, g3, g4⟩ := hJ 0 hp h0
  refine callS (fn := Try.f166) [] [] mixed (bodyOf Try.f166) [] Try.func166 rfl rfl (by decide) 17 rfl (by kernel_rfl) ?_
  simp -implicitDefEqProofs [↓gd_tt, ↓gd_ff, ↓gd_tf, ↓gd_ft, bodyOf, Try.f166, stripC, stripL, stripM, onsOf, upto, hintOf, freeOf, List.replicate]
  simp -implicitDefEqProofs [↓gd_tt, ↓gd_ff, ↓gd_tf, ↓gd_ft, g3, g4]
  refine (hround 0 hp h0 (by simp)).mono ?_
  rintro r hp1 ⟨b1, rfl, q1, q2, q3, q4⟩
  cases b1
  · simp -implicitDefEqProofs [↓gd_tt, ↓gd_ff, ↓gd_tf, ↓gd_ft]
    exact ⟨by omega, by rw [← q1, List.take_length]; exact q4 rfl⟩
  · obtain ⟨p1, p2, p3, p4⟩ := hJ 1 hp1 (q3 rfl)
    simp -implicitDefEqProofs [↓gd_tt, ↓gd_ff, ↓gd_tf, ↓gd_ft, p3, p4]
    refine (hround 1 hp1 (q3 rfl) (by simp)).mono ?_
    rintro r hp2 ⟨b2, rfl, r1, r2, r3, r4⟩
    cases b2
    · simp -implicitDefEqProofs [↓gd_tt, ↓gd_ff, ↓gd_tf, ↓gd_ft]
      exact ⟨by omega, by rw [← r1, List.take_length]; exact r4 rfl⟩
    · simp -implicitDefEqProofs [↓gd_tt, ↓gd_ff, ↓gd_tf, ↓gd_ft]
      exact ⟨by omega, by rw [← r1, List.take_length]; exact hend _ (r3 rfl)⟩

theorem vparts_spec (a c : Int × Int) (hp : List IObj) (K : V → List IObj → Prop) (hk : K (.fn (.func 166) [.ptr hp.length 0, .ptr (hp.length + 1) 0]) (hp ++ [.var [.d (I a.1), .d (I a.2)], .var [.d (I c.1), .d (I c.2)]])) : CallK Try.prog 145 [.d (.agg [I a.1, I a.2]), .d (.agg [I c.1, I c.2])] hp K := by
  refine callS (fn := Try.f145) [] [] mixed (bodyOf Try.f145) [.tmp 4] Try.func145 rfl rfl (by decide) 4 rfl (by kernel_rfl) ?_
  simp -implicitDefEqProofs [↓gd_tt, ↓gd_ff, ↓gd_tf, ↓gd_ft, bodyOf, Try.f145, stripC, stripL, stripM, onsOf, upto, hintOf, freeOf, List.replicate]
  simpa using hk

theorem vgood_spec (x y : Int) : PCall Try.prog 120 [.agg [I x, I y]] (.d (.bool (good x y))) := by
  refine pcallS (fn := Try.f120) [] [] mixed (bodyOf Try.f120) [.cell 2 4] Try.func120 rfl rfl (by decide) 15 rfl (by kernel_rfl) ?_
  simp -implicitDefEqProofs [↓gd_tt, ↓gd_ff, ↓gd_tf, ↓gd_ft, bodyOf, Try.f120, stripC, stripL, stripM, onsOf, upto, hintOf, freeOf, List.replicate]
  refine vparts_spec (x, y) (x, y) _ _ ?_
  simp -implicitDefEqProofs [↓gd_tt, ↓gd_ff, ↓gd_tf, ↓gd_ft]
  refine rangeYc mixed (vparts_yields (x, y) (x, y) 2 3) (by simp) (by simp) (by simp) (by simp) (by simp) (by simp) (by simp) (by simp) (fun i => (1 ≤ i → 0 ≤ x ∧ x ≤ 1099511627776) ∧ (2 ≤ i → 0 ≤ y ∧ y ≤ 1099511627776)) (by simp) ?_ ?_
  · rintro i ⟨h1, h2⟩ hi L0 L1
    have : i = 0 ∨ i = 1 := by simp at hi; omega
    rcases this with rfl | rfl
    · simp -implicitDefEqProofs [↓gd_tt, ↓gd_ff, ↓gd_tf, ↓gd_ft, good]
      (repeat' (first | apply And.intro | intro _)) <;> first | omega | (simp_all; done) | (simp_all; omega)
    · simp at h1
      simp -implicitDefEqProofs [↓gd_tt, ↓gd_ff, ↓gd_tf, ↓gd_ft, good]
      (repeat' (first | apply And.intro | intro _)) <;> first | omega | (simp_all; done) | (simp_all; omega)
  · rintro ⟨h1, h2⟩
    simp at h1 h2
    simp -implicitDefEqProofs [↓gd_tt, ↓gd_ff, ↓gd_tf, ↓gd_ft, good, h1, h2]

theorem vfits_spec (x y z w : Int) : PCall Try.prog 147 [.agg [I x, I y], .agg [I z, I w]] (.d (.bool (fits x y z w))) := by
  refine pcallS (fn := Try.f147) [] [] mixed (bodyOf Try.f147) [.cell 4 4] Try.func147 rfl rfl (by decide) 13 rfl (by kernel_rfl) ?_
  simp -implicitDefEqProofs [↓gd_tt, ↓gd_ff, ↓gd_tf, ↓gd_ft, bodyOf, Try.f147, stripC, stripL, stripM, onsOf, upto, hintOf, freeOf, List.replicate]
  refine vparts_spec (x, y) (z, w) _ _ ?_
  simp -implicitDefEqProofs [↓gd_tt, ↓gd_ff, ↓gd_tf, ↓gd_ft]
  refine rangeYc mixed (vparts_yields (x, y) (z, w) 3 4) (by simp) (by simp) (by simp) (by simp) (by simp) (by simp) (by simp) (by simp) (fun i => (1 ≤ i → x ≤ z) ∧ (2 ≤ i → y ≤ w)) (by simp) ?_ ?_
  · rintro i ⟨h1, h2⟩ hi L0 L1
    have : i = 0 ∨ i = 1 := by simp at hi; omega
    rcases this with rfl | rfl
    · simp -implicitDefEqProofs [↓gd_tt, ↓gd_ff, ↓gd_tf, ↓gd_ft, fits]
      (repeat' (first | apply And.intro | intro _)) <;> first | omega | (simp_all; done) | (simp_all; omega)
    · simp at h1
      simp -implicitDefEqProofs [↓gd_tt, ↓gd_ff, ↓gd_tf, ↓gd_ft, fits]
      (repeat' (first | apply And.intro | intro _)) <;> first | omega | (simp_all; done) | (simp_all; omega)
  · rintro ⟨h1, h2⟩
    simp at h1 h2
    simp -implicitDefEqProofs [↓gd_tt, ↓gd_ff, ↓gd_tf, ↓gd_ft, fits, h1, h2]

theorem qform_spec (l : List Q) (hl : l.length ≤ 140737488355328) : PCall Try.prog 121 [encL b l] (.d (.bool (form l))) := by
  refine pcallS (fn := Try.f121) [] [] mixed (bodyOf Try.f121) [.tmp 2] Try.func121 rfl rfl (by decide) 49 rfl (by kernel_rfl) ?_
  simp -implicitDefEqProofs [↓gd_tt, ↓gd_ff, ↓gd_tf, ↓gd_ft, bodyOf, Try.f121, stripC, stripL, stripM, onsOf, upto, hintOf, freeOf, List.replicate]
  refine loopA mixed [false, false, true, true, true, true, true, false, false, true, true, true, true, true, true, true, true, true, true, true, true, true, true, true, true, true, true, true, true, true, true, true, true, true, true, true, true, true, true, true, true, true, true, true, true, true, true] (fun (i : Nat) => [(9, .d (I i))]) (fun (i : Nat) => []) (fun (i : Nat) => i ≤ l.length ∧ formF l (l.drop i) i = form l ∧ Rises (l.take i)) (fun (i : Nat) => l.length - i) (0) (⟨Nat.zero_le _, rfl, List.Pairwise.nil⟩) (by simp) ?_
  rintro i hx
  obtain ⟨hi, hp, hr⟩ := hx
  have hm : (140737488355328 : Nat) ≤ maxLen := by decide
  rcases Nat.lt_or_eq_of_le hi with h | h
  · rw [List.drop_eq_getElem_cons h, formF] at hp
    have hrs := rises_succ hr h
    rcases Nat.eq_zero_or_pos i with rfl | h0
    · have hw := wrap1 (l := l) (by omega) h
      simp -implicitDefEqProofs [↓gd_tt, ↓gd_ff, ↓gd_tf, ↓gd_ft, h] at hw ⊢
      simp [formAt] at hp
      simp -implicitDefEqProofs [↓gd_tt, ↓gd_ff, ↓gd_tf, ↓gd_ft, hw]
      have := hrs (.inl rfl)
      (repeat' (first | apply And.intro | intro _)) <;> first | omega | (simp_all; done)
    · have h1 : ¬ ((i : Int) = 0) := by omega
      have h2 : i - 1 < l.length := by omega
      have h3 : ¬ (i = 0) := by omega
      have h4 : ((i - 1 : Nat) : Int) < (l.length : Int) := by omega
      simp -implicitDefEqProofs [↓gd_tt, ↓gd_ff, ↓gd_tf, ↓gd_ft, h, h0, h1, h2, h3, wrap1 (l := l) (by omega) h, wrapm1 (l := l) (by omega) h h0, h4]
      have hg : l.getD (i - 1) q0 = l[i - 1] := by simp [h2]
      simp only [formAt, if_neg h3, hg] at hp
      have hps : PCall Try.prog 65 [.sl b 7 ((l.map encQ).take i), I l[i].Par] (.tup [.d (I (pos (l.take i) l[i].Par)), .d (.bool (has (l.take i) l[i].Par))]) := by rw [← List.map_take]; exact qfind_spec b _ _ (by simp; omega) hr
      refine ⟨hi, free_pcall hps rfl rfl ?_⟩
      simp -implicitDefEqProofs [↓gd_tt, ↓gd_ff, ↓gd_tf, ↓gd_ft, h, h0, h1, h2, h3, wrap1 (l := l) (by omega) h, wrapm1 (l := l) (by omega) h h0, h4]
      have hh : has (l.take i) l[i].Par = decide (0 ≤ place (l.take i) l[i].Par) := rfl
      refine ⟨fun e1 => ⟨fun e2 => by rw [← hp]; simp; omega, fun e2 => ⟨⟨by omega, ?_, hrs (.inr ⟨h2, e2⟩)⟩, by omega⟩⟩, fun e1 => by rw [← hp, ← hh, e1]; simp⟩
      rw [← hp, ← hh, e1]; simp [e2]
  · simp -implicitDefEqProofs [↓gd_tt, ↓gd_ff, ↓gd_tf, ↓gd_ft, h]
    rw [h, List.drop_length, formF] at hp; simpa using hp

theorem qmins_spec (l : List Q) (hl : l.length ≤ maxLen) : PCall Try.prog 123 [encL b l] (.d (.bool (mins l))) := by
  refine pcallS (fn := Try.f123) [] [] mixed (bodyOf Try.f123) [.tmp 2] Try.func123 rfl rfl (by decide) 47 rfl (by kernel_rfl) ?_
  simp -implicitDefEqProofs [↓gd_tt, ↓gd_ff, ↓gd_tf, ↓gd_ft, bodyOf, Try.f123, stripC, stripL, stripM, onsOf, upto, hintOf, freeOf, List.replicate]
  refine loopA mixed [false, false, true, false, true, true, false, false, false, false, true, true, true, true, true, true, true, true, false, false, false, false, false, false, false, false, false, false, false, false, false, false, false, false, true, true, true, true, true, true, true, true, true, true, true, true, true, true] (fun (i : Nat) => [(10, .d (I i))]) (fun (i : Nat) => []) (fun (i : Nat) => i ≤ l.length ∧ minsF l (l.drop i) = mins l) (fun (i : Nat) => l.length - i) (0) (⟨Nat.zero_le _, rfl⟩) (by simp) ?_
  rintro i hx
  obtain ⟨hi, hp⟩ := hx
  rcases Nat.lt_or_eq_of_le hi with h | h
  · rw [List.drop_eq_getElem_cons h, minsF] at hp
    simp -implicitDefEqProofs [↓gd_tt, ↓gd_ff, ↓gd_tf, ↓gd_ft, h]
    refine children_spec b l l[i].Id _ _ ?_
    simp -implicitDefEqProofs [↓gd_tt, ↓gd_ff, ↓gd_tf, ↓gd_ft]
    refine rangeY mixed (children_yields b l l[i].Id 2 3 hl) (by simp) (by simp) (by simp) (by simp) (by simp) (by intro y hy; obtain ⟨p, _, rfl⟩ := List.mem_map.1 hy; simp [yQ]) (fun k hp => ∃ x y, hp = [.var [.d (I l[i].Id), .d (I l[i].Par), .d (I l[i].Wt), .d (I l[i].QC), .d (I l[i].QM), .d (I l[i].MC), .d (I l[i].MM)], .var [.d (I x), .d (I y)], .var [.d (encL b l)], .var [.d (I l[i].Id)]] ∧ k ≤ (sons l l[i].Id).length ∧ sumF ((sons l l[i].Id).drop k) x y = sumMin l[i].Id l 0 0) ⟨0, 0, rfl, Nat.zero_le _, (sumMin_sons _ _ _ _ _).symm⟩ (by rintro k hp ⟨x, y, rfl, _⟩; simp) ?_ ?_
    · rintro k hp ⟨x, y, rfl, hk, hs⟩ hi L0 L1
      have hk' : k < (sons l l[i].Id).length := by simpa using hi
      rw [List.drop_eq_getElem_cons hk', sumF] at hs
      simp -implicitDefEqProofs [↓gd_tt, ↓gd_ff, ↓gd_tf, ↓gd_ft, yQ]
      exact ⟨_, _, ⟨rfl, rfl⟩, by omega, hs⟩
    · rintro hp' ⟨x, y, rfl, hk, hs⟩
      simp [sumF] at hs
      have hx : x = (sumMin l[i].Id l 0 0).1 := by rw [← hs]
      have hy : y = (sumMin l[i].Id l 0 0).2 := by rw [← hs]
      simp only [minsAt, ← hx, ← hy] at hp
      simp -implicitDefEqProofs [↓gd_tt, ↓gd_ff, ↓gd_tf, ↓gd_ft]
      refine callK_pcall (vfits_spec _ _ _ _) rfl rfl ?_
      simp -implicitDefEqProofs [↓gd_tt, ↓gd_ff, ↓gd_tf, ↓gd_ft]
      refine ⟨fun e1 => ?_, fun e1 => ?_⟩
      · refine callK_pcall (vfits_spec _ _ _ _) rfl rfl ?_
        simp -implicitDefEqProofs [↓gd_tt, ↓gd_ff, ↓gd_tf, ↓gd_ft, wrap1 hl h]
        refine ⟨fun e2 => ?_, fun e2 => ⟨⟨by omega, ?_⟩, by omega⟩⟩
        · rw [← hp, e2]; simp
        · rw [← hp]; simp [e1, e2]
      · rw [← hp, e1]; simp
  · simp -implicitDefEqProofs [↓gd_tt, ↓gd_ff, ↓gd_tf, ↓gd_ft, h]
    rw [h, List.drop_length, minsF] at hp; exact hp.symm
end Go.Idl
end
section
namespace Go.Idl
section
variable {P : Program}
def anyLB (P : Program) (next : List Bool → St → Prop) (done : List Bool) (s : St) : Nat → List (SOp × List Nat) → Prop
  | _, [] => True
  | i, (o, pm) :: r => (bif !(done.getD i false) && pm.all (fun j => done.getD j false) then sOps P [o] s (fun s' => next (done.set i true) s') else True) ∧ anyLB P next done s (i + 1) r
/-- the same as anyGo; what is done is told place by place, that like states be alike -/
def anyGoB (P : Program) (ops : List (SOp × List Nat)) (K : St → Prop) : Nat → List Bool → St → Prop
  | 0, _, s => K s
  | n + 1, done, s => anyLB P (anyGoB P ops K n) done s 0 ops
theorem ag_zero {ops : List (SOp × List Nat)} {K : St → Prop} {done : List Bool} {tm : List V} {hp : List IObj} {nb : Nat} : anyGoB P ops K 0 done ⟨tm, hp, nb⟩ = K ⟨tm, hp, nb⟩ := rfl
theorem ag_succ {ops : List (SOp × List Nat)} {K : St → Prop} {n : Nat} {done : List Bool} {tm : List V} {hp : List IObj} {nb : Nat} : anyGoB P ops K (n + 1) done ⟨tm, hp, nb⟩ = anyLB P (anyGoB P ops K n) done ⟨tm, hp, nb⟩ 0 ops := rfl
theorem al_nil {next : List Bool → St → Prop} {done : List Bool} {s : St} {i : Nat} : anyLB P next done s i [] = True := rfl
theorem al_cons {next : List Bool → St → Prop} {done : List Bool} {s : St} {i : Nat} {o : SOp} {pm : List Nat} {r : List (SOp × List Nat)} : anyLB P next done s i ((o, pm) :: r) = ((if (!(done.getD i false) && pm.all (fun j => done.getD j false)) = true then sOps P [o] s (fun s' => next (done.set i true) s') else True) ∧ anyLB P next done s (i + 1) r) := by
  simp only [anyLB]
  cases (!(done.getD i false) && pm.all (fun j => done.getD j false)) <;> rfl
theorem anyGo_eqB {ops : List (SOp × List Nat)} {K : St → Prop} : ∀ (n : Nat) (ds : List Nat) (B : List Bool), B.length = ops.length → (∀ j, ds.contains j = B.getD j false) → anyGo P ops K n ds = anyGoB P ops K n B
  | 0, _, _, _, _ => rfl
  | n + 1, ds, B, hB, h => by
    funext s
    simp only [anyGo, anyGoB]
    have key : ∀ (r : List (SOp × List Nat)) (i : Nat), i + r.length = ops.length → anyL P (anyGo P ops K n) ds s i r = anyLB P (anyGoB P ops K n) B s i r := by
      intro r
      induction r with
      | nil => intro i _; rfl
      | cons x r ih =>
        intro i hi
        obtain ⟨o, pm⟩ := x
        simp only [List.length_cons] at hi
        have e1 : pm.all (fun j => ds.contains j) = pm.all (fun j => B.getD j false) := by
          congr 1; funext j; exact h j
        have e2 : (fun s' => anyGo P ops K n (i :: ds) s') = fun s' => anyGoB P ops K n (B.set i true) s' := by
          rw [anyGo_eqB n (i :: ds) (B.set i true) (by simpa using hB) fun j => ?_]
          rw [List.contains_cons, h j]
          simp only [List.getD_eq_getElem?_getD, List.getElem?_set]
          by_cases e : i = j
          · subst e
            have : i < B.length := by omega
            simp [this]
          · have : (j == i) = false := by simpa using fun e' => e e'.symm
            simp [e, this]
        simp only [anyL, anyLB]
        rw [h i, e1, e2, ih (i + 1) (by omega)]
    exact key ops 0 (by omega)
theorem anyGo_B {ops : List (SOp × List Nat)} {K : St → Prop} {n : Nat} {s : St} (h : anyGoB P ops K n (List.replicate ops.length false) s) : anyGo P ops K n [] s := by
  rw [anyGo_eqB n [] (List.replicate ops.length false) (by simp) fun j => ?_]
  · exact h
  · simp [List.getElem?_replicate]
    split <;> simp
/-- the same behind free operations -/
theorem anyGo_U {ops : List (SOp × List Nat)} {K : St → Prop} {n m : Nat} {s : St} (h : anyGoB P ops K n (List.replicate m true ++ List.replicate (ops.length - m) false) s) (hm : m ≤ ops.length) : anyGo P ops K n (upto m) s := by
  rw [anyGo_eqB n (upto m) (List.replicate m true ++ List.replicate (ops.length - m) false) (by simp; omega) fun j => ?_]
  · exact h
  · rw [Bool.eq_iff_iff]
    simp only [List.contains_eq_mem, decide_eq_true_eq, upto_mem, List.getD_eq_getElem?_getD, List.getElem?_append, List.getElem?_replicate, List.length_replicate]
    by_cases e : j < m
    · simp [e]
    · simp only [e, if_false, false_iff]
      split <;> simp
theorem any_endU {ops : List (SOp × List Nat)} {K : St → Prop} {n m : Nat} {s : St} (e : St) (hm : m ≤ ops.length) (h : ∀ K0 : St → Prop, K0 e → anyGoB P ops K0 n (List.replicate m true ++ List.replicate (ops.length - m) false) s) (hk : K e) : anyGo P ops K n (upto m) s := anyGo_U (h K hk) hm
/-- all orders end in one state -/
theorem any_end {ops : List (SOp × List Nat)} {K : St → Prop} {n : Nat} {s : St} (e : St) (h : ∀ K0 : St → Prop, K0 e → anyGoB P ops K0 n (List.replicate ops.length false) s) (hk : K e) : anyGo P ops K n [] s := anyGo_B (h K hk)
end
end Go.Idl
end
section
namespace Go.Idl
open Go.Proofs
set_option linter.unusedSimpArgs false
set_option linter.unusedVariables false
set_option maxRecDepth 8000
set_option maxHeartbeats 1000000

theorem size_spec (a : Int) (h : In64 a) : PCall Try.prog 163 [I a] (.d (N64 a.natAbs)) := by
  refine pcallS (fn := Try.f163) [] [] mixed (bodyOf Try.f163) [.tmp 2] Try.func163 rfl rfl (by decide) 9 rfl (by kernel_rfl) ?_
  simp -implicitDefEqProofs [↓gd_tt, ↓gd_ff, ↓gd_tf, ↓gd_ft, bodyOf, Try.f163, stripC, stripL, stripM, onsOf, upto, hintOf, freeOf, List.replicate]
  obtain ⟨h1, h2⟩ := h
  refine ⟨fun e => ?_, fun e => ?_⟩
  · rw [u64w, u64w]; omega
  · rw [u64w]; omega
/-- a part of a whole -/
def partZ (x y : Int) : Int × Int := if y = 0 then (if 0 < x then (1, 0) else (x, 1)) else (x, y)
/-- the dominant share -/
def shareZ (u t : Int × Int) : Int × Int := if (partZ u.1 t.1).1 * (partZ u.2 t.2).2 < (partZ u.2 t.2).1 * (partZ u.1 t.1).2 then partZ u.2 t.2 else partZ u.1 t.1
/-- whose weighted share is lesser -/
def ordZ (a : Int × Int) (wa : Int) (b : Int × Int) (wb : Int) (t : Int × Int) : Int :=
  if (shareZ a t).2 = 0 ∨ (shareZ b t).2 = 0 then min (shareZ b t).2 1 - min (shareZ a t).2 1
  else sgn ((shareZ a t).1 * (shareZ b t).2 * wb) ((shareZ b t).1 * (shareZ a t).2 * wa)
theorem good_iff' {a b : Int} : good a b = true ↔ (0 ≤ a ∧ a ≤ 1099511627776) ∧ 0 ≤ b ∧ b ≤ 1099511627776 := by
  simp [good, and_assoc]
theorem partZ_bound {x y : Int} (hx : 0 ≤ x ∧ x ≤ 1099511627776) (hy : 0 ≤ y ∧ y ≤ 1099511627776) : (0 ≤ (partZ x y).1 ∧ (partZ x y).1 ≤ 1099511627776) ∧ (0 ≤ (partZ x y).2 ∧ (partZ x y).2 ≤ 1099511627776) ∧ (0 < (partZ x y).1 ∨ 0 < (partZ x y).2) := by
  unfold partZ
  split
  · split <;> simp only <;> omega
  · simp only; omega
theorem shareZ_bound {u t : Int × Int} (hu : good u.1 u.2 = true) (ht : good t.1 t.2 = true) : (0 ≤ (shareZ u t).1 ∧ (shareZ u t).1 ≤ 1099511627776) ∧ (0 ≤ (shareZ u t).2 ∧ (shareZ u t).2 ≤ 1099511627776) ∧ (0 < (shareZ u t).1 ∨ 0 < (shareZ u t).2) := by
  have gu := good_iff'.1 hu
  have gt := good_iff'.1 ht
  unfold shareZ
  split
  · exact partZ_bound gu.2 gt.2
  · exact partZ_bound gu.1 gt.1
end Go.Idl
end
section
namespace Go.Idl
open Go.Proofs
set_option linter.unusedSimpArgs false
set_option linter.unusedVariables false
set_option maxRecDepth 8000

variable (b : Bool)
end Go.Idl
end
section
namespace Go.Idl
set_option linter.unusedSimpArgs false
set_option linter.unusedVariables false

theorem has_mem {l : List Q} {id : Int} : has l id = true ↔ ∃ q ∈ l, q.Id = id := by
  have key : ∀ (l : List Q) (i : Nat), 0 ≤ placeF id l i ↔ ∃ q ∈ l, q.Id = id := by
    intro l
    induction l with
    | nil => intro i; simp [placeF]
    | cons x r ih =>
      intro i
      unfold placeF
      split
      · rename_i e; simp [e]
      · rename_i e; rw [ih]; simp [e]
  unfold has place
  rw [decide_eq_true_eq, key]
/-- Drop -/
def sonIds (l : List Q) (id : Int) : List Int := (l.filter fun q => decide (q.Par = id)).map (·.Id)
end Go.Idl
end
section
namespace Go.Idl
open Go.Proofs
set_option linter.unusedSimpArgs false
set_option linter.unusedVariables false
set_option maxRecDepth 8000
set_option maxHeartbeats 4000000
variable (b : Bool)

def there (l : List Q) (id : Int) : Int := if check l = 0 ∧ has l id = false then 8 else check l
def leafB (l : List Q) (id : Int) : Bool := has l id && decide (sonIds l id = [])
def leaves (l : List Q) : List Int := (l.filter fun q => decide (check l = 0) && leafB l q.Id).map (·.Id)
end Go.Idl
end
section
namespace Go.Idl
set_option linter.unusedSimpArgs false
set_option linter.unusedVariables false

theorem check_form {l : List Q} (h : check l = 0) : form l = true := by
  unfold check at h
  split at h
  · cases h
  · split at h
    · cases h
    · rename_i h1 h2; simpa using h2
theorem formF_at (l : List Q) : ∀ (r : List Q) (i : Nat), formF l r i = true → ∀ j (h : j < r.length), formAt l (i + j) r[j] = true
  | [], _, _, j, h => by simp at h
  | q :: r, i, hf, j, h => by
    rw [formF, Bool.and_eq_true] at hf
    cases j with
    | zero => exact hf.1
    | succ j =>
      have := formF_at l r (i + 1) hf.2 j (by simpa using h)
      rw [show i + (j + 1) = i + 1 + j by omega]
      simpa using this
theorem form_at {l : List Q} (h : form l = true) {i : Nat} (hi : i < l.length) : formAt l i l[i] = true := by
  have := formF_at l l 0 h i hi
  simpa using this
theorem form_root {l : List Q} (h : form l = true) (h0 : 0 < l.length) : l[0].Id = 0 ∧ l[0].Par = -1 := by
  have := form_at h h0
  simpa [formAt] using this
theorem form_par {l : List Q} (h : form l = true) {i : Nat} (hi : i < l.length) (h0 : 0 < i) : ∃ j, ∃ hj : j < l.length, j < i ∧ l[j].Id = l[i].Par := by
  have := form_at h hi
  rw [formAt, if_neg (by omega), Bool.and_eq_true] at this
  have h2 : has (l.take i) l[i].Par = true := this.2
  rw [has_mem] at h2
  obtain ⟨q, hq, e⟩ := h2
  obtain ⟨j, hj, rfl⟩ := List.getElem_of_mem hq
  simp only [List.length_take] at hj
  exact ⟨j, by omega, by omega, by simpa using e⟩
theorem form_pos {l : List Q} (h : form l = true) : 0 < l.length := by
  cases l with
  | nil => simp [form, formF] at h
  | cons q r => simp
theorem rises_lt {l : List Q} (hr : Rises l) {i j : Nat} (hi : i < l.length) (hj : j < l.length) (h : i < j) : l[i].Id < l[j].Id :=
  List.pairwise_iff_getElem.1 hr i j hi hj h
theorem rises_inj {l : List Q} (hr : Rises l) {i j : Nat} (hi : i < l.length) (hj : j < l.length) (h : l[i].Id = l[j].Id) : i = j := by
  rcases Nat.lt_trichotomy i j with k | k | k
  · have := rises_lt hr hi hj k; omega
  · exact k
  · have := rises_lt hr hj hi k; omega
theorem id_nonneg {l : List Q} (h : form l = true) {i : Nat} (hi : i < l.length) : 0 ≤ l[i].Id := by
  have h0 := (form_root h (by omega)).1
  rcases Nat.eq_zero_or_pos i with rfl | k
  · omega
  · have := rises_lt (form_rises h) (by omega : 0 < l.length) hi k; omega
theorem has_nonneg {l : List Q} {id : Int} (h : form l = true) (hh : has l id = true) : 0 ≤ id := by
  rw [has_mem] at hh
  obtain ⟨q, hq, rfl⟩ := hh
  obtain ⟨j, hj, rfl⟩ := List.getElem_of_mem hq
  exact id_nonneg h hj
theorem has_at {l : List Q} {i : Nat} (hi : i < l.length) : has l l[i].Id = true := has_mem.2 ⟨_, List.getElem_mem hi, rfl⟩
theorem pos_at {l : List Q} (hr : Rises l) {i : Nat} (hi : i < l.length) : pos l l[i].Id = i := by
  obtain ⟨_, h2, h3⟩ := place_pos hr (has_at hi)
  exact rises_inj hr h2 hi (h3 h2)
theorem find_pos {l : List Q} {id : Int} (hr : Rises l) (hh : has l id = true) (h : pos l id < l.length) : find l id = l[pos l id] := by
  obtain ⟨h1, _, _⟩ := place_pos hr hh
  unfold find
  rw [h1, if_pos (by omega)]
  simp [h]
theorem find_Id {l : List Q} {id : Int} (hr : Rises l) (hh : has l id = true) : (find l id).Id = id := by
  obtain ⟨_, h2, h3⟩ := place_pos hr hh
  rw [find_pos hr hh h2]; exact h3 h2

/-- how far a queue stands from the list's head, 0 for what is none -/
def rank (l : List Q) (id : Int) : Nat := if has l id = true then pos l id + 1 else 0
theorem rank_par {l : List Q} {id : Int} (h : form l = true) (hh : has l id = true) : rank l (find l id).Par < rank l id := by
  have hr := form_rises h
  obtain ⟨_, h2, h3⟩ := place_pos hr hh
  rw [find_pos hr hh h2]
  have e : rank l id = pos l id + 1 := by simp [rank, hh]
  rw [e]
  generalize hp : pos l id = i at h2 ⊢
  rcases Nat.eq_zero_or_pos i with rfl | k
  · have := (form_root h h2).2
    rw [this]
    have : has l (-1) = false := by
      cases e : has l (-1) with
      | false => rfl
      | true => have := has_nonneg h e; omega
    simp [rank, this]
  · obtain ⟨j, hj, hji, e⟩ := form_par h h2 k
    rw [← e]
    simp only [rank, has_at hj, pos_at hr hj, if_true]; omega
theorem rank_le {l : List Q} (id : Int) (hr : Rises l) : rank l id ≤ l.length := by
  unfold rank
  split
  · rename_i h; have := (place_pos hr h).2.1; omega
  · omega
/-- a queue and all above it, with their places -/
def upF (l : List Q) : Nat → Int → List (Nat × Q)
  | 0, _ => []
  | n + 1, id => if has l id = true then (pos l id, find l id) :: upF l n (find l id).Par else []
def up (l : List Q) (id : Int) : List (Nat × Q) := upF l l.length id
theorem upF_stable {l : List Q} (h : form l = true) : ∀ (n m : Nat) (id : Int), rank l id ≤ n → rank l id ≤ m → upF l n id = upF l m id
  | 0, m, id, hn, hm => by
    have : has l id = false := by
      cases e : has l id with
      | false => rfl
      | true => simp [rank, e] at hn
    cases m <;> simp [upF, this]
  | n + 1, 0, id, hn, hm => by
    have : has l id = false := by
      cases e : has l id with
      | false => rfl
      | true => simp [rank, e] at hm
    simp [upF, this]
  | n + 1, m + 1, id, hn, hm => by
    unfold upF
    split
    · rename_i hh
      have := rank_par h hh
      rw [upF_stable h n m _ (by omega) (by omega)]
    · rfl
theorem up_eq {l : List Q} (h : form l = true) (id : Int) : up l id = if has l id = true then (pos l id, find l id) :: up l (find l id).Par else [] := by
  have h0 := form_pos h
  have hr := form_rises h
  unfold up
  rw [upF_stable h l.length (l.length + 1) id (rank_le id hr) (Nat.le_succ_of_le (rank_le id hr)), upF]
/-- the way to the root -/
def path (l : List Q) (id : Int) : List Int := (up l id).map fun p => p.2.Id
theorem path_eq {l : List Q} (h : form l = true) (id : Int) : path l id = if has l id = true then id :: path l (find l id).Par else [] := by
  unfold path
  rw [up_eq h id]
  split
  · rename_i hh
    simp [find_Id (form_rises h) hh]
  · rfl
theorem up_at {l : List Q} (h : form l = true) : ∀ (n : Nat) (id : Int), rank l id ≤ n → ∀ p ∈ up l id, ∃ hp : p.1 < l.length, p.2 = l[p.1]
  | n, id, hn, p, hp => by
    rw [up_eq h id] at hp
    split at hp
    · rename_i hh
      rcases List.mem_cons.1 hp with rfl | hp
      · have h2 := (place_pos (form_rises h) hh).2.1
        exact ⟨h2, find_pos (form_rises h) hh h2⟩
      · have := rank_par h hh
        cases n with
        | zero => omega
        | succ n => exact up_at h n _ (by omega) p hp
    · cases hp
theorem up_mem {l : List Q} (h : form l = true) {id : Int} {p : Nat × Q} (hp : p ∈ up l id) : ∃ hp : p.1 < l.length, p.2 = l[p.1] := up_at h _ id (Nat.le_refl _) p hp
theorem path_root {l : List Q} (h : form l = true) : ∀ (n : Nat) (id : Int), rank l id ≤ n → has l id = true → 0 ∈ path l id
  | n, id, hn, hh => by
    have hr := form_rises h
    have h0 := form_pos h
    rw [path_eq h, if_pos hh]
    by_cases e : id = 0
    · simp [e]
    · obtain ⟨_, h2, h3⟩ := place_pos hr hh
      have hk : 0 < pos l id := by
        rcases Nat.eq_zero_or_pos (pos l id) with k | k
        · have h4 := h3 h2
          simp only [k] at h4
          have := (form_root h h0).1
          omega
        · exact k
      have hq : has l (find l id).Par = true := by
        rw [find_pos hr hh h2]
        obtain ⟨j, hj, _, e⟩ := form_par h h2 hk
        rw [← e]; exact has_at hj
      have := rank_par h hh
      cases n with
      | zero => omega
      | succ n => exact List.mem_cons_of_mem _ (path_root h n _ (by omega) hq)
theorem root_mem {l : List Q} (h : form l = true) {id : Int} (hh : has l id = true) : 0 ∈ path l id := path_root h _ id (Nat.le_refl _) hh

/-- what the walk down meets -/
def downF (id : Int) : List Q → List Int → List Int
  | [], _ => []
  | q :: r, m => if q.Id = id ∨ q.Par ∈ m then q.Id :: downF id r (m ++ [q.Id]) else downF id r m
def down (l : List Q) (id : Int) : List Int := downF id l []
/-- a queue and all below it -/
def below (l : List Q) (id : Int) : List Int := (l.filter fun q => decide (id ∈ path l q.Id)).map (·.Id)
end Go.Idl
end
section
namespace Go.Idl
set_option linter.unusedSimpArgs false
set_option linter.unusedVariables false

/-- what a leaf uses -/
structure U where
  q : Int
  c : Int
  m : Int
  deriving DecidableEq
@[simp] def encV (v : Int × Int) : D := .agg [.int .i64 v.1, .int .i64 v.2]
/-- what uses are together at a queue and below it -/
def totF (l : List Q) (id : Int) : List U → Int × Int → Int × Int
  | [], s => s
  | u :: r, s => totF l id r (if id ∈ path l u.q then (s.1 + u.c, s.2 + u.m) else s)
def tot (l : List Q) (uses : List U) (id : Int) : Int × Int := totF l id uses (0, 0)
def useE (l : List Q) (u : U) : Int := if has l u.q = false then 8 else if sonIds l u.q ≠ [] then 14 else if good u.c u.m = false then 1 else 0
def usesE (l : List Q) : List U → Int
  | [] => 0
  | u :: r => if useE l u ≠ 0 then useE l u else usesE l r
def goodP (v : Int × Int) : Bool := good v.1 v.2
def sumsL (l : List Q) (uses : List U) : List (Int × Int) := l.map fun q => tot l uses q.Id
def overs (l : List Q) (uses : List U) : Bool := (sumsL l uses).any fun v => !goodP v
def sumsE (l : List Q) (uses : List U) : Int := if check l ≠ 0 then check l else if usesE l uses ≠ 0 then usesE l uses else if overs l uses = true then 2 else 0
theorem good_iff {a b : Int} : good a b = true ↔ (0 ≤ a ∧ a ≤ 1099511627776) ∧ 0 ≤ b ∧ b ≤ 1099511627776 := by
  simp [good, and_assoc]
theorem totF_snoc (l : List Q) (id : Int) (u : U) : ∀ (r : List U) (s : Int × Int), totF l id (r ++ [u]) s = (if id ∈ path l u.q then ((totF l id r s).1 + u.c, (totF l id r s).2 + u.m) else totF l id r s)
  | [], s => rfl
  | v :: r, s => by
    rw [List.cons_append, totF, totF_snoc l id u r]; rfl
theorem tot_snoc (l : List Q) (id : Int) (u : U) (r : List U) : tot l (r ++ [u]) id = (if id ∈ path l u.q then ((tot l r id).1 + u.c, (tot l r id).2 + u.m) else tot l r id) := totF_snoc l id u r _
theorem usesE_mem {l : List Q} : ∀ {uses : List U}, usesE l uses = 0 → ∀ u ∈ uses, useE l u = 0
  | [], _, u, hu => by cases hu
  | v :: r, h, u, hu => by
    unfold usesE at h
    split at h
    · rename_i h1; exact absurd h h1
    · rename_i h1
      rcases List.mem_cons.1 hu with rfl | hu
      · simpa using h1
      · exact usesE_mem h u hu
end Go.Idl
end
section
namespace Go.Idl
set_option linter.unusedSimpArgs false
set_option linter.unusedVariables false

/-- a way begins with the queue, and ends with the root -/
theorem path_ends {l : List Q} (h : form l = true) : ∀ (n : Nat) (id : Int), rank l id ≤ n → has l id = true → ∃ r, path l id = id :: r ∧ (path l id).getLast? = some 0
  | n, id, hn, hh => by
    have hr := form_rises h
    have hlt := rank_par h hh
    rw [path_eq h, if_pos hh]
    refine ⟨_, rfl, ?_⟩
    by_cases hq : has l (find l id).Par = true
    · cases n with
      | zero => omega
      | succ n =>
        obtain ⟨r, e1, e2⟩ := path_ends h n _ (by omega) hq
        rw [e1] at e2 ⊢
        rw [List.getLast?_cons_cons]; exact e2
    · have e0 : path l (find l id).Par = [] := by rw [path_eq h, if_neg hq]
      rw [e0]
      obtain ⟨_, h2, h3⟩ := place_pos hr hh
      rw [find_pos hr hh h2] at hq
      have : pos l id = 0 := by
        rcases Nat.eq_zero_or_pos (pos l id) with k | k
        · exact k
        · obtain ⟨j, hj, _, e⟩ := form_par h h2 k
          rw [← e] at hq
          exact absurd (has_at hj) hq
      have h4 := h3 h2
      have h5 := (form_root h (form_pos h)).1
      simp only [this] at h4
      simp [← h4, h5]
theorem path_head {l : List Q} (h : form l = true) {id : Int} (hh : has l id = true) : ∃ r, path l id = id :: r ∧ (path l id).getLast? = some 0 := path_ends h _ id (Nat.le_refl _) hh
/-- each one is a son of the next -/
theorem path_step {l : List Q} (h : form l = true) : ∀ (n : Nat) (id : Int), rank l id ≤ n → ∀ i (hi : i < (path l id).length), has l (path l id)[i] = true ∧ ∀ (hj : i + 1 < (path l id).length), (path l id)[i] ∈ sonIds l (path l id)[i + 1]
  | n, id, hn, i, hi => by
    have hr := form_rises h
    have hh : has l id = true := by
      cases e : has l id with
      | true => rfl
      | false => rw [path_eq h, if_neg (by simp [e])] at hi; simp at hi
    have e := path_eq h id
    rw [if_pos hh] at e
    have hlt := rank_par h hh
    cases i with
    | zero =>
      refine ⟨by simp only [e, List.getElem_cons_zero]; exact hh, fun hj => ?_⟩
      simp only [e, List.getElem_cons_zero, List.getElem_cons_succ]
      have hj' : 0 < (path l (find l id).Par).length := by simp only [e] at hj; simpa using hj
      have hp : has l (find l id).Par = true := by
        cases e2 : has l (find l id).Par with
        | true => rfl
        | false => rw [path_eq h, if_neg (by simp [e2])] at hj'; simp at hj'
      have e3 := path_eq h (find l id).Par
      rw [if_pos hp] at e3
      simp only [e3, List.getElem_cons_zero]
      obtain ⟨_, h2, h3⟩ := place_pos hr hh
      unfold sonIds
      rw [List.mem_map]
      refine ⟨find l id, ?_, find_Id hr hh⟩
      rw [List.mem_filter]
      refine ⟨by rw [find_pos hr hh h2]; exact List.getElem_mem h2, by simp⟩
    | succ i =>
      cases n with
      | zero => omega
      | succ n =>
        have hi' : i < (path l (find l id).Par).length := by simp only [e] at hi; simpa using hi
        obtain ⟨a, b⟩ := path_step h n (find l id).Par (by omega) i hi'
        refine ⟨by simp only [e, List.getElem_cons_succ]; exact a, fun hj => ?_⟩
        have hj' : i + 1 < (path l (find l id).Par).length := by simp only [e] at hj; simpa using hj
        simp only [e, List.getElem_cons_succ]
        exact b hj'
theorem path_son {l : List Q} (h : form l = true) (id : Int) {i : Nat} (hj : i + 1 < (path l id).length) : (path l id)[i] ∈ sonIds l (path l id)[i + 1] := (path_step h _ id (Nat.le_refl _) i (by omega)).2 hj
theorem path_self {l : List Q} (h : form l = true) {id : Int} (hh : has l id = true) : id ∈ path l id := by
  rw [path_eq h, if_pos hh]; exact List.mem_cons_self
end Go.Idl
end
section
namespace Go.Idl
open Go.Proofs
set_option linter.unusedSimpArgs false
set_option linter.unusedVariables false
set_option maxRecDepth 8000
set_option maxHeartbeats 1000000
variable (b : Bool)

end Go.Idl
end
section
namespace Go.Idl
open Go.Proofs
set_option linter.unusedSimpArgs false
set_option linter.unusedVariables false
set_option maxRecDepth 8000

theorem flat_one {x : D} (h : ∀ cs, x ≠ .agg cs) : x.flat = [x] := by cases x <;> first | rfl | exact absurd rfl (h _)
theorem tyd_int {P : Program} {n : Nat} {t : TypeId} {k : IntKind} {ds : List D} (hu : P.underlying t = some (.int k)) (h : TyD P (n + 1) t ds) : ∃ m, ds = [.int k m] ∧ (Lit.int k m).wf = true := by
  unfold TyD at h; rw [hu] at h; exact h
theorem tyd_bool {P : Program} {n : Nat} {t : TypeId} {ds : List D} (hu : P.underlying t = some .bool) (h : TyD P (n + 1) t ds) : ∃ m, ds = [.bool m] := by
  unfold TyD at h; rw [hu] at h; exact h
theorem ty_int {P : Program} {n : Nat} {t : TypeId} {k : IntKind} {x : D} (hu : P.underlying t = some (.int k)) (h : TyV P (n + 1) t x) : ∃ m, x = .int k m ∧ (Lit.int k m).wf = true := by
  obtain ⟨_, h2, h3⟩ := h
  have hs : isStruct P t = false := by unfold isStruct; rw [hu]
  obtain ⟨m, e, hm⟩ := tyd_int hu h3
  rw [flat_one (h2 hs)] at e
  exact ⟨m, by simpa using e, hm⟩
theorem ty_agg {P : Program} {n : Nat} {t : TypeId} {fs : Array Field} {x : D} (hu : P.underlying t = some (.struct fs)) (h : TyV P (n + 1) t x) :
    ∃ cs, x = .agg cs ∧ cs.length = P.cellsOf t ∧ ∀ f ∈ fs.toList, TyD P n f.type ((cs.drop f.offset).take (P.cellsOf f.type)) := by
  obtain ⟨h1, _, h3⟩ := h
  have hs : isStruct P t = true := by unfold isStruct; rw [hu]
  obtain ⟨cs, rfl⟩ := h1 hs
  unfold TyD at h3; rw [hu] at h3
  exact ⟨cs, rfl, h3.1, h3.2⟩
theorem list2 {α : Type} {l : List α} (h : l.length = 2) : ∃ a b, l = [a, b] := by
  match l, h with
  | [a, b], _ => exact ⟨a, b, rfl⟩
theorem list7 {α : Type} {l : List α} (h : l.length = 7) : ∃ a b c d e f g, l = [a, b, c, d, e, f, g] := by
  match l, h with
  | [a, b, c, d, e, f, g], _ => exact ⟨a, b, c, d, e, f, g, rfl⟩
theorem c2 : Try.prog.cellsOf 2 = 1 := by kernel_rfl
theorem c3 : Try.prog.cellsOf 3 = 1 := by kernel_rfl
theorem c41 : Try.prog.cellsOf 41 = 2 := by kernel_rfl
theorem c43 : Try.prog.cellsOf 43 = 7 := by kernel_rfl
theorem b3 : Try.prog.bytesOf 3 = 8 := by kernel_rfl
theorem b43 : Try.prog.bytesOf 43 = 56 := by kernel_rfl
theorem wf_in {m : Int} (h : (Lit.int .i64 m).wf = true) : In64 m := by
  have e1 : IntKind.i64.signed = true := rfl
  have e2 : IntKind.i64.bits = 64 := rfl
  simp [Lit.wf, IntKind.min, IntKind.max, e1, e2] at h
  exact h
theorem tyd_vec {n : Nat} {ds : List D} (h : TyD Try.prog (n + 2) 41 ds) : ∃ a b, ds = [I a, I b] ∧ In64 a ∧ In64 b := by
  unfold TyD at h; rw [Try.underlying41] at h
  obtain ⟨h1, h2⟩ := h
  rw [c41] at h1
  obtain ⟨x, y, rfl⟩ := list2 h1
  simp [c2] at h2
  obtain ⟨h3, h4⟩ := h2
  obtain ⟨a, e1, w1⟩ := tyd_int Try.underlying2 h3
  obtain ⟨b, e2, w2⟩ := tyd_int Try.underlying2 h4
  simp at e1 e2; subst e1; subst e2
  exact ⟨a, b, rfl, wf_in w1, wf_in w2⟩
theorem ty_q {n : Nat} {x : D} (h : TyV Try.prog (n + 3) 43 x) : ∃ q : Q, x = encQ q ∧ q.ok := by
  obtain ⟨cs, rfl, h1, h2⟩ := ty_agg Try.underlying43 h
  rw [c43] at h1
  obtain ⟨x1, x2, x3, x4, x5, x6, x7, rfl⟩ := list7 h1
  simp [c2, c3, c41] at h2
  obtain ⟨k1, k2, k3, k4, k5⟩ := h2
  obtain ⟨a1, e1, w1⟩ := tyd_int Try.underlying3 k1
  obtain ⟨a2, e2, w2⟩ := tyd_int Try.underlying3 k2
  obtain ⟨a3, e3, w3⟩ := tyd_int Try.underlying2 k3
  obtain ⟨a4, a5, e4, w4, w5⟩ := tyd_vec k4
  obtain ⟨a6, a7, e6, w6, w7⟩ := tyd_vec k5
  simp at e1 e2 e3 e4 e6
  obtain ⟨rfl, rfl⟩ := e4
  obtain ⟨rfl, rfl⟩ := e6
  subst e1; subst e2; subst e3
  exact ⟨⟨a1, a2, a3, a4, a5, a6, a7⟩, rfl, ⟨wf_in w1, wf_in w2, wf_in w3, w4, w5, w6, w7⟩⟩
theorem all_enc {α : Type} {enc : α → D} {p : α → Prop} {T : D → Prop} (ht : ∀ x, T x → ∃ a, x = enc a ∧ p a) : ∀ (xs : List D), (∀ x ∈ xs, T x) → ∃ l : List α, xs = l.map enc ∧ ∀ a ∈ l, p a
  | [], _ => ⟨[], rfl, by simp⟩
  | x :: xs, h => by
    obtain ⟨a, rfl, ha⟩ := ht x (h x (by simp))
    obtain ⟨l, rfl, hl⟩ := all_enc ht xs fun y hy => h y (by simp [hy])
    exact ⟨a :: l, rfl, by
      intro b hb
      rcases List.mem_cons.1 hb with rfl | hb
      · exact ha
      · exact hl b hb⟩
theorem own : ownKnob Try.prog.godebug = none := by kernel_rfl
theorem laid : laidOutB Try.prog = true := by kernel_rfl
end Go.Idl
end
section
namespace Go.Idl
set_option linter.unusedSimpArgs false
set_option linter.unusedVariables false

def sumI {α : Type} (f : α → Int) (l : List α) : Int := (l.map f).sum
theorem sumI_cons {α : Type} (f : α → Int) (x : α) (l : List α) : sumI f (x :: l) = f x + sumI f l := by simp [sumI]
end Go.Idl
end
section
namespace Go.Idl
set_option linter.unusedSimpArgs false
set_option linter.unusedVariables false

theorem sumsE_zero {l : List Q} {uses : List U} : sumsE l uses = 0 ↔ check l = 0 ∧ usesE l uses = 0 ∧ overs l uses = false := by
  unfold sumsE
  by_cases h1 : check l = 0
  · by_cases h2 : usesE l uses = 0
    · by_cases h3 : overs l uses = true
      · simp [h1, h2, h3]
      · simp [h1, h2, h3]
    · simp [h1, h2]
  · simp [h1]
theorem overs_iff {l : List Q} {uses : List U} : overs l uses = false ↔ ∀ q ∈ l, goodP (tot l uses q.Id) = true := by
  simp [overs, sumsL]
theorem args_mem : ∀ {l : List Q}, argsF l = true → ∀ q ∈ l, okQ q = true
  | [], _, q, h => by cases h
  | x :: r, h, q, hq => by
    rw [argsF, Bool.and_eq_true] at h
    rcases List.mem_cons.1 hq with rfl | hq
    · exact h.1
    · exact args_mem h.2 q hq
theorem check_args {l : List Q} (h : check l = 0) : argsF l = true := by
  unfold check at h
  split at h
  · cases h
  · split at h
    · cases h
    · split at h
      · cases h
      · rename_i h1 h2 h3; simpa using h3
end Go.Idl
end
section
namespace Go.Idl
set_option linter.unusedSimpArgs false
set_option linter.unusedVariables false

theorem up_lt {l : List Q} (h : form l = true) : ∀ (n : Nat) (id : Int), rank l id ≤ n → ∀ p ∈ up l id, p.1 < rank l id
  | n, id, hn, p, hp => by
    rw [up_eq h id] at hp
    split at hp
    · rename_i hh
      have e : rank l id = pos l id + 1 := by simp [rank, hh]
      rcases List.mem_cons.1 hp with rfl | hp
      · simp only; omega
      · have := rank_par h hh
        cases n with
        | zero => omega
        | succ n => have := up_lt h n _ (by omega) p hp; omega
    · cases hp
theorem up_sorted {l : List Q} (h : form l = true) : ∀ (n : Nat) (id : Int), rank l id ≤ n → ((up l id).map (·.1)).Pairwise fun a b => b < a
  | n, id, hn => by
    rw [up_eq h id]
    split
    · rename_i hh
      have e : rank l id = pos l id + 1 := by simp [rank, hh]
      have hlt := rank_par h hh
      rw [List.map_cons, List.pairwise_cons]
      refine ⟨fun a ha => ?_, ?_⟩
      · obtain ⟨p, hp, rfl⟩ := List.mem_map.1 ha
        have := up_lt h _ _ (Nat.le_refl _) p hp
        simp only; omega
      · cases n with
        | zero => omega
        | succ n => exact up_sorted h n _ (by omega)
    · exact List.Pairwise.nil
theorem up_path_iff {l : List Q} (h : form l = true) (id : Int) {j : Nat} (hj : j < l.length) : j ∈ (up l id).map (·.1) ↔ l[j].Id ∈ path l id := by
  have hr := form_rises h
  constructor
  · intro hm
    obtain ⟨p, hp, rfl⟩ := List.mem_map.1 hm
    obtain ⟨h1, h2⟩ := up_mem h hp
    exact List.mem_map.2 ⟨p, hp, by rw [h2]⟩
  · intro hm
    obtain ⟨p, hp, e⟩ := List.mem_map.1 hm
    obtain ⟨h1, h2⟩ := up_mem h hp
    rw [h2] at e
    exact List.mem_map.2 ⟨p, hp, rises_inj hr h1 hj e⟩

/-- between two uses -/
structure SInv (l : List Q) (uses : List U) (i : Nat) (m : List (Int × Int)) (over : Bool) : Prop where
  len : m.length = l.length
  le : ∀ j (h : j < m.length) (h' : j < l.length), m[j].1 ≤ (tot l (uses.take i) l[j].Id).1 ∧ m[j].2 ≤ (tot l (uses.take i) l[j].Id).2
  good : ∀ j (h : j < m.length), goodP m[j] = true
  no : over = false → m = sumsL l (uses.take i)
  yes : over = true → overs l uses = true
end Go.Idl
end
section
namespace Go.Idl
open Go.Proofs
set_option linter.unusedSimpArgs false
set_option linter.unusedVariables false
set_option maxRecDepth 8000
set_option maxHeartbeats 2000000
variable (b c : Bool)

end Go.Idl
end
section
namespace Go.Idl
open Go.Proofs
set_option linter.unusedSimpArgs false
set_option linter.unusedVariables false
set_option maxRecDepth 8000
set_option maxHeartbeats 2000000

end Go.Idl
end
section
namespace Go.Idl
open Go.Proofs
set_option linter.unusedSimpArgs false
set_option linter.unusedVariables false
set_option maxRecDepth 8000
variable (b : Bool)

theorem check1_spec (q : Q) : PCall Try.prog 119 [encQ q] (.d (.bool (!okQ q))) := by
  refine pcallS (fn := Try.f119) [] [] mixed (bodyOf Try.f119) [.tmp 2] Try.func119 rfl rfl (by decide) 22 rfl (by kernel_rfl) ?_
  simp -implicitDefEqProofs [↓gd_tt, ↓gd_ff, ↓gd_tf, ↓gd_ft, bodyOf, Try.f119, stripC, stripL, stripM, onsOf, upto, hintOf, freeOf, List.replicate]
  refine ⟨fun e1 => ⟨fun e2 => callK_pcall (vgood_spec _ _) rfl rfl ?_, fun e2 => by simp [okQ]; omega⟩, fun e1 => by simp [okQ]; omega⟩
  simp -implicitDefEqProofs [↓gd_tt, ↓gd_ff, ↓gd_tf, ↓gd_ft]
  refine ⟨fun e3 => callK_pcall (vgood_spec _ _) rfl rfl ?_, fun e3 => by simp [okQ, e3]⟩
  simp -implicitDefEqProofs [↓gd_tt, ↓gd_ff, ↓gd_tf, ↓gd_ft, okQ, e1, e2, e3]

theorem index_spec (g : FuncId) (l : List Q) (c : Q → Bool) (hb : hasBody Try.prog g = true) (hl : l.length ≤ maxLen) (hc : ∀ q ∈ l, PCall Try.prog g [encQ q] (.d (.bool (c q)))) :
    FCall Try.prog 146 [.d (encL b l), .fn (.func g) []] (.d (I (match l.findIdx? c with | some i => (i : Int) | none => -1))) := by
  refine fcallS (fn := Try.f146) [] [] mixed (bodyOf Try.f146) [.tmp 4] Try.func146 rfl rfl (by decide) 17 rfl (by kernel_rfl) ?_
  simp -implicitDefEqProofs [↓gd_tt, ↓gd_ff, ↓gd_tf, ↓gd_ft, bodyOf, Try.f146, stripC, stripL, stripM, onsOf, upto, hintOf, freeOf, List.replicate]
  refine loopA mixed [false, false, false, false, true, true, false, false, true, true, true, true, true, true, true, true, true, true, true] (fun (i : Nat) => [(8, .d (I i))]) (fun (i : Nat) => []) (fun (i : Nat) => i ≤ l.length ∧ ∀ j, j < i → ∀ h : j < l.length, c l[j] = false) (fun (i : Nat) => l.length - i) (0) (⟨Nat.zero_le _, by simp⟩) (by simp) ?_
  rintro i hx
  obtain ⟨hi, hp⟩ := hx
  rcases Nat.lt_or_eq_of_le hi with h | h
  · simp -implicitDefEqProofs [↓gd_tt, ↓gd_ff, ↓gd_tf, ↓gd_ft, h, hb]
    refine callK_pcall (hc l[i] (List.getElem_mem h)) rfl rfl ?_
    simp -implicitDefEqProofs [↓gd_tt, ↓gd_ff, ↓gd_tf, ↓gd_ft, wrap1 hl h]
    refine ⟨fun e => ?_, fun e => ⟨⟨by omega, fun j hj hjl => ?_⟩, by omega⟩⟩
    · have : l.findIdx? c = some i := List.findIdx?_eq_some_iff_getElem.2 ⟨h, e, fun j hj => by simp [hp j hj (by omega)]⟩
      rw [this]
    · rcases Nat.lt_or_eq_of_le (Nat.le_of_lt_succ hj) with k | rfl
      · exact hp j k hjl
      · exact e
  · simp -implicitDefEqProofs [↓gd_tt, ↓gd_ff, ↓gd_tf, ↓gd_ft, h]
    have : l.findIdx? c = none := List.findIdx?_eq_none_iff.2 fun x hx => by
      obtain ⟨j, hj, rfl⟩ := List.getElem_of_mem hx
      exact hp j (by omega) hj
    rw [this]

theorem contains_spec (g : FuncId) (l : List Q) (c : Q → Bool) (hb : hasBody Try.prog g = true) (hl : l.length ≤ maxLen) (hc : ∀ q ∈ l, PCall Try.prog g [encQ q] (.d (.bool (c q)))) :
    FCall Try.prog 122 [.d (encL b l), .fn (.func g) []] (.d (.bool (l.any c))) := by
  refine fcallS (fn := Try.f122) [] [] mixed (bodyOf Try.f122) [.tmp 4] Try.func122 rfl rfl (by decide) 7 rfl (by kernel_rfl) ?_
  simp -implicitDefEqProofs [↓gd_tt, ↓gd_ff, ↓gd_tf, ↓gd_ft, bodyOf, Try.f122, stripC, stripL, stripM, onsOf, upto, hintOf, freeOf, List.replicate]
  refine callK_fcall (index_spec b g l c hb hl hc) (by simp) (by simp) (by simp) (by simp) rfl ?_
  simp -implicitDefEqProofs [↓gd_tt, ↓gd_ff, ↓gd_tf, ↓gd_ft]
  cases e : l.findIdx? c with
  | some i =>
    simp
    obtain ⟨h, h1, _⟩ := List.findIdx?_eq_some_iff_getElem.1 e
    exact ⟨_, List.getElem_mem h, h1⟩
  | none => simp; exact List.findIdx?_eq_none_iff.1 e

theorem any_args (l : List Q) : l.any (fun q => !okQ q) = !argsF l := by
  induction l with
  | nil => rfl
  | cons q r ih => simp [argsF, ih]

theorem qcheck_spec (l : List Q) (hl : l.length ≤ maxLen) : PCall Try.prog 64 [encL b l] (.d (I (check l))) := by
  refine pcallS (fn := Try.f64) [] [] mixed (bodyOf Try.f64) [.tmp 2] Try.func64 rfl rfl (by decide) 19 rfl (by kernel_rfl) ?_
  simp -implicitDefEqProofs [↓gd_tt, ↓gd_ff, ↓gd_tf, ↓gd_ft, bodyOf, Try.f64, stripC, stripL, stripM, onsOf, upto, hintOf, freeOf, List.replicate]
  refine ⟨fun h => ?_, fun h => ?_⟩
  · have : 64 < l.length := by omega
    simp [check, this]
  have h64 : ¬ 64 < l.length := by omega
  refine callK_pcall (qform_spec b l (by omega)) rfl rfl ?_
  simp -implicitDefEqProofs [↓gd_tt, ↓gd_ff, ↓gd_tf, ↓gd_ft]
  refine ⟨fun hf => ?_, fun hf => ?_⟩
  · simp [check, h64, hf]
  refine callK_fcall (contains_spec b 119 l (fun q => !okQ q) (by simp) hl fun q _ => check1_spec q) (by simp) (by simp) (by simp) (by simp) rfl ?_
  rw [any_args]
  simp -implicitDefEqProofs [↓gd_tt, ↓gd_ff, ↓gd_tf, ↓gd_ft]
  refine ⟨fun ha => ?_, fun ha => callK_pcall (qmins_spec b l hl) rfl rfl ?_⟩
  · simp [check, h64, hf, ha]
  simp -implicitDefEqProofs [↓gd_tt, ↓gd_ff, ↓gd_tf, ↓gd_ft]
  simp [check, h64, hf, ha]
end Go.Idl
end
