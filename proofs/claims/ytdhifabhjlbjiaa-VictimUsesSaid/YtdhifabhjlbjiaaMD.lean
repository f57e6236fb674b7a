/- Whose turn it is, as plain data: wishes, and how many lie below each queue. No program here. -/
import Derived.Test.YtdhifabhjlbjiaaMQall
set_option linter.all false
namespace Go.Idl
set_option linter.unusedSimpArgs false
set_option linter.unusedVariables false

def Rising (w : List Int) : Prop := ∀ j (h : j + 1 < w.length), w[j] < w[j + 1]
noncomputable instance (w : List Int) : Decidable (Rising w) := Classical.propDecidable _
/-- the wishes below a queue -/
abbrev onWay (l : List Q) (id : Int) (w : Int) : Int := if id ∈ path l w then 1 else 0
def cntI (l : List Q) (want : List Int) (id : Int) : Int := sumI (onWay l id) want
def cnts (l : List Q) (want : List Int) : List Int := l.map fun q => cntI l want q.Id
def wantsE (l : List Q) (want : List Int) : Int := if want.any (fun w => !has l w) then 8 else if want.any (fun w => !decide (sonIds l w = [])) then 14 else 0
noncomputable def marksE (l : List Q) (want : List Int) (x y : Int) : Int := if good x y = false then 1 else if Rising want then (if want = [] then 8 else wantsE l want) else 4
theorem cntI_bound (l : List Q) (id : Int) : ∀ (want : List Int), 0 ≤ cntI l want id ∧ cntI l want id ≤ want.length
  | [] => by simp [cntI, sumI]
  | w :: r => by
    have ih := cntI_bound l id r
    unfold cntI at ih ⊢
    rw [sumI_cons]
    simp only [List.length_cons, onWay]
    split <;> omega
/-- what a wish has made of the counts, k steps up -/
def UpdC (l : List Q) (w : Int) (k : Nat) (m m' : List Int) : Prop :=
  m'.length = m.length ∧ ∀ j (h : j < m'.length) (h' : j < m.length), m'[j] = if j ∈ ((up l w).take k).map (·.1) then m[j] + 1 else m[j]
theorem updC_zero (l : List Q) (w : Int) (m : List Int) : UpdC l w 0 m m := ⟨rfl, fun j _ _ => by simp⟩
theorem updC_at {l : List Q} (h : form l = true) {w : Int} {k : Nat} {m m' : List Int} (hu : UpdC l w k m m') (hk : k < (up l w).length) (h1 : (up l w)[k].1 < m'.length) (h2 : (up l w)[k].1 < m.length) : m'[(up l w)[k].1] = m[(up l w)[k].1] := by
  rw [hu.2 _ h1 h2, if_neg (up_new h w hk)]
theorem updC_step {l : List Q} (h : form l = true) {w : Int} {k : Nat} {m m' : List Int} (hu : UpdC l w k m m') (hk : k < (up l w).length) (h1 : (up l w)[k].1 < m'.length) :
    UpdC l w (k + 1) m (m'.set (up l w)[k].1 (m'[(up l w)[k].1] + 1)) := by
  have h2 : (up l w)[k].1 < m.length := by rw [← hu.1]; exact h1
  refine ⟨by rw [List.length_set]; exact hu.1, fun j hj hj' => ?_⟩
  rw [List.length_set] at hj
  rw [List.getElem_set, List.take_add_one, List.getElem?_eq_getElem hk, Option.toList_some, List.map_append]
  by_cases e : (up l w)[k].1 = j
  · subst e
    rw [if_pos rfl, updC_at h hu hk h1 h2, if_pos (by simp)]
  · rw [if_neg e, hu.2 j hj hj']
    have : (j ∈ ((up l w).take k).map (·.1) ++ [(up l w)[k]].map (·.1)) ↔ j ∈ ((up l w).take k).map (·.1) := by
      rw [List.mem_append]
      constructor
      · rintro (k1 | k1)
        · exact k1
        · simp at k1; exact absurd k1.symm e
      · exact .inl
    simp only [this]
theorem cnts_zero (l : List Q) (want : List Int) : cnts l (want.take 0) = List.replicate l.length 0 := by
  refine List.ext_getElem (by simp [cnts]) fun j h1 h2 => ?_
  simp [cnts, cntI, sumI]
theorem cnts_full {l : List Q} {want : List Int} {i : Nat} {m' : List Int} (h : form l = true) (hi : i < want.length) (hu : UpdC l want[i] (up l want[i]).length (cnts l (want.take i)) m') : m' = cnts l (want.take (i + 1)) := by
  refine List.ext_getElem (by rw [hu.1]; simp [cnts]) fun j h1 h2 => ?_
  have h3 : j < l.length := by simpa [cnts] using h2
  have h4 : j < (cnts l (want.take i)).length := by simpa [cnts] using h3
  rw [hu.2 j h1 h4, List.take_of_length_le (Nat.le_refl _)]
  simp only [up_path_iff h _ h3]
  simp only [cnts, List.getElem_map, cntI]
  rw [sumI_take_succ _ hi]
  unfold onWay
  split <;> omega
end Go.Idl
