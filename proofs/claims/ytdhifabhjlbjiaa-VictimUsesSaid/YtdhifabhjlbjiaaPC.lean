/- The program's turns: Choose. -/
import Derived.Test.YtdhifabhjlbjiaaPK
set_option linter.all false
namespace Go.Idl
open Go.Proofs
set_option linter.unusedSimpArgs false
set_option linter.unusedVariables false
set_option maxRecDepth 8000
set_option maxHeartbeats 4000000
variable (b c d : Bool)

noncomputable def pickId (l : List Q) (uses : List U) (want : List Int) (t : Int × Int) : Int := (l.getD (pickN l (sumsL l uses) (cnts l want) t) q0).Id
noncomputable def chooseE (l : List Q) (uses : List U) (want : List Int) (t : Int × Int) : Int := if sumsE l uses ≠ 0 then sumsE l uses else marksE l want t.1 t.2
noncomputable def chooseV (l : List Q) (uses : List U) (want : List Int) (t : Int × Int) : V := if chooseE l uses want t = 0 then .tup [.d (I (pickId l uses want t)), .d (I 0)] else .tup [.d (I 0), .d (I (chooseE l uses want t))]
theorem marksE_good {l : List Q} {want : List Int} {x y : Int} (h : marksE l want x y = 0) : good x y = true := by
  unfold marksE at h
  split at h
  · cases h
  · rename_i h1; simpa using h1
theorem choose_spec (l : List Q) (uses : List U) (want : List Int) (t : Int × Int) (hl : l.length ≤ maxLen) (hu : uses.length ≤ maxLen) (hw : want.length ≤ maxLen) : PCall Try.prog 54 [encL b l, encUs c uses, encI d want, .agg [I t.1, I t.2]] (chooseV l uses want t) := by
  refine pcallS (fn := Try.f54) [] [] mixed (bodyOf Try.f54) [.tmp 8, .tmp 9] Try.func54 rfl rfl (by decide) 33 rfl (by kernel_rfl) ?_
  simp -implicitDefEqProofs [↓gd_tt, ↓gd_ff, ↓gd_tf, ↓gd_ft, bodyOf, Try.f54, stripC, stripL, stripM, onsOf, upto, hintOf, freeOf, List.replicate]
  by_cases hs : sumsE l uses = 0
  case neg =>
    have hv : sumsV l uses = .tup [.nil 2, .d (I (sumsE l uses))] := by simp [sumsV, hs]
    have hE : chooseE l uses want t = sumsE l uses := by simp [chooseE, hs]
    refine callK_pcall (qsums_spec b c l uses hl hu) rfl (by rw [hv]; rfl) ?_
    rw [hv]
    simp -implicitDefEqProofs [↓gd_tt, ↓gd_ff, ↓gd_tf, ↓gd_ft, hs, chooseV, hE]
  have hv : sumsV l uses = .tup [.d (encVs false (sumsL l uses)), .d (I 0)] := by simp [sumsV, hs]
  have hE : chooseE l uses want t = marksE l want t.1 t.2 := by simp [chooseE, hs]
  obtain ⟨hc, hu0, ho⟩ := sumsE_zero.1 hs
  refine callK_pcall (qsums_spec b c l uses hl hu) rfl (by rw [hv]; rfl) ?_
  rw [hv]
  simp -implicitDefEqProofs [↓gd_tt, ↓gd_ff, ↓gd_tf, ↓gd_ft, hs]
  refine marks_mem b d l want t.1 t.2 hc hw (fun he v hp' hvv => ?_) (fun he => ?_)
  · have hcv : chooseV l uses want t = .tup [.d (I 0), .d (I (marksE l want t.1 t.2))] := by unfold chooseV; rw [hE, if_neg he]
    rw [hcv]
    rcases hvv with rfl | rfl <;> simp -implicitDefEqProofs [↓gd_tt, ↓gd_ff, ↓gd_tf, ↓gd_ft, he]
  · have hcv : chooseV l uses want t = .tup [.d (I (pickId l uses want t)), .d (I 0)] := by unfold chooseV; rw [hE, if_pos he]
    rw [hcv]
    simp -implicitDefEqProofs [↓gd_tt, ↓gd_ff, ↓gd_tf, ↓gd_ft]
    have hsg : ∀ j (h : j < (sumsL l uses).length), good (sumsL l uses)[j].1 (sumsL l uses)[j].2 = true := fun j h => by
      have h2 : j < l.length := by simpa [sumsL] using h
      have := overs_iff.1 ho _ (List.getElem_mem h2)
      simpa [sumsL, goodP] using this
    have hcl : (cnts l want).length = l.length := by simp [cnts]
    have htk : List.take l.length ((cnts l want).map I) = (cnts l want).map I := List.take_of_length_le (by simp [hcl])
    refine callK_lend (pick_spec b false true l (sumsL l uses) (cnts l want) t hc (by simp [sumsL]) hsg hcl (marksE_good he)) (by simp [hcl, htk]) rfl trivial ?_
    simp -implicitDefEqProofs [↓gd_tt, ↓gd_ff, ↓gd_tf, ↓gd_ft, pickId]
end Go.Idl
