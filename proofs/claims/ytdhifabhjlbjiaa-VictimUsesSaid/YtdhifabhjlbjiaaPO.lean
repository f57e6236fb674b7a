/- The program's turns: Order. -/
import Derived.Test.YtdhifabhjlbjiaaPC
set_option linter.all false
namespace Go.Idl
open Go.Proofs
set_option linter.unusedSimpArgs false
set_option linter.unusedVariables false
set_option maxRecDepth 8000
set_option maxHeartbeats 4000000
variable (b c d : Bool)

/-- what a turn takes off the counts, k steps up -/
def UpdM (l : List Q) (w : Int) (k : Nat) (m m' : List Int) : Prop :=
  m'.length = m.length ∧ ∀ j (h : j < m'.length) (h' : j < m.length), m'[j] = if j ∈ ((up l w).take k).map (·.1) then IntKind.i64.wrap (m[j] - 1) else m[j]
theorem updM_zero (l : List Q) (w : Int) (m : List Int) : UpdM l w 0 m m := ⟨rfl, fun j _ _ => by simp⟩
theorem updM_at {l : List Q} (h : form l = true) {w : Int} {k : Nat} {m m' : List Int} (hu : UpdM l w k m m') (hk : k < (up l w).length) (h1 : (up l w)[k].1 < m'.length) (h2 : (up l w)[k].1 < m.length) : m'[(up l w)[k].1] = m[(up l w)[k].1] := by
  rw [hu.2 _ h1 h2, if_neg (up_new h w hk)]
theorem updM_step {l : List Q} (h : form l = true) {w : Int} {k : Nat} {m m' : List Int} (hu : UpdM l w k m m') (hk : k < (up l w).length) (h1 : (up l w)[k].1 < m'.length) :
    UpdM l w (k + 1) m (m'.set (up l w)[k].1 (IntKind.i64.wrap (m'[(up l w)[k].1] - 1))) := by
  have h2 : (up l w)[k].1 < m.length := by rw [← hu.1]; exact h1
  refine ⟨by rw [List.length_set]; exact hu.1, fun j hj hj' => ?_⟩
  rw [List.length_set] at hj
  rw [List.getElem_set, List.take_add_one, List.getElem?_eq_getElem hk, Option.toList_some, List.map_append]
  by_cases e : (up l w)[k].1 = j
  · subst e
    rw [if_pos rfl, updM_at h hu hk h1 h2, if_pos (by simp)]
  · rw [if_neg e, hu.2 j hj hj']
    have : (j ∈ ((up l w).take k).map (·.1) ++ [(up l w)[k]].map (·.1)) ↔ j ∈ ((up l w).take k).map (·.1) := by
      rw [List.mem_append]
      constructor
      · rintro (k1 | k1)
        · exact k1
        · simp at k1; exact absurd k1.symm e
      · exact .inl
    simp only [this]
/-- the counts without one turn -/
def lessZ (l : List Q) (w : Int) (m : List Int) : List Int := (List.range m.length).map fun j => if j ∈ (up l w).map (·.1) then IntKind.i64.wrap (m.getD j 0 - 1) else m.getD j 0
theorem lessZ_len (l : List Q) (w : Int) (m : List Int) : (lessZ l w m).length = m.length := by simp [lessZ]
theorem lessZ_eq {l : List Q} {w : Int} {m m' : List Int} (hu : UpdM l w (up l w).length m m') : m' = lessZ l w m := by
  refine List.ext_getElem (by rw [lessZ_len]; exact hu.1) fun j h1 h2 => ?_
  have h3 : j < m.length := by rw [lessZ_len] at h2; exact h2
  rw [hu.2 j h1 h3, List.take_of_length_le (Nat.le_refl _)]
  have e : m.getD j 0 = m[j] := by simp [h3]
  simp only [lessZ, List.getElem_map, List.getElem_range, e]
noncomputable def pickAt (l : List Q) (sums : List (Int × Int)) (t : Int × Int) (cnt : List Int) : Int := (l.getD (pickN l sums cnt t) q0).Id
/-- so many turns -/
noncomputable def turns (l : List Q) (sums : List (Int × Int)) (t : Int × Int) : Nat → List Int → List Int × List Int
  | 0, cnt => ([], cnt)
  | n + 1, cnt => ((turns l sums t n cnt).1 ++ [pickAt l sums t (turns l sums t n cnt).2], lessZ l (pickAt l sums t (turns l sums t n cnt).2) (turns l sums t n cnt).2)
theorem turns_len (l : List Q) (sums : List (Int × Int)) (t : Int × Int) (cnt : List Int) : ∀ n, (turns l sums t n cnt).1.length = n ∧ (turns l sums t n cnt).2.length = cnt.length
  | 0 => ⟨rfl, rfl⟩
  | n + 1 => by
    obtain ⟨h1, h2⟩ := turns_len l sums t cnt n
    simp only [turns, List.length_append, h1, lessZ_len, h2]
    exact ⟨rfl, trivial⟩
noncomputable def orderV (l : List Q) (uses : List U) (want : List Int) (t : Int × Int) : V := if chooseE l uses want t = 0 then .tup [.d (encI false (turns l (sumsL l uses) t want.length (cnts l want)).1), .d (I 0)] else .tup [.nil 1, .d (I (chooseE l uses want t))]
theorem clip_mem {hp : List IObj} {K : V → List IObj → Prop} {id n cap : Nat} {xs : List D} (h : hp[id]? = some (.arr 1 xs)) (hn : n ≤ cap) (hc : cap ≤ xs.length) (hk : K (.ref id 1 0 n n) hp) : CallK Try.prog 134 [.ref id 1 0 n cap] hp K := by
  refine callS (fn := Try.f134) [] [] mixed (bodyOf Try.f134) [.tmp 2] Try.func134 rfl rfl (by decide) 8 rfl (by kernel_rfl) ?_
  simp -implicitDefEqProofs [↓gd_tt, ↓gd_ff, ↓gd_tf, ↓gd_ft, bodyOf, Try.f134, stripC, stripL, stripM, onsOf, upto, hintOf, freeOf, List.replicate]
  simp -implicitDefEqProofs [↓gd_tt, ↓gd_ff, ↓gd_tf, ↓gd_ft, h, hn, hc]
  exact hk
theorem dorder_spec (l : List Q) (uses : List U) (want : List Int) (t : Int × Int) (hl : l.length ≤ maxLen) (hu : uses.length ≤ maxLen) (hw : want.length ≤ maxLen) (hw2 : want.length * 8 ≤ reachBytes) : PCall Try.prog 56 [encL b l, encUs c uses, encI d want, .agg [I t.1, I t.2]] (orderV l uses want t) := by
  refine pcallS (fn := Try.f56) [] [] mixed (bodyOf Try.f56) [.tmp 8, .tmp 9] Try.func56 rfl rfl (by decide) 61 rfl (by kernel_rfl) ?_
  simp -implicitDefEqProofs [↓gd_tt, ↓gd_ff, ↓gd_tf, ↓gd_ft, bodyOf, Try.f56, stripC, stripL, stripM, onsOf, upto, hintOf, freeOf, List.replicate]
  by_cases hs : sumsE l uses = 0
  case neg =>
    have hv : sumsV l uses = .tup [.nil 2, .d (I (sumsE l uses))] := by simp [sumsV, hs]
    have hE : chooseE l uses want t = sumsE l uses := by simp [chooseE, hs]
    refine callK_pcall (qsums_spec b c l uses hl hu) rfl (by rw [hv]; rfl) ?_
    rw [hv]
    simp -implicitDefEqProofs [↓gd_tt, ↓gd_ff, ↓gd_tf, ↓gd_ft, hs, orderV, hE]
  have hv : sumsV l uses = .tup [.d (encVs false (sumsL l uses)), .d (I 0)] := by simp [sumsV, hs]
  have hE : chooseE l uses want t = marksE l want t.1 t.2 := by simp [chooseE, hs]
  obtain ⟨hc, hu0, ho⟩ := sumsE_zero.1 hs
  have hf := check_form hc
  have h64 := check_len hc
  have hrb : reachBytes = 140737488351232 := rfl
  refine callK_pcall (qsums_spec b c l uses hl hu) rfl (by rw [hv]; rfl) ?_
  rw [hv]
  simp -implicitDefEqProofs [↓gd_tt, ↓gd_ff, ↓gd_tf, ↓gd_ft, hs]
  refine marks_mem b d l want t.1 t.2 hc hw (fun he v hp' hvv => ?_) (fun he => ?_)
  · have hcv : orderV l uses want t = .tup [.nil 1, .d (I (marksE l want t.1 t.2))] := by unfold orderV; rw [hE, if_neg he]
    rw [hcv]
    rcases hvv with rfl | rfl <;> simp -implicitDefEqProofs [↓gd_tt, ↓gd_ff, ↓gd_tf, ↓gd_ft, he]
  have hcv : orderV l uses want t = .tup [.d (encI false (turns l (sumsL l uses) t want.length (cnts l want)).1), .d (I 0)] := by unfold orderV; rw [hE, if_pos he]
  rw [hcv]
  have hsg : ∀ j (h : j < (sumsL l uses).length), good (sumsL l uses)[j].1 (sumsL l uses)[j].2 = true := fun j h => by
    have h2 : j < l.length := by simpa [sumsL] using h
    have := overs_iff.1 ho _ (List.getElem_mem h2)
    simpa [sumsL, goodP] using this
  simp -implicitDefEqProofs [↓gd_tt, ↓gd_ff, ↓gd_tf, ↓gd_ft]
  refine ⟨by omega, by omega, ?_⟩
  refine loopA mixed [false, false, false, false, false, false, false, false, false, false, false, false, false, true, true, false, false, false, false, false, false, false, false, false, false, false, false, false, false, false, false, false, false, false, false, false, false, false, false, false, true, true, true, true, true, true, true, true, true, true, false, false, false, false, false, false, false, false, true, true, true, true, true] (fun (i : Nat) => [(13, .ref 5 1 0 i want.length), (40, .d (I i))]) (fun (i : Nat) => [.var [.d (I t.1), .d (I t.2)], .var [.d (I t.1), .d (I t.2)], .arr 1 ((turns l (sumsL l uses) t i (cnts l want)).2.map I), .var [.ref 2 1 0 l.length l.length], .var [.ref 2 1 0 l.length l.length], .arr 1 ((turns l (sumsL l uses) t i (cnts l want)).1.map I ++ List.replicate (want.length - i) (I 0))]) (fun (i : Nat) => i ≤ want.length) (fun (i : Nat) => want.length - i) (0) (Nat.zero_le _) (by simp [turns]) ?_
  rintro i hx
  obtain ⟨tl1, tl2⟩ := turns_len l (sumsL l uses) t (cnts l want) i
  have hcl : (cnts l want).length = l.length := by simp [cnts]
  rw [hcl] at tl2
  rcases Nat.lt_or_eq_of_le hx with h | h
  · have htk : List.take l.length ((turns l (sumsL l uses) t i (cnts l want)).2.map I) = (turns l (sumsL l uses) t i (cnts l want)).2.map I := List.take_of_length_le (by simp [tl2])
    have ets : turns l (sumsL l uses) t (i + 1) (cnts l want) = ((turns l (sumsL l uses) t i (cnts l want)).1 ++ [pickAt l (sumsL l uses) t (turns l (sumsL l uses) t i (cnts l want)).2], lessZ l (pickAt l (sumsL l uses) t (turns l (sumsL l uses) t i (cnts l want)).2) (turns l (sumsL l uses) t i (cnts l want)).2) := rfl
    generalize htc : (turns l (sumsL l uses) t i (cnts l want)).2 = cn at *
    generalize hto : (turns l (sumsL l uses) t i (cnts l want)).1 = out at *
    simp -implicitDefEqProofs [↓gd_tt, ↓gd_ff, ↓gd_tf, ↓gd_ft, h]
    have hps : PCall Try.prog 130 [encL b l, encVs false (sumsL l uses), encI true cn, .agg [I t.1, I t.2]] (.d (I (pickAt l (sumsL l uses) t cn))) := pick_spec b false true l (sumsL l uses) cn t hc (by simp [sumsL]) hsg tl2 (marksE_good he)
    generalize pickAt l (sumsL l uses) t cn = w at *
    refine callK_lend hps (by simp [tl2, htk]) rfl trivial ?_
    simp -implicitDefEqProofs [↓gd_tt, ↓gd_ff, ↓gd_tf, ↓gd_ft]
    refine upw_spec b l w _ _ ?_
    simp -implicitDefEqProofs [↓gd_tt, ↓gd_ff, ↓gd_tf, ↓gd_ft]
    refine rangeYS mixed (up_yields b l w 7 6 (small h64.2) hf (by decide)) (by simp) (by simp) (by simp) (by simp) (by simp) (by intro y hy; obtain ⟨p, _, rfl⟩ := List.mem_map.1 hy; simp [yQ]) (fun k hp => ∃ m', hp = [.var [.d (I t.1), .d (I t.2)], .var [.d (I t.1), .d (I t.2)], .arr 1 (m'.map I), .var [.ref 2 1 0 l.length l.length], .var [.ref 2 1 0 l.length l.length], .arr 1 (out.map I ++ List.replicate (want.length - i) (I 0)), .var [.d (encL b l)], .var [.d (I (upx l w (k - 1)))]] ∧ k ≤ (up l w).length ∧ UpdM l w k cn m') ⟨_, rfl, Nat.zero_le _, updM_zero _ _ _⟩ (by rintro k hp ⟨m', rfl, _⟩; simp) ?_ ?_
    · rintro k hp ⟨m', rfl, hk, hu'⟩ hik L0 L1
      have hk' : k < (up l w).length := by simpa using hik
      obtain ⟨u1, u2⟩ := up_mem hf (List.getElem_mem hk')
      have hml : m'.length = l.length := hu'.1.trans tl2
      have hp1 : (up l w)[k].1 < m'.length := by rw [hml]; exact u1
      simp -implicitDefEqProofs [↓gd_tt, ↓gd_ff, ↓gd_tf, ↓gd_ft, yQ, u1, hp1, hml]
      exact ⟨m'.set (up l w)[k].1 (IntKind.i64.wrap (m'[(up l w)[k].1] - 1)), by simp [List.map_set], by omega, updM_step hf hu' hk' hp1⟩
    · rintro hp' ⟨m', rfl, hk, hu'⟩
      have hfull := lessZ_eq (by simpa using hu')
      subst hfull
      have hcap : i + 1 ≤ want.length := by omega
      have e3 : List.drop (i + 1) (out.map I ++ List.replicate (want.length - i) (I 0)) = List.replicate (want.length - (i + 1)) (I 0) := by
        rw [List.drop_append, List.drop_of_length_le (by simp [tl1])]
        simp [tl1, Nat.sub_sub]
      simp -implicitDefEqProofs [↓gd_tt, ↓gd_ff, ↓gd_tf, ↓gd_ft, wrap1 hw h, tl1, hcap]
      refine ⟨by omega, by omega, by omega, ⟨i + 1, by omega, by omega, rfl, by rw [ets], ?_⟩, fun e => by omega⟩
      rw [ets, e3]; simp
  · subst h
    simp -implicitDefEqProofs [↓gd_tt, ↓gd_ff, ↓gd_tf, ↓gd_ft]
    refine clip_mem rfl (Nat.le_refl _) (by simp [tl1]) ?_
    simp -implicitDefEqProofs [↓gd_tt, ↓gd_ff, ↓gd_tf, ↓gd_ft, tl1]
    exact List.take_of_length_le (by simp [tl1])
end Go.Idl
