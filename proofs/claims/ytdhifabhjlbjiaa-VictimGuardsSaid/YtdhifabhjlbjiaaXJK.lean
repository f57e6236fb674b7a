/- The leaves that starve: the program, the document, and the statement VictimStarves.; The leaves that starve: the document, and the statement VictimStarves. -/
import Derived.Test.YtdhifabhjlbjiaaXI
import Derived.Test.YtdhifabhjlbjiaaPD
set_option linter.all false
section
namespace Go.Idl
open Go.Proofs
set_option linter.unusedSimpArgs false
set_option linter.unusedVariables false
set_option maxRecDepth 20000
set_option maxHeartbeats 4000000
variable (b c d : Bool)

def neAt (l : List Q) (need : List U) (i : Nat) : Int :=
  if 0 < i ∧ (need.getD i ⟨0, 0, 0⟩).q ≤ (need.getD (i - 1) ⟨0, 0, 0⟩).q then 4 else if has l (need.getD i ⟨0, 0, 0⟩).q = false then 8 else if sonIds l (need.getD i ⟨0, 0, 0⟩).q ≠ [] then 14
  else if good (need.getD i ⟨0, 0, 0⟩).c (need.getD i ⟨0, 0, 0⟩).m = false then 1 else 0
def needE (l : List Q) (need : List U) : Int := match (List.range need.length).find? (fun i => decide (neAt l need i ≠ 0)) with
  | some i => neAt l need i
  | none => 0
theorem needE_bad {l : List Q} {need : List U} {i : Nat} (hi : i < need.length) (h : ∀ j, j < i → neAt l need j = 0) (hb : neAt l need i ≠ 0) : needE l need = neAt l need i := by
  have : (List.range need.length).find? (fun i => decide (neAt l need i ≠ 0)) = some i := by
    rw [List.find?_range_eq_some]
    refine ⟨by simpa using hb, by simpa using hi, fun j hj => ?_⟩
    simp [h j hj]
  unfold needE; rw [this]
theorem needE_ok {l : List Q} {need : List U} (h : ∀ j, j < need.length → neAt l need j = 0) : needE l need = 0 := by
  have : (List.range need.length).find? (fun i => decide (neAt l need i ≠ 0)) = none := by
    rw [List.find?_eq_none]
    intro j hj
    simp [h j (by simpa using hj)]
  unfold needE; rw [this]
/-- what a leaf lacks -/
def lacks (l : List Q) (M : List (Int × Int)) (u : U) : Bool := fits ((M.getD (place l u.q).toNat (0, 0)).1 + u.c) ((M.getD (place l u.q).toNat (0, 0)).2 + u.m) (l.getD (place l u.q).toNat q0).MC (l.getD (place l u.q).toNat q0).MM
def starveL (l : List Q) (M : List (Int × Int)) (need : List U) : List Int := (need.filter (lacks l M)).map (·.q)
def starveE (l : List Q) (ls : List Le) (need : List U) : Int := if vsumsE l ls ≠ 0 then vsumsE l ls else needE l need
def starveV (l : List Q) (ls : List Le) (need : List U) : V := if starveE l ls need = 0 then .tup [.d (encI false (starveL l (sumsL l (usesL ls)) need)), .d (I 0)] else .tup [.nil 1, .d (I (starveE l ls need))]
theorem starveL_take {l : List Q} {M : List (Int × Int)} {need : List U} {i : Nat} (h : i < need.length) : starveL l M (need.take (i + 1)) = starveL l M (need.take i) ++ (if lacks l M need[i] = true then [need[i].q] else []) := by
  unfold starveL
  rw [List.take_add_one, List.getElem?_eq_getElem h, Option.toList_some, List.filter_append, List.map_append]
  cases e : lacks l M need[i] <;> simp [e]
theorem starveL_len (l : List Q) (M : List (Int × Int)) (need : List U) : (starveL l M need).length ≤ need.length := by
  unfold starveL; rw [List.length_map]; exact List.length_filter_le _ _
theorem starved_spec (l : List Q) (ls : List Le) (need : List U) (hl : l.length ≤ maxLen) (hls : ls.length ≤ maxLen) (hb : ls.length * 80 ≤ reachBytes) (hq : ∀ x ∈ ls, In64 x.q) (hn : need.length ≤ maxLen) (hnb : need.length * 24 ≤ reachBytes) : PCall Try.prog 76 [encL b l, encLs c ls, encUs d need] (starveV l ls need) := by
  have hrb : reachBytes = 140737488351232 := rfl
  have hbad : ∀ e : Int, e ≠ 0 → starveE l ls need = e → starveV l ls need = .tup [.nil 1, .d (I e)] := fun e he h => by unfold starveV; rw [h, if_neg he]
  refine pcallS (fn := Try.f76) [] [] mixed (bodyOf Try.f76) [.tmp 6, .tmp 7] Try.func76 rfl rfl (by decide) 88 rfl (by kernel_rfl) ?_
  simp -implicitDefEqProofs [↓gd_tt, ↓gd_ff, ↓gd_tf, ↓gd_ft, bodyOf, Try.f76, stripC, stripL, stripM, onsOf, upto, hintOf, freeOf, List.replicate]
  by_cases hE : vsumsE l ls = 0
  case neg =>
    have hv : vsumsV l ls = .tup [.nil 2, .d (I (vsumsE l ls))] := by unfold vsumsV; rw [if_neg hE]
    refine callK_pcall (vsums_spec b c l ls hl hls hb hq) rfl (by rw [hv]; rfl) ?_
    rw [hv, hbad _ hE (by unfold starveE; rw [if_pos hE])]
    simp -implicitDefEqProofs [↓gd_tt, ↓gd_ff, ↓gd_tf, ↓gd_ft, hE]
  have hv : vsumsV l ls = .tup [.d (encVs false (sumsL l (usesL ls))), .d (I 0)] := by unfold vsumsV; rw [if_pos hE]
  have hSE : starveE l ls need = needE l need := by unfold starveE; rw [if_neg (by simp [hE])]
  rw [hSE] at hbad
  obtain ⟨hc, hu, hs⟩ := vsums_zero.1 hE
  obtain ⟨_, _, ho⟩ := sumsE_zero.1 hs
  have hri := check_rises hc
  have hsl : (sumsL l (usesL ls)).length = l.length := by simp [sumsL]
  have hsg : ∀ j (h : j < (sumsL l (usesL ls)).length), good (sumsL l (usesL ls))[j].1 (sumsL l (usesL ls))[j].2 = true := fun j h => by
    have h' : j < l.length := by simpa [sumsL] using h
    have := overs_iff.1 ho l[j] (List.getElem_mem h')
    simpa [sumsL, goodP] using this
  refine callK_pcall (vsums_spec b c l ls hl hls hb hq) rfl (by rw [hv]; rfl) ?_
  rw [hv]
  have hok : needE l need = 0 → starveV l ls need = .tup [.d (encI false (starveL l (sumsL l (usesL ls)) need)), .d (I 0)] := fun h => by unfold starveV; rw [hSE, if_pos h]
  generalize hM : sumsL l (usesL ls) = M at *
  simp -implicitDefEqProofs [↓gd_tt, ↓gd_ff, ↓gd_tf, ↓gd_ft]
  refine loopA mixed [false, false, false, false, false, false, true, true, false, false, true, true, true, true, true, false, false, false, false, false, false, false, false, false, false, false, true, true, true, true, true, true, true, true, true, true, true, true, true, true, true, true, true, true, true, true, true, true, true, true, true, true, true, true, true, true, true, true, true, true, true, true, true, true, true, true, true, true, true, true, true, true, true, true, true, true, true, true, true, true, true, true, true, true, true, true, true, true, true, true] (fun (i : Nat) => [(26, .d (I i)), (10, .own 1 ((starveL l M (need.take i)).map fun n => .int .i64 n))]) (fun (i : Nat) => []) (fun (i : Nat) => i ≤ need.length ∧ ∀ j, j < i → neAt l need j = 0) (fun (i : Nat) => need.length - i) (0) (⟨Nat.zero_le _, fun j h => by omega⟩) (by simp [starveL]) ?_
  rintro i hx
  obtain ⟨hi, hx⟩ := hx
  rcases Nat.lt_or_eq_of_le hi with h | h
  case inr =>
    have htk : need.take i = need := by rw [h]; exact List.take_length
    rw [hok (needE_ok fun j hj => hx j (by omega)), htk]
    simp -implicitDefEqProofs [↓gd_tt, ↓gd_ff, ↓gd_tf, ↓gd_ft, h]
  have hg0 : need.getD i ⟨0, 0, 0⟩ = need[i] := by simp [h]
  have hwi := wrap1 hn h
  have hbd := needE_bad (l := l) h hx
  have hna : neAt l need i = if 0 < i ∧ need[i].q ≤ (need.getD (i - 1) ⟨0, 0, 0⟩).q then 4 else if has l need[i].q = false then 8 else if sonIds l need[i].q ≠ [] then 14 else if good need[i].c need[i].m = false then 1 else 0 := by unfold neAt; rw [hg0]
  have hm1 : i - 1 < need.length := by omega
  have hg1 : need.getD (i - 1) ⟨0, 0, 0⟩ = need[i - 1] := by simp [hm1]
  rw [hg1] at hna
  by_cases h0 : 0 < i ∧ need[i].q ≤ need[i - 1].q
  · have hwm := wrapm1 hn h h0.1
    have hz := h0.1
    rw [if_pos h0] at hna
    rw [hbad 4 (by decide) (by rw [hbd (by rw [hna]; decide), hna])]
    simp -implicitDefEqProofs [↓gd_tt, ↓gd_ff, ↓gd_tf, ↓gd_ft, h, hz, h0.2, hwm, hm1]
  rw [if_neg h0] at hna
  have hlt : 0 < i → ¬ need[i].q ≤ need[i - 1].q := fun k k2 => h0 ⟨k, k2⟩
  have his := is_spec b l need[i].q hc
  have hvg := vgood_spec need[i].c need[i].m
  rcases Nat.eq_zero_or_pos i with z | z
  · have hz : ¬ (0 : Int) < (i : Int) := by omega
    have hz2 : ¬ 0 < i := by omega
    simp -implicitDefEqProofs [↓gd_tt, ↓gd_ff, ↓gd_tf, ↓gd_ft, h, hz, hz2]
    refine callK_pcall his rfl rfl ?_
    by_cases hh : has l need[i].q = true
    case neg =>
      rw [if_pos (by simpa using hh)] at hna
      rw [hbad 8 (by decide) (by rw [hbd (by rw [hna]; decide), hna])]
      simp -implicitDefEqProofs [↓gd_tt, ↓gd_ff, ↓gd_tf, ↓gd_ft, hh]
    rw [if_neg (by simp [hh])] at hna
    by_cases hsn : sonIds l need[i].q = []
    case neg =>
      rw [if_pos hsn] at hna
      rw [hbad 14 (by decide) (by rw [hbd (by rw [hna]; decide), hna])]
      simp -implicitDefEqProofs [↓gd_tt, ↓gd_ff, ↓gd_tf, ↓gd_ft, hh, hsn]
    rw [if_neg (by simp [hsn])] at hna
    simp -implicitDefEqProofs [↓gd_tt, ↓gd_ff, ↓gd_tf, ↓gd_ft, hh, hsn]
    refine callK_pcall hvg rfl rfl ?_
    by_cases hgd : good need[i].c need[i].m = true
    case neg =>
      rw [if_pos (by simpa using hgd)] at hna
      rw [hbad 1 (by decide) (by rw [hbd (by rw [hna]; decide), hna])]
      simp -implicitDefEqProofs [↓gd_tt, ↓gd_ff, ↓gd_tf, ↓gd_ft, hgd]
    rw [if_neg (by simp [hgd])] at hna
    obtain ⟨hpp, hpl, hpi⟩ := place_pos hri hh
    have hvat := vat_spec b l need[i].q hl
    rw [hpp] at hvat
    generalize pos l need[i].q = j at *
    have hjM : j < M.length := by omega
    have hgj := good_iff.1 (hsg j hjM)
    have hgu := good_iff.1 hgd
    have w1 : IntKind.i64.wrap (M[j].1 + need[i].c) = M[j].1 + need[i].c := wrap_i64 (by omega) (by omega)
    have w2 : IntKind.i64.wrap (M[j].2 + need[i].m) = M[j].2 + need[i].m := wrap_i64 (by omega) (by omega)
    have hfit := vfits_spec (M[j].1 + need[i].c) (M[j].2 + need[i].m) l[j].MC l[j].MM
    have hlk : lacks l M need[i] = fits (M[j].1 + need[i].c) (M[j].2 + need[i].m) l[j].MC l[j].MM := by
      unfold lacks; rw [hpp]; simp [hjM, hpl]
    have hst := starveL_take (l := l) (M := M) h
    have hsln := starveL_len l M (need.take i)
    simp only [List.length_take] at hsln
    rw [← hlk] at hfit
    simp -implicitDefEqProofs [↓gd_tt, ↓gd_ff, ↓gd_tf, ↓gd_ft, hgd]
    refine callK_pcall hvat rfl rfl ?_
    simp -implicitDefEqProofs [↓gd_tt, ↓gd_ff, ↓gd_tf, ↓gd_ft, hjM, hpl, w1, w2]
    refine free_pcall hfit rfl rfl ?_
    have hnx : ∀ j, j < i + 1 → neAt l need j = 0 := fun j hj => by
      by_cases e : j = i
      · subst e; exact hna
      · exact hx j (by omega)
    cases hla : lacks l M need[i] with
    | false =>
      rw [hla] at hst
      simp only [Bool.false_eq_true, if_false, List.append_nil] at hst
      simp -implicitDefEqProofs [↓gd_tt, ↓gd_ff, ↓gd_tf, ↓gd_ft, hwi]
      exact ⟨i + 1, ⟨by omega, hnx⟩, by omega, by rw [hst], rfl⟩
    | true =>
      rw [hla] at hst
      simp only [if_true] at hst
      have hb8 : ((starveL l M (need.take i)).length + 1) * 8 ≤ 140737488355328 := by omega
      simp -implicitDefEqProofs [↓gd_tt, ↓gd_ff, ↓gd_tf, ↓gd_ft, hwi, hb8]
      exact ⟨i + 1, ⟨by omega, hnx⟩, by omega, by rw [hst]; simp, rfl⟩
  · have hwm := wrapm1 hn h z
    have hlz := hlt z
    simp -implicitDefEqProofs [↓gd_tt, ↓gd_ff, ↓gd_tf, ↓gd_ft, h, z, hlz, hwm, hm1]
    refine callK_pcall his rfl rfl ?_
    by_cases hh : has l need[i].q = true
    case neg =>
      rw [if_pos (by simpa using hh)] at hna
      rw [hbad 8 (by decide) (by rw [hbd (by rw [hna]; decide), hna])]
      simp -implicitDefEqProofs [↓gd_tt, ↓gd_ff, ↓gd_tf, ↓gd_ft, hh]
    rw [if_neg (by simp [hh])] at hna
    by_cases hsn : sonIds l need[i].q = []
    case neg =>
      rw [if_pos hsn] at hna
      rw [hbad 14 (by decide) (by rw [hbd (by rw [hna]; decide), hna])]
      simp -implicitDefEqProofs [↓gd_tt, ↓gd_ff, ↓gd_tf, ↓gd_ft, hh, hsn]
    rw [if_neg (by simp [hsn])] at hna
    simp -implicitDefEqProofs [↓gd_tt, ↓gd_ff, ↓gd_tf, ↓gd_ft, hh, hsn]
    refine callK_pcall hvg rfl rfl ?_
    by_cases hgd : good need[i].c need[i].m = true
    case neg =>
      rw [if_pos (by simpa using hgd)] at hna
      rw [hbad 1 (by decide) (by rw [hbd (by rw [hna]; decide), hna])]
      simp -implicitDefEqProofs [↓gd_tt, ↓gd_ff, ↓gd_tf, ↓gd_ft, hgd]
    rw [if_neg (by simp [hgd])] at hna
    obtain ⟨hpp, hpl, hpi⟩ := place_pos hri hh
    have hvat := vat_spec b l need[i].q hl
    rw [hpp] at hvat
    generalize pos l need[i].q = j at *
    have hjM : j < M.length := by omega
    have hgj := good_iff.1 (hsg j hjM)
    have hgu := good_iff.1 hgd
    have w1 : IntKind.i64.wrap (M[j].1 + need[i].c) = M[j].1 + need[i].c := wrap_i64 (by omega) (by omega)
    have w2 : IntKind.i64.wrap (M[j].2 + need[i].m) = M[j].2 + need[i].m := wrap_i64 (by omega) (by omega)
    have hfit := vfits_spec (M[j].1 + need[i].c) (M[j].2 + need[i].m) l[j].MC l[j].MM
    have hlk : lacks l M need[i] = fits (M[j].1 + need[i].c) (M[j].2 + need[i].m) l[j].MC l[j].MM := by
      unfold lacks; rw [hpp]; simp [hjM, hpl]
    have hst := starveL_take (l := l) (M := M) h
    have hsln := starveL_len l M (need.take i)
    simp only [List.length_take] at hsln
    rw [← hlk] at hfit
    simp -implicitDefEqProofs [↓gd_tt, ↓gd_ff, ↓gd_tf, ↓gd_ft, hgd]
    refine callK_pcall hvat rfl rfl ?_
    simp -implicitDefEqProofs [↓gd_tt, ↓gd_ff, ↓gd_tf, ↓gd_ft, hjM, hpl, w1, w2]
    refine free_pcall hfit rfl rfl ?_
    have hnx : ∀ j, j < i + 1 → neAt l need j = 0 := fun j hj => by
      by_cases e : j = i
      · subst e; exact hna
      · exact hx j (by omega)
    cases hla : lacks l M need[i] with
    | false =>
      rw [hla] at hst
      simp only [Bool.false_eq_true, if_false, List.append_nil] at hst
      simp -implicitDefEqProofs [↓gd_tt, ↓gd_ff, ↓gd_tf, ↓gd_ft, hwi]
      exact ⟨i + 1, ⟨by omega, hnx⟩, by omega, by rw [hst], rfl⟩
    | true =>
      rw [hla] at hst
      simp only [if_true] at hst
      have hb8 : ((starveL l M (need.take i)).length + 1) * 8 ≤ 140737488355328 := by omega
      simp -implicitDefEqProofs [↓gd_tt, ↓gd_ff, ↓gd_tf, ↓gd_ft, hwi, hb8]
      exact ⟨i + 1, ⟨by omega, hnx⟩, by omega, by rw [hst]; simp, rfl⟩
end Go.Idl
end
section
namespace Go.Idl
open Go.Proofs
set_option linter.unusedSimpArgs false
set_option linter.unusedVariables false
set_option maxRecDepth 20000
set_option maxHeartbeats 4000000
variable (b c d : Bool)

theorem neAt_zero {l : List Q} {need : List U} {i : Nat} (h : i < need.length) (hz : neAt l need i = 0) : has l need[i].q = true ∧ good need[i].c need[i].m = true := by
  have hg0 : need.getD i ⟨0, 0, 0⟩ = need[i] := by simp [h]
  unfold neAt at hz
  rw [hg0] at hz
  split at hz
  · omega
  · split at hz
    · omega
    · rename_i h1
      split at hz
      · omega
      · split at hz
        · omega
        · rename_i h2
          exact ⟨by simpa using h1, by simpa using h2⟩
end Go.Idl
end
