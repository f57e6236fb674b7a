/- The program's queues: down, with its map. -/
import Derived.Test.YtdhifabhjlbjiaaPF
import Derived.Test.YtdhifabhjlbjiaaMQall
set_option linter.all false
namespace Go.Idl
open Go.Proofs
set_option linter.unusedSimpArgs false
set_option linter.unusedVariables false
set_option maxRecDepth 8000
variable (b : Bool)

/-- the map's entries -/
def inE : Nat → List Int → List (Nat × D × V)
  | _, [] => []
  | c, x :: r => (c, I x, .d (I 1)) :: inE (c + 1) r
theorem inE_append (x : Int) : ∀ (l : List Int) (c : Nat), inE c (l ++ [x]) = inE c l ++ [(c + l.length, I x, .d (I 1))]
  | [], c => rfl
  | y :: l, c => by simp [inE, inE_append x l (c + 1)]; omega
theorem inE_find (x : Int) : ∀ (l : List Int) (c i : Nat), (x ∈ l → ∃ j, mfind Try.prog 3 (I x) (inE c l) i = some (some (j, .d (I 1)))) ∧ (x ∉ l → mfind Try.prog 3 (I x) (inE c l) i = some none)
  | [], c, i => by simp [inE, mfind]
  | y :: l, c, i => by
    obtain ⟨h1, h2⟩ := inE_find x l (c + 1) (i + 1)
    by_cases e : x = y
    · subst e
      simp [inE, mfind, keyEq]
    · simp [inE, mfind, keyEq, e]
      exact ⟨h1, h2⟩

theorem inE_lt {n : Nat} : ∀ (m : List Int) (c : Nat), V.ltL n ((inE c m).map fun e => e.2.2) = true
  | [], _ => rfl
  | x :: m, c => by simp [inE, inE_lt m (c + 1)]
theorem ltObjs_snocM {n : Nat} {l : List IObj} {m : List Int} (h : ltObjs n l = true) : ltObjs (n + 1) (l ++ [.map m.length (inE 0 m)]) = true := by
  rw [ltObjs_append, ltObjs_mono (Nat.le_succ n) h]
  simp [ltObjs, IObj.lt, inE_lt]
theorem ltObjs_snoc {n : Nat} {l : List IObj} (h : ltObjs n l = true) : ltObjs (n + 1) (l ++ [.map 0 []]) = true := ltObjs_snocM (m := []) h
def yI (x : Int) : List V := [.d (I x)]
theorem down_yields (l : List Q) (id : Int) (ka kb : Nat) (hl : l.length ≤ maxLen) (hr : Rises l) :
    Yields Try.prog 186 [.ptr ka 0, .ptr kb 0] (fun hp => hp[ka]? = some (.var [.d (encL b l)]) ∧ hp[kb]? = some (.var [.d (I id)])) ((down l id).map yI) := by
  intro y hp J E hy h0 hJ hround hend
  obtain ⟨g1, g2, g3, g4⟩ := hJ 0 hp h0
  have hka : ka < hp.length := (List.getElem?_eq_some_iff.1 g3).1
  have hkb : kb < hp.length := (List.getElem?_eq_some_iff.1 g4).1
  refine callS (fn := Try.f186) [] [] mixed (bodyOf Try.f186) [] Try.func186 rfl rfl (by decide) 31 rfl (by kernel_rfl) ?_
  simp -implicitDefEqProofs [↓gd_tt, ↓gd_ff, ↓gd_tf, ↓gd_ft, bodyOf, Try.f186, stripC, stripL, stripM, onsOf, upto, hintOf, freeOf, List.replicate]
  have tk0 : List.take (hp.length + 1) (hp ++ [IObj.map 0 []]) = hp ++ [IObj.map 0 []] := List.take_of_length_le (by simp)
  simp -implicitDefEqProofs [↓gd_tt, ↓gd_ff, ↓gd_tf, ↓gd_ft, g3, List.getElem?_append_left hka, List.getElem?_append_left hkb]
  refine loopA mixed [false, false, false, false, false, false, true, false, false, false, true, true, true, true, true, true, true, true, true, true, true, true, true, true, true, true, true, true, true, true, true, true, true, true] (fun (x : Nat × Nat × List IObj × List Int) => [(10, .d (I x.1))]) (fun (x : Nat × Nat × List IObj × List Int) => x.2.2.1 ++ [.map x.2.2.2.length (inE 0 x.2.2.2)]) (fun (x : Nat × Nat × List IObj × List Int) => x.1 ≤ l.length ∧ J x.2.1 x.2.2.1 ∧ x.2.1 ≤ (down l id).length ∧ downF id (l.drop x.1) x.2.2.2 = (down l id).drop x.2.1 ∧ ∀ z ∈ x.2.2.2, ∀ j (h : j < l.length), x.1 ≤ j → z < l[j].Id) (fun (x : Nat × Nat × List IObj × List Int) => l.length - x.1) ((0, 0, hp, [])) (⟨Nat.zero_le _, h0, Nat.zero_le _, rfl, by simp⟩) (by simp [inE, Nat.lt_succ_of_lt hy, Nat.lt_succ_of_lt hka, Nat.lt_succ_of_lt hkb, ltObjs_snoc g2, tk0]) ?_
  rintro x hx
  obtain ⟨i, k, hp1, m⟩ := x
  obtain ⟨hi, hj, hk, hq, hz⟩ := hx
  simp only at hi hj hk hq hz ⊢
  obtain ⟨p1, p2, p3, p4⟩ := hJ k hp1 hj
  have hka1 : ka < hp1.length := (List.getElem?_eq_some_iff.1 p3).1
  have hkb1 : kb < hp1.length := (List.getElem?_eq_some_iff.1 p4).1
  rcases Nat.lt_or_eq_of_le hi with h | h
  · rw [List.drop_eq_getElem_cons h, downF] at hq
    have pm : ∀ (A : IObj) (R : List IObj), (hp1 ++ A :: R)[hp.length]? = some A := fun A R => by rw [← p1]; simp
    have ps : ∀ (A B : IObj) (R : List IObj), (hp1 ++ A :: R).set hp.length B = hp1 ++ B :: R := fun A B R => by rw [← p1]; simp
    have hnm : l[i].Id ∉ m := fun hh => by have := hz _ hh i h (Nat.le_refl _); omega
    have f1 := (inE_find l[i].Id m 0 0).2 hnm
    have ko : ∀ n : Int, keyOK Try.prog 3 (.int .i64 n) = true := fun n => by simp [keyOK]
    have hz2 : ∀ z ∈ m ++ [l[i].Id], ∀ j (h : j < l.length), i + 1 ≤ j → z < l[j].Id := fun z hzm j hj hij => by
      rcases List.mem_append.1 hzm with hzm | hzm
      · exact hz z hzm j hj (by omega)
      · simp at hzm; subst hzm
        exact List.pairwise_iff_getElem.1 hr i j h hj (by omega)
    have hyes : (l[i].Id = id ∨ l[i].Par ∈ m) → ∀ (K' : V → List IObj → Prop) (priv : List IObj), (k < (down l id).length → downF id (l.drop (i + 1)) (m ++ [l[i].Id]) = (down l id).drop (k + 1) → ∀ b2 hp2, hp2.length = hp.length → ltObjs hp.length hp2 = true → (b2 = true → J (k + 1) hp2) → (b2 = false → E hp2) → K' (.d (.bool b2)) (hp2 ++ priv)) → RoundK Try.prog y [.d (.int .i64 l[i].Id)] (hp1 ++ priv) K' := fun e K' priv hK' => by
      rw [if_pos e] at hq
      have hk3 : k < (down l id).length := by
        have := congrArg List.length hq; simp at this; omega
      have hat : (down l id)[k] = l[i].Id := by
        have := congrArg (·[0]?) hq
        simp [hk3] at this; exact this.symm
      have hr' := hround k hp1 hj (by simpa using hk3)
      simp only [List.getElem_map, hat, yI] at hr'
      exact yieldA hr' p1 p2 hy (by simp) (by simp) (hK' hk3 (by have := congrArg List.tail hq; simpa using this))
    by_cases hpm : l[i].Par ∈ m
    · obtain ⟨j0, f2⟩ := (inE_find l[i].Par m 0 0).1 hpm
      simp -implicitDefEqProofs [↓gd_tt, ↓gd_ff, ↓gd_tf, ↓gd_ft, h, p3, p4, wrap1 hl h, List.getElem?_append_left hka1, List.getElem?_append_left hkb1, pm, ps, f1, f2, ko]
      refine ⟨fun e => hyes (.inr hpm) _ _ ?_, fun e => hyes (.inr hpm) _ _ ?_⟩
      all_goals
        intro hk3 hq3 b2 hp2 q1 q2 q3 q4
        simp -implicitDefEqProofs [↓gd_tt, ↓gd_ff, ↓gd_tf, ↓gd_ft, wrap1 hl h]
        refine ⟨fun e2 => ⟨by omega, by rw [← q1, List.take_left]; exact q4 e2⟩, fun e2 => ⟨i + 1, k + 1, hp2, m ++ [l[i].Id], ⟨by omega, q3 e2, by omega, hq3, hz2⟩, by omega, rfl, ⟨by omega, by omega, by omega, by omega⟩, ltObjs_snocM (by rw [q1]; exact q2), by omega, (by rw [List.take_append, List.take_of_length_le (by omega)]; simp [inE_append]), by simp⟩⟩
    · have f2 := (inE_find l[i].Par m 0 0).2 hpm
      simp -implicitDefEqProofs [↓gd_tt, ↓gd_ff, ↓gd_tf, ↓gd_ft, h, p3, p4, wrap1 hl h, List.getElem?_append_left hka1, List.getElem?_append_left hkb1, pm, ps, f1, f2, ko]
      refine ⟨fun e => ⟨i + 1, k, hp1, m, ⟨by omega, hj, hk, by rw [if_neg (by simp [e, hpm])] at hq; exact hq, fun z hzm j hj' hij => hz z hzm j hj' (by omega)⟩, by omega, rfl, ⟨by omega, by omega, by omega, by omega⟩, ltObjs_snocM (by rw [p1]; exact p2), by omega, (by rw [List.take_append, List.take_of_length_le (by omega)]; simp), by omega⟩, fun e => hyes (.inl e) _ _ ?_⟩
      all_goals
        intro hk3 hq3 b2 hp2 q1 q2 q3 q4
        simp -implicitDefEqProofs [↓gd_tt, ↓gd_ff, ↓gd_tf, ↓gd_ft, wrap1 hl h]
        refine ⟨fun e2 => ⟨by omega, by rw [← q1, List.take_left]; exact q4 e2⟩, fun e2 => ⟨i + 1, k + 1, hp2, m ++ [l[i].Id], ⟨by omega, q3 e2, by omega, hq3, hz2⟩, by omega, rfl, ⟨by omega, by omega, by omega, by omega⟩, ltObjs_snocM (by rw [q1]; exact q2), by omega, (by rw [List.take_append, List.take_of_length_le (by omega)]; simp [inE_append]), by simp⟩⟩
  · simp -implicitDefEqProofs [↓gd_tt, ↓gd_ff, ↓gd_tf, ↓gd_ft, h]
    rw [h, List.drop_length, downF] at hq
    have hk2 : k = (down l id).length := by
      have := congrArg List.length hq; simp at this; omega
    subst hk2
    exact ⟨by omega, by rw [← p1, List.take_left]; exact hend hp1 (by simpa using hj)⟩

theorem down_spec (l : List Q) (id : Int) (hp : List IObj) (K : V → List IObj → Prop) (hk : K (.fn (.func 186) [.ptr hp.length 0, .ptr (hp.length + 1) 0]) (hp ++ [.var [.d (encL b l)], .var [.d (I id)]])) : CallK Try.prog 108 [.d (encL b l), .d (I id)] hp K := by
  refine callS (fn := Try.f108) [] [] mixed (bodyOf Try.f108) [.tmp 4] Try.func108 rfl rfl (by decide) 4 rfl (by kernel_rfl) ?_
  simp -implicitDefEqProofs [↓gd_tt, ↓gd_ff, ↓gd_tf, ↓gd_ft, bodyOf, Try.f108, stripC, stripL, stripM, onsOf, upto, hintOf, freeOf, List.replicate]
  simpa using hk
end Go.Idl
