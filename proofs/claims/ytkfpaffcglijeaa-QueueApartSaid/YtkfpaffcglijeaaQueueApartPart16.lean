/- The program's queues: down, with its map.; The document's answer for queues, what it computes: contracts of the packages furlongref05, furlongref02, furlongref01.; The document's answer for queues, further: lists that are made.; The program's queues: Leaves, there, leaf.; The document's answer for queues: Add.; What the statements on queues themselves compute: same, Ints, Has.; The first calls of the statements on queues.; Queues as plain data, part 4: uses and their sums. No program here.; What the arguments of the statements on queues are, as data: lists of queues, of uses, of numbers; amounts; numbers.; The statement QueueEdits.; Queues as plain data, part 5: what was added can be dropped, what was set can be set back; the shape of ways. No program here.; The document's answer for queues: ways to the root, what is below.; The program's queues: up, Path, Children, Below.; Operations in each order that may be: the states that are met, each once. -/
import Derived.Test.YtkfpaffcglijeaaQueueApartPart15
import Derived.Test.YtkfpaffcglijeaaQueueApartPart14
import Derived.Test.YtkfpaffcglijeaaQueueApartPart13
set_option linter.all false
section
namespace Go.Idl
open Go.Proofs
set_option linter.unusedSimpArgs false
set_option linter.unusedVariables false
set_option maxRecDepth 8000
variable (b : Bool)

/-- the map's entries -/
def inE : Nat → List Int → List (Nat × D × V)
  | _, [] => []
  | c, x :: r => (c, I x, .d (I 1)) :: inE (c + 1) r
theorem inE_append (x : Int) : ∀ (l : List Int) (c : Nat), inE c (l ++ [x]) = inE c l ++ [(c + l.length, I x, .d (I 1))]
  | [], c => rfl
  | y :: l, c => by simp [inE, inE_append x l (c + 1)]; omega
theorem inE_find (x : Int) : ∀ (l : List Int) (c i : Nat), (x ∈ l → ∃ j, mfind Try.prog 3 (I x) (inE c l) i = some (some (j, .d (I 1)))) ∧ (x ∉ l → mfind Try.prog 3 (I x) (inE c l) i = some none)
  | [], c, i => by simp [inE, mfind]
  | y :: l, c, i => by
    obtain ⟨h1, h2⟩ := inE_find x l (c + 1) (i + 1)
    by_cases e : x = y
    · subst e
      simp [inE, mfind, keyEq]
    · simp [inE, mfind, keyEq, e]
      exact ⟨h1, h2⟩

theorem inE_lt {n : Nat} : ∀ (m : List Int) (c : Nat), V.ltL n ((inE c m).map fun e => e.2.2) = true
  | [], _ => rfl
  | x :: m, c => by simp [inE, inE_lt m (c + 1)]
theorem ltObjs_snocM {n : Nat} {l : List IObj} {m : List Int} (h : ltObjs n l = true) : ltObjs (n + 1) (l ++ [.map m.length (inE 0 m)]) = true := by
  rw [ltObjs_append, ltObjs_mono (Nat.le_succ n) h]
  simp [ltObjs, IObj.lt, inE_lt]
theorem ltObjs_snoc {n : Nat} {l : List IObj} (h : ltObjs n l = true) : ltObjs (n + 1) (l ++ [.map 0 []]) = true := ltObjs_snocM (m := []) h
def yI (x : Int) : List V := [.d (I x)]
theorem down_yields (l : List Q) (id : Int) (ka kb : Nat) (hl : l.length ≤ maxLen) (hr : Rises l) :
    Yields Try.prog 129 [.ptr ka 0, .ptr kb 0] (fun hp => hp[ka]? = some (.var [.d (encL b l)]) ∧ hp[kb]? = some (.var [.d (I id)])) ((down l id).map yI) := by
  intro y hp J E hy h0 hJ hround hend
  obtain ⟨g1, g2, g3, g4⟩ := hJ 0 hp h0
  have hka : ka < hp.length := (List.getElem?_eq_some_iff.1 g3).1
  have hkb : kb < hp.length := (List.getElem?_eq_some_iff.1 g4).1
  refine callS (fn := Try.f129) [] [] mixed (bodyOf Try.f129) [] Try.func129 rfl rfl (by decide) 31 rfl (by kernel_rfl) ?_
  simp -implicitDefEqProofs [↓gd_tt, ↓gd_ff, ↓gd_tf, ↓gd_ft, bodyOf, Try.f129, stripC, stripL, stripM, onsOf, upto, hintOf, freeOf, List.replicate]
  have tk0 : List.take (hp.length + 1) (hp ++ [IObj.map 0 []]) = hp ++ [IObj.map 0 []] := List.take_of_length_le (by simp)
  simp -implicitDefEqProofs [↓gd_tt, ↓gd_ff, ↓gd_tf, ↓gd_ft, g3, List.getElem?_append_left hka, List.getElem?_append_left hkb]
  refine loopA mixed [false, false, false, false, false, false, true, false, false, false, true, true, true, true, true, true, true, true, true, true, true, true, true, true, true, true, true, true, true, true, true, true, true, true] (fun (x : Nat × Nat × List IObj × List Int) => [(10, .d (I x.1))]) (fun (x : Nat × Nat × List IObj × List Int) => x.2.2.1 ++ [.map x.2.2.2.length (inE 0 x.2.2.2)]) (fun (x : Nat × Nat × List IObj × List Int) => x.1 ≤ l.length ∧ J x.2.1 x.2.2.1 ∧ x.2.1 ≤ (down l id).length ∧ downF id (l.drop x.1) x.2.2.2 = (down l id).drop x.2.1 ∧ ∀ z ∈ x.2.2.2, ∀ j (h : j < l.length), x.1 ≤ j → z < l[j].Id) (fun (x : Nat × Nat × List IObj × List Int) => l.length - x.1) ((0, 0, hp, [])) (⟨Nat.zero_le _, h0, Nat.zero_le _, rfl, by simp⟩) (by simp [inE, Nat.lt_succ_of_lt hy, Nat.lt_succ_of_lt hka, Nat.lt_succ_of_lt hkb, ltObjs_snoc g2, tk0]) ?_
  rintro x hx
  obtain ⟨i, k, hp1, m⟩ := x
  obtain ⟨hi, hj, hk, hq, hz⟩ := hx
  simp only at hi hj hk hq hz ⊢
  obtain ⟨p1, p2, p3, p4⟩ := hJ k hp1 hj
  have hka1 : ka < hp1.length := (List.getElem?_eq_some_iff.1 p3).1
  have hkb1 : kb < hp1.length := (List.getElem?_eq_some_iff.1 p4).1
  rcases Nat.lt_or_eq_of_le hi with h | h
  · rw [List.drop_eq_getElem_cons h, downF] at hq
    have pm : ∀ (A : IObj) (R : List IObj), (hp1 ++ A :: R)[hp.length]? = some A := fun A R => by rw [← p1]; simp
    have ps : ∀ (A B : IObj) (R : List IObj), (hp1 ++ A :: R).set hp.length B = hp1 ++ B :: R := fun A B R => by rw [← p1]; simp
    have hnm : l[i].Id ∉ m := fun hh => by have := hz _ hh i h (Nat.le_refl _); omega
    have f1 := (inE_find l[i].Id m 0 0).2 hnm
    have ko : ∀ n : Int, keyOK Try.prog 3 (.int .i64 n) = true := fun n => by simp [keyOK]
    have hz2 : ∀ z ∈ m ++ [l[i].Id], ∀ j (h : j < l.length), i + 1 ≤ j → z < l[j].Id := fun z hzm j hj hij => by
      rcases List.mem_append.1 hzm with hzm | hzm
      · exact hz z hzm j hj (by omega)
      · simp at hzm; subst hzm
        exact List.pairwise_iff_getElem.1 hr i j h hj (by omega)
    have hyes : (l[i].Id = id ∨ l[i].Par ∈ m) → ∀ (K' : V → List IObj → Prop) (priv : List IObj), (k < (down l id).length → downF id (l.drop (i + 1)) (m ++ [l[i].Id]) = (down l id).drop (k + 1) → ∀ b2 hp2, hp2.length = hp.length → ltObjs hp.length hp2 = true → (b2 = true → J (k + 1) hp2) → (b2 = false → E hp2) → K' (.d (.bool b2)) (hp2 ++ priv)) → RoundK Try.prog y [.d (.int .i64 l[i].Id)] (hp1 ++ priv) K' := fun e K' priv hK' => by
      rw [if_pos e] at hq
      have hk3 : k < (down l id).length := by
        have := congrArg List.length hq; simp at this; omega
      have hat : (down l id)[k] = l[i].Id := by
        have := congrArg (·[0]?) hq
        simp [hk3] at this; exact this.symm
      have hr' := hround k hp1 hj (by simpa using hk3)
      simp only [List.getElem_map, hat, yI] at hr'
      exact yieldA hr' p1 p2 hy (by simp) (by simp) (hK' hk3 (by have := congrArg List.tail hq; simpa using this))
    by_cases hpm : l[i].Par ∈ m
    · obtain ⟨j0, f2⟩ := (inE_find l[i].Par m 0 0).1 hpm
      simp -implicitDefEqProofs [↓gd_tt, ↓gd_ff, ↓gd_tf, ↓gd_ft, h, p3, p4, wrap1 hl h, List.getElem?_append_left hka1, List.getElem?_append_left hkb1, pm, ps, f1, f2, ko]
      refine ⟨fun e => hyes (.inr hpm) _ _ ?_, fun e => hyes (.inr hpm) _ _ ?_⟩
      all_goals
        intro hk3 hq3 b2 hp2 q1 q2 q3 q4
        simp -implicitDefEqProofs [↓gd_tt, ↓gd_ff, ↓gd_tf, ↓gd_ft, wrap1 hl h]
        refine ⟨fun e2 => ⟨by omega, by rw [← q1, List.take_left]; exact q4 e2⟩, fun e2 => ⟨i + 1, k + 1, hp2, m ++ [l[i].Id], ⟨by omega, q3 e2, by omega, hq3, hz2⟩, by omega, rfl, ⟨by omega, by omega, by omega, by omega⟩, ltObjs_snocM (by rw [q1]; exact q2), by omega, (by rw [List.take_append, List.take_of_length_le (by omega)]; simp [inE_append]), by simp⟩⟩
    · have f2 := (inE_find l[i].Par m 0 0).2 hpm
      simp -implicitDefEqProofs [↓gd_tt, ↓gd_ff, ↓gd_tf, ↓gd_ft, h, p3, p4, wrap1 hl h, List.getElem?_append_left hka1, List.getElem?_append_left hkb1, pm, ps, f1, f2, ko]
      refine ⟨fun e => ⟨i + 1, k, hp1, m, ⟨by omega, hj, hk, by rw [if_neg (by simp [e, hpm])] at hq; exact hq, fun z hzm j hj' hij => hz z hzm j hj' (by omega)⟩, by omega, rfl, ⟨by omega, by omega, by omega, by omega⟩, ltObjs_snocM (by rw [p1]; exact p2), by omega, (by rw [List.take_append, List.take_of_length_le (by omega)]; simp), by omega⟩, fun e => hyes (.inl e) _ _ ?_⟩
      all_goals
        intro hk3 hq3 b2 hp2 q1 q2 q3 q4
        simp -implicitDefEqProofs [↓gd_tt, ↓gd_ff, ↓gd_tf, ↓gd_ft, wrap1 hl h]
        refine ⟨fun e2 => ⟨by omega, by rw [← q1, List.take_left]; exact q4 e2⟩, fun e2 => ⟨i + 1, k + 1, hp2, m ++ [l[i].Id], ⟨by omega, q3 e2, by omega, hq3, hz2⟩, by omega, rfl, ⟨by omega, by omega, by omega, by omega⟩, ltObjs_snocM (by rw [q1]; exact q2), by omega, (by rw [List.take_append, List.take_of_length_le (by omega)]; simp [inE_append]), by simp⟩⟩
  · simp -implicitDefEqProofs [↓gd_tt, ↓gd_ff, ↓gd_tf, ↓gd_ft, h]
    rw [h, List.drop_length, downF] at hq
    have hk2 : k = (down l id).length := by
      have := congrArg List.length hq; simp at this; omega
    subst hk2
    exact ⟨by omega, by rw [← p1, List.take_left]; exact hend hp1 (by simpa using hj)⟩

theorem down_spec (l : List Q) (id : Int) (hp : List IObj) (K : V → List IObj → Prop) (hk : K (.fn (.func 129) [.ptr hp.length 0, .ptr (hp.length + 1) 0]) (hp ++ [.var [.d (encL b l)], .var [.d (I id)]])) : CallK Try.prog 71 [.d (encL b l), .d (I id)] hp K := by
  refine callS (fn := Try.f71) [] [] mixed (bodyOf Try.f71) [.tmp 4] Try.func71 rfl rfl (by decide) 4 rfl (by kernel_rfl) ?_
  simp -implicitDefEqProofs [↓gd_tt, ↓gd_ff, ↓gd_tf, ↓gd_ft, bodyOf, Try.f71, stripC, stripL, stripM, onsOf, upto, hintOf, freeOf, List.replicate]
  simpa using hk
end Go.Idl
end
section
namespace Go.Idl
open Go.Proofs
set_option linter.unusedSimpArgs false
set_option linter.unusedVariables false
set_option maxRecDepth 8000

variable (b : Bool)
theorem place_spec (l : List Q) (id : Int) (hl : l.length ≤ maxLen) : PCall Try.prog 77 [encL b l, I id] (.d (I (place l id))) := by
  refine pcallS (fn := Try.f77) [] [] mixed (bodyOf Try.f77) [.tmp 4] Try.func77 rfl rfl (by decide) 18 rfl (by kernel_rfl) ?_
  simp -implicitDefEqProofs [↓gd_tt, ↓gd_ff, ↓gd_tf, ↓gd_ft, bodyOf, Try.f77, stripC, stripL, stripM, onsOf, upto, hintOf, freeOf, List.replicate]
  refine loopA mixed [false, false, false, false, true, true, true, false, false, true, true, true, true, true, true, true, true, true, true, true] (fun (i : Nat) => [(9, .d (I i))]) (fun (i : Nat) => []) (fun (i : Nat) => i ≤ l.length ∧ placeF id (l.drop i) i = place l id) (fun (i : Nat) => l.length - i) (0) (⟨Nat.zero_le _, rfl⟩) (by simp) ?_
  rintro i hx
  obtain ⟨hi, hp⟩ := hx
  rcases Nat.lt_or_eq_of_le hi with h | h
  · rw [List.drop_eq_getElem_cons h, placeF] at hp
    simp -implicitDefEqProofs [↓gd_tt, ↓gd_ff, ↓gd_tf, ↓gd_ft, h, encQ, wrap1 hl h]
    refine ⟨fun e => by rw [if_pos e] at hp; exact hp, fun e => ⟨⟨by omega, by rw [if_neg e] at hp; exact hp⟩, by omega⟩⟩
  · simp -implicitDefEqProofs [↓gd_tt, ↓gd_ff, ↓gd_tf, ↓gd_ft, h]
    rw [h, List.drop_length, placeF] at hp; exact hp

theorem has_spec (l : List Q) (id : Int) (hl : l.length ≤ maxLen) : PCall Try.prog 73 [encL b l, I id] (.d (.bool (has l id))) := by
  refine pcallS (fn := Try.f73) [] [] mixed (bodyOf Try.f73) [.tmp 4] Try.func73 rfl rfl (by decide) 7 rfl (by kernel_rfl) ?_
  simp -implicitDefEqProofs [↓gd_tt, ↓gd_ff, ↓gd_tf, ↓gd_ft, bodyOf, Try.f73, stripC, stripL, stripM, onsOf, upto, hintOf, freeOf, List.replicate]
  refine callK_pcall (place_spec b l id hl) rfl rfl ?_
  simp -implicitDefEqProofs [↓gd_tt, ↓gd_ff, ↓gd_tf, ↓gd_ft, has]

theorem find_spec (l : List Q) (id : Int) (hl : l.length ≤ maxLen) : PCall Try.prog 150 [encL b l, I id] (.d (encQ (find l id))) := by
  refine pcallS (fn := Try.f150) [] [] mixed (bodyOf Try.f150) [.cell 4 43] Try.func150 rfl rfl (by decide) 14 rfl (by kernel_rfl) ?_
  simp -implicitDefEqProofs [↓gd_tt, ↓gd_ff, ↓gd_tf, ↓gd_ft, bodyOf, Try.f150, stripC, stripL, stripM, onsOf, upto, hintOf, freeOf, List.replicate]
  refine callK_pcall (place_spec b l id hl) rfl rfl ?_
  by_cases h : 0 ≤ place l id
  · obtain ⟨h1, h2⟩ := place_lt h
    have h3 : ¬ place l id < 0 := by omega
    simp -implicitDefEqProofs [↓gd_tt, ↓gd_ff, ↓gd_tf, ↓gd_ft, h, h1, h2, h3, encQ, find]
  · have h3 : place l id < 0 := by omega
    simp -implicitDefEqProofs [↓gd_tt, ↓gd_ff, ↓gd_tf, ↓gd_ft, h, h3, encQ, find, q0]

theorem good_spec (a b : Int) : PCall Try.prog 131 [.agg [I a, I b]] (.d (.bool (good a b))) := by
  refine pcallS (fn := Try.f131) [] [] mixed (bodyOf Try.f131) [.tmp 2] Try.func131 rfl rfl (by decide) 20 rfl (by kernel_rfl) ?_
  simp -implicitDefEqProofs [↓gd_tt, ↓gd_ff, ↓gd_tf, ↓gd_ft, bodyOf, Try.f131, stripC, stripL, stripM, onsOf, upto, hintOf, freeOf, List.replicate]
  simp only [good]
  (repeat' (first | apply And.intro | intro _)) <;> first | omega | (simp_all; done) | (simp_all; omega)

theorem fits_spec (a b c d : Int) : PCall Try.prog 149 [.agg [I a, I b], .agg [I c, I d]] (.d (.bool (fits a b c d))) := by
  refine pcallS (fn := Try.f149) [] [] mixed (bodyOf Try.f149) [.tmp 4] Try.func149 rfl rfl (by decide) 15 rfl (by kernel_rfl) ?_
  simp -implicitDefEqProofs [↓gd_tt, ↓gd_ff, ↓gd_tf, ↓gd_ft, bodyOf, Try.f149, stripC, stripL, stripM, onsOf, upto, hintOf, freeOf, List.replicate]
  simp only [fits]
  (repeat' (first | apply And.intro | intro _)) <;> first | omega | (simp_all; done) | (simp_all; omega)
theorem form_spec (l : List Q) (hl : l.length ≤ maxLen) : PCall Try.prog 130 [encL b l] (.d (.bool (form l))) := by
  refine pcallS (fn := Try.f130) [] [] mixed (bodyOf Try.f130) [.tmp 2] Try.func130 rfl rfl (by decide) 51 rfl (by kernel_rfl) ?_
  simp -implicitDefEqProofs [↓gd_tt, ↓gd_ff, ↓gd_tf, ↓gd_ft, bodyOf, Try.f130, stripC, stripL, stripM, onsOf, upto, hintOf, freeOf, List.replicate]
  refine loopA mixed [false, false, true, true, true, false, false, true, true, true, true, true, true, true, true, true, true, true, true, true, true, true, true, true, true, true, true, true, true, true, true, true, true, true, true, true, true, true, true, true, true, true, true, true, true, true, true, true, true] (fun (i : Nat) => [(7, .d (I i))]) (fun (i : Nat) => []) (fun (i : Nat) => i ≤ l.length ∧ formF l (l.drop i) i = form l) (fun (i : Nat) => l.length - i) (0) (⟨Nat.zero_le _, rfl⟩) (by simp) ?_
  rintro i hx
  obtain ⟨hi, hp⟩ := hx
  rcases Nat.lt_or_eq_of_le hi with h | h
  · rw [List.drop_eq_getElem_cons h, formF] at hp
    rcases Nat.eq_zero_or_pos i with rfl | h0
    · have hw := wrap1 hl h
      simp -implicitDefEqProofs [↓gd_tt, ↓gd_ff, ↓gd_tf, ↓gd_ft, h, encQ] at hw ⊢
      simp [formAt] at hp
      simp -implicitDefEqProofs [↓gd_tt, ↓gd_ff, ↓gd_tf, ↓gd_ft, hw]
      (repeat' (first | apply And.intro | intro _)) <;> first | omega | (simp_all; done) | (simp_all; omega)
    · have h1 : ¬ ((i : Int) = 0) := by omega
      have h2 : i - 1 < l.length := by omega
      have h3 : ¬ (i = 0) := by omega
      have h4 : ((i - 1 : Nat) : Int) < (l.length : Int) := by omega
      simp -implicitDefEqProofs [↓gd_tt, ↓gd_ff, ↓gd_tf, ↓gd_ft, h, h0, h1, h2, h3, wrap1 hl h, wrapm1 hl h h0, h4, encQ]
      have hg : l.getD (i - 1) q0 = l[i - 1] := by simp [h2]
      simp only [formAt, if_neg h3, hg] at hp
      have hps : PCall Try.prog 77 [.sl b 7 ((l.map encQ).take i), I l[i].Par] (.d (I (place (l.take i) l[i].Par))) := by rw [← List.map_take]; exact place_spec b _ _ (by simp; omega)
      refine ⟨fun e1 => ⟨hi, free_pcall hps rfl rfl ?_⟩, fun e1 => by rw [← hp]; simp; omega⟩
      simp -implicitDefEqProofs [↓gd_tt, ↓gd_ff, ↓gd_tf, ↓gd_ft, wrap1 hl h]
      refine ⟨fun e2 => by rw [← hp]; simp; omega, fun e2 => ⟨⟨by omega, ?_⟩, by omega⟩⟩
      rw [← hp]; simp [e1, e2]
  · simp -implicitDefEqProofs [↓gd_tt, ↓gd_ff, ↓gd_tf, ↓gd_ft, h]
    rw [h, List.drop_length, formF] at hp; simpa using hp
theorem mins_spec (l : List Q) (hl : l.length ≤ maxLen) : PCall Try.prog 132 [encL b l] (.d (.bool (mins l))) := by
  refine pcallS (fn := Try.f132) [] [] mixed (bodyOf Try.f132) [.tmp 2] Try.func132 rfl rfl (by decide) 57 rfl (by kernel_rfl) ?_
  simp -implicitDefEqProofs [↓gd_tt, ↓gd_ff, ↓gd_tf, ↓gd_ft, bodyOf, Try.f132, stripC, stripL, stripM, onsOf, upto, hintOf, freeOf, List.replicate]
  refine loopA mixed [false, false, true, false, true, true, true, false, true, false, false, true, true, true, true, true, true, true, true, true, true, true, true, true, true, true, true, true, true, true, true, true, true, true, true, true, true, true, true, true, true, true, true, true, true, true, true, true, true, true, true, true, true, true, true, true, true, true] (fun (i : Nat) => [(11, .d (I i))]) (fun (i : Nat) => []) (fun (i : Nat) => i ≤ l.length ∧ minsF l (l.drop i) = mins l) (fun (i : Nat) => l.length - i) (0) (⟨Nat.zero_le _, rfl⟩) (by simp) ?_
  rintro i hx
  obtain ⟨hi, hp⟩ := hx
  rcases Nat.lt_or_eq_of_le hi with h | h
  · rw [List.drop_eq_getElem_cons h, minsF] at hp
    simp -implicitDefEqProofs [↓gd_tt, ↓gd_ff, ↓gd_tf, ↓gd_ft, h, encQ]
    refine loopA mixed [false, false, false, false, false, true, true, false, true, false, false, false, false, false, false, false, false, true, true, true, true, true, true, true, true, true, true, true, true, true, true, true, true, true, true, true, true] (fun (j : Nat × Int × Int) => [(5, .d (I j.2.1)), (6, .d (I j.2.2)), (17, .d (I j.1))]) (fun (j : Nat × Int × Int) => [.var [.d (I l[i].Id), .d (I l[i].Par), .d (I l[i].Wt), .d (I l[i].QC), .d (I l[i].QM), .d (I l[i].MC), .d (I l[i].MM)]]) (fun (j : Nat × Int × Int) => j.1 ≤ l.length ∧ sumMin l[i].Id (l.drop j.1) j.2.1 j.2.2 = sumMin l[i].Id l 0 0) (fun (j : Nat × Int × Int) => l.length - j.1) ((0, 0, 0)) (⟨Nat.zero_le _, rfl⟩) (by simp) ?_
    rintro j hx
    obtain ⟨j, a, c⟩ := j
    obtain ⟨hj, hq⟩ := hx
    simp only at hj hq ⊢
    rcases Nat.lt_or_eq_of_le hj with k | k
    · rw [List.drop_eq_getElem_cons k, sumMin] at hq
      simp -implicitDefEqProofs [↓gd_tt, ↓gd_ff, ↓gd_tf, ↓gd_ft, k, encQ, wrap1 hl k]
      refine ⟨fun e => ⟨_, _, _, ⟨?_, ?_⟩, ?_, rfl, rfl, rfl⟩, fun e => ⟨_, _, _, ⟨?_, ?_⟩, ?_, rfl, rfl, rfl⟩⟩
      all_goals first | omega | (rw [if_pos e] at hq; exact hq) | (rw [if_neg e] at hq; exact hq)
    · simp -implicitDefEqProofs [↓gd_tt, ↓gd_ff, ↓gd_tf, ↓gd_ft, k]
      refine callK_pcall (fits_spec _ _ _ _) rfl rfl ?_
      rw [k, List.drop_length, sumMin] at hq
      have ha : a = (sumMin l[i].Id l 0 0).1 := by rw [← hq]
      have hb : c = (sumMin l[i].Id l 0 0).2 := by rw [← hq]
      simp only [minsAt, ← ha, ← hb] at hp
      simp -implicitDefEqProofs [↓gd_tt, ↓gd_ff, ↓gd_tf, ↓gd_ft, wrap1 hl h]
      refine ⟨fun e1 => ⟨fun e2 => ⟨fun e3 => ?_, fun e3 => ⟨⟨by omega, ?_⟩, by omega⟩⟩, fun e2 => ?_⟩, fun e1 => ?_⟩
      · rw [← hp]; simp [fits]; omega
      · rw [← hp]; simp only [fits] at e1 ⊢; simp [e1, e2, e3]
      · rw [← hp]; simp [fits]; omega
      · rw [← hp]; simp [e1]
  · simp -implicitDefEqProofs [↓gd_tt, ↓gd_ff, ↓gd_tf, ↓gd_ft, h]
    rw [h, List.drop_length, minsF] at hp; exact hp.symm
theorem refCheck_spec (l : List Q) (hl : l.length ≤ maxLen) : PCall Try.prog 72 [encL b l] (.d (I (check l))) := by
  refine pcallS (fn := Try.f72) [] [] mixed (bodyOf Try.f72) [.tmp 2] Try.func72 rfl rfl (by decide) 42 rfl (by kernel_rfl) ?_
  simp -implicitDefEqProofs [↓gd_tt, ↓gd_ff, ↓gd_tf, ↓gd_ft, bodyOf, Try.f72, stripC, stripL, stripM, onsOf, upto, hintOf, freeOf, List.replicate]
  refine ⟨fun h => ?_, fun h => ?_⟩
  · have : 64 < l.length := by omega
    simp [check, this]
  have h64 : ¬ 64 < l.length := by omega
  refine callK_pcall (form_spec b l hl) rfl rfl ?_
  simp -implicitDefEqProofs [↓gd_tt, ↓gd_ff, ↓gd_tf, ↓gd_ft]
  refine ⟨fun hf => ?_, fun hf => ?_⟩
  · simp [check, h64, hf]
  refine loopA mixed [false, false, true, false, true, false, false, false, false, false, false, false, false, false, false, true, true, true, true, true, true, true, true, true, true, true, true, true, true, true, true, true, true, true, true, true, true, true, true, true] (fun (i : Nat) => [(15, .d (I i))]) (fun (i : Nat) => []) (fun (i : Nat) => i ≤ l.length ∧ argsF (l.drop i) = argsF l) (fun (i : Nat) => l.length - i) (0) (⟨Nat.zero_le _, rfl⟩) (by simp) ?_
  rintro i hx
  obtain ⟨hi, hp⟩ := hx
  rcases Nat.lt_or_eq_of_le hi with h | h
  · rw [List.drop_eq_getElem_cons h, argsF] at hp
    have hbad : okQ l[i] = false → (1 : Int) = check l := fun e => by
      rw [e] at hp; simp at hp
      simp [check, h64, hf, hp]
    simp -implicitDefEqProofs [↓gd_tt, ↓gd_ff, ↓gd_tf, ↓gd_ft, h, encQ]
    refine ⟨fun e1 => ⟨fun e2 => callK_pcall (good_spec _ _) rfl rfl ?_, fun e2 => hbad (by simp [okQ]; omega)⟩, fun e1 => hbad (by simp [okQ]; omega)⟩
    simp -implicitDefEqProofs [↓gd_tt, ↓gd_ff, ↓gd_tf, ↓gd_ft]
    refine ⟨fun e3 => callK_pcall (good_spec _ _) rfl rfl ?_, fun e3 => hbad (by simp [okQ, e3])⟩
    simp -implicitDefEqProofs [↓gd_tt, ↓gd_ff, ↓gd_tf, ↓gd_ft, wrap1 hl h]
    refine ⟨fun e4 => hbad (by simp [okQ, e4]), fun e4 => ⟨⟨by omega, ?_⟩, by omega⟩⟩
    rw [← hp]; simp [okQ, e1, e2, e3, e4]
  · simp -implicitDefEqProofs [↓gd_tt, ↓gd_ff, ↓gd_tf, ↓gd_ft, h]
    rw [h, List.drop_length, argsF] at hp
    refine callK_pcall (mins_spec b l hl) rfl rfl ?_
    simp -implicitDefEqProofs [↓gd_tt, ↓gd_ff, ↓gd_tf, ↓gd_ft]
    simp [check, h64, hf, ← hp]

/-- a list, if it is right: what is answered -/
def doneV (b : Bool) (l : List Q) : V := if check l = 0 then .tup [.d (encL b l), .d (I 0)] else .tup [.nil 7, .d (I (check l))]
theorem doneV_data (b : Bool) (l : List Q) : (doneV b l).data = true := by unfold doneV; split <;> rfl
theorem done_spec (l : List Q) (hl : l.length ≤ maxLen) : PCall Try.prog 74 [encL b l] (doneV b l) := by
  refine pcallS (fn := Try.f74) [] [] mixed (bodyOf Try.f74) [.tmp 2, .tmp 3] Try.func74 rfl rfl (by decide) 10 rfl (by kernel_rfl) ?_
  simp -implicitDefEqProofs [↓gd_tt, ↓gd_ff, ↓gd_tf, ↓gd_ft, bodyOf, Try.f74, stripC, stripL, stripM, onsOf, upto, hintOf, freeOf, List.replicate]
  refine callK_pcall (refCheck_spec b l hl) rfl rfl ?_
  by_cases h : check l = 0 <;> simp -implicitDefEqProofs [↓gd_tt, ↓gd_ff, ↓gd_tf, ↓gd_ft, h, doneV]
end Go.Idl
end
section
namespace Go.Idl
open Go.Proofs
set_option linter.unusedSimpArgs false
set_option linter.unusedVariables false
set_option maxRecDepth 8000
set_option maxHeartbeats 4000000
variable (b : Bool)

def there (l : List Q) (id : Int) : Int := if check l = 0 ∧ has l id = false then 8 else check l
theorem rthere_spec (l : List Q) (id : Int) (hl : l.length ≤ maxLen) : PCall Try.prog 75 [encL b l, I id] (.d (I (there l id))) := by
  refine pcallS (fn := Try.f75) [] [] mixed (bodyOf Try.f75) [.tmp 4] Try.func75 rfl rfl (by decide) 15 rfl (by kernel_rfl) ?_
  simp -implicitDefEqProofs [↓gd_tt, ↓gd_ff, ↓gd_tf, ↓gd_ft, bodyOf, Try.f75, stripC, stripL, stripM, onsOf, upto, hintOf, freeOf, List.replicate]
  refine callK_pcall (refCheck_spec b l hl) rfl rfl ?_
  simp -implicitDefEqProofs [↓gd_tt, ↓gd_ff, ↓gd_tf, ↓gd_ft]
  refine ⟨fun h => callK_pcall (has_spec b l id hl) rfl rfl ?_, fun h => by simp [there, h]⟩
  simp -implicitDefEqProofs [↓gd_tt, ↓gd_ff, ↓gd_tf, ↓gd_ft, there, h]

def leafB (l : List Q) (id : Int) : Bool := has l id && decide (sonIds l id = [])
def leaves (l : List Q) : List Int := (l.filter fun q => decide (check l = 0) && leafB l q.Id).map (·.Id)
theorem rdone_mem {hp : List IObj} {id off n cap : Nat} {xs : List D} {K : V → List IObj → Prop} (l : List Q) (h : hp[id]? = some (.arr 7 xs)) (hc : n ≤ cap) (hl : off + cap ≤ xs.length) (he : (xs.drop off).take n = l.map encQ) (hm : l.length ≤ maxLen)
    (h0 : check l = 0 → K (.tup [.ref id 7 off n cap, .d (I 0)]) hp) (h1 : check l ≠ 0 → K (.tup [.nil 7, .d (I (check l))]) hp) : CallK Try.prog 74 [.ref id 7 off n cap] hp K := by
  refine callS (fn := Try.f74) [] [] mixed (bodyOf Try.f74) [.tmp 2, .tmp 3] Try.func74 rfl rfl (by decide) 10 rfl (by kernel_rfl) ?_
  simp -implicitDefEqProofs [↓gd_tt, ↓gd_ff, ↓gd_tf, ↓gd_ft, bodyOf, Try.f74, stripC, stripL, stripM, onsOf, upto, hintOf, freeOf, List.replicate]
  have hx : lendL hp [.ref id 7 off n cap] = some [encL true l] := by simp [h, he, hc, hl]
  refine callK_lend (refCheck_spec true l hm) hx rfl trivial ?_
  simp -implicitDefEqProofs [↓gd_tt, ↓gd_ff, ↓gd_tf, ↓gd_ft]
  exact ⟨h1, h0⟩

/-- a list, if it is right -/
def doneV' (m : List Q) : V := if check m = 0 then .tup [.d (encL false m), .d (I 0)] else .tup [.nil 7, .d (I (check m))]
def setV (l : List Q) (q : Q) : V := if setE l q = 0 then doneV' (setL l q) else .tup [.nil 7, .d (I (setE l q))]
theorem rset_spec (l : List Q) (q : Q) (hl : l.length ≤ maxLen) (hl2 : l.length * 56 ≤ reachBytes) : PCall Try.prog 24 [encL b l, encQ q] (setV l q) := by
  refine pcallS (fn := Try.f24) [(33, 1)] [] mixed (bodyOf Try.f24) [.tmp 4, .tmp 5] Try.func24 rfl rfl (by decide) 42 rfl (by kernel_rfl) ?_
  simp -implicitDefEqProofs [↓gd_tt, ↓gd_ff, ↓gd_tf, ↓gd_ft, bodyOf, Try.f24, stripC, stripL, stripM, onsOf, upto, hintOf, freeOf, List.replicate]
  refine callK_pcall (refCheck_spec b l hl) rfl rfl ?_
  simp -implicitDefEqProofs [↓gd_tt, ↓gd_ff, ↓gd_tf, ↓gd_ft]
  refine callK_pcall (place_spec b l q.Id hl) rfl rfl ?_
  by_cases h : check l = 0
  · by_cases h1 : place l q.Id < 0
    · have hE : setE l q = 8 := by simp [setE, h, has, show ¬ 0 ≤ place l q.Id by omega]
      simp -implicitDefEqProofs [↓gd_tt, ↓gd_ff, ↓gd_tf, ↓gd_ft, h, h1, setV, hE]
    · obtain ⟨p1, p2⟩ := place_lt (l := l) (id := q.Id) (by omega)
      obtain ⟨k, hk⟩ : ∃ k : Nat, place l q.Id = (k : Int) := ⟨(place l q.Id).toNat, by omega⟩
      have hkl : k < l.length := by omega
      have hh : has l q.Id = true := by simp [has, hk]
      have hf : find l q.Id = l[k] := by simp [find, hk, hkl]
      have hs : setL l q = l.set k q := by simp [setL, hk]
      rw [hk]
      have hn : l ≠ [] := by rintro rfl; simp at hkl
      simp -implicitDefEqProofs [↓gd_tt, ↓gd_ff, ↓gd_tf, ↓gd_ft, h, hkl, hn]
      have h64 := check_len h
      refine ⟨fun e => by omega, fun e => ?_, fun e => ⟨by omega, fun _ cap hcap => ?_⟩⟩
      · have hE : setE l q = 4 := by simp [setE, h, hh, hf, e]
        simp [setV, hE]
      have hE : setE l q = 0 := by simp [setE, h, hh, hf, e]
      have g2 : ∀ R : List D, (l.map encQ ++ R)[k]? = some (encQ l[k]) := fun R => by
        rw [List.getElem?_append_left (by simpa using hkl)]; simp [hkl]
      rw [g2]
      have k5 : (setL l q).map encQ = (l.map encQ).set k (encQ q) := by rw [hs]; simp [List.map_set]
      refine rdone_mem (off := 0) (n := l.length) (setL l q) rfl hcap (by simp; omega) (by rw [k5]; simp) (by simp [setL]; exact hl) (fun c0 => ?_) (fun c0 => ?_)
      · have hv : setV l q = .tup [.d (encL false (setL l q)), .d (I 0)] := by simp [setV, hE, doneV', c0]
        rw [hv]
        simp -implicitDefEqProofs [↓gd_tt, ↓gd_ff, ↓gd_tf, ↓gd_ft, hcap, k5]
      · have hv : setV l q = .tup [.nil 7, .d (I (check (setL l q)))] := by simp [setV, hE, doneV', c0]
        rw [hv]
        simp -implicitDefEqProofs [↓gd_tt, ↓gd_ff, ↓gd_tf, ↓gd_ft]
  · have hE : setE l q = check l := by simp [setE, h]
    simp -implicitDefEqProofs [↓gd_tt, ↓gd_ff, ↓gd_tf, ↓gd_ft, h, setV, hE]

end Go.Idl
end
section
namespace Go.Idl
open Go.Proofs
set_option linter.unusedSimpArgs false
set_option linter.unusedVariables false
set_option maxRecDepth 8000
variable (b : Bool)

theorem qthere_spec (l : List Q) (id : Int) (hl : l.length ≤ maxLen) : PCall Try.prog 69 [encL b l, I id] (.d (I (there l id))) := by
  refine pcallS (fn := Try.f69) [] [] mixed (bodyOf Try.f69) [.tmp 4] Try.func69 rfl rfl (by decide) 19 rfl (by kernel_rfl) ?_
  simp -implicitDefEqProofs [↓gd_tt, ↓gd_ff, ↓gd_tf, ↓gd_ft, bodyOf, Try.f69, stripC, stripL, stripM, onsOf, upto, hintOf, freeOf, List.replicate]
  refine callK_pcall (qcheck_spec b l hl) rfl rfl ?_
  simp -implicitDefEqProofs [↓gd_tt, ↓gd_ff, ↓gd_tf, ↓gd_ft]
  refine ⟨fun hc => by simp [there, hc], fun hc => ?_⟩
  have hr := check_rises hc
  have h64 := check_len hc
  refine callK_pcall (qfind_spec b l id (small h64.2) hr) rfl rfl ?_
  simp -implicitDefEqProofs [↓gd_tt, ↓gd_ff, ↓gd_tf, ↓gd_ft, there, hc]

theorem downF_len (id : Int) : ∀ (l : List Q) (m : List Int), (downF id l m).length ≤ l.length
  | [], _ => Nat.le_refl _
  | q :: r, m => by
    unfold downF
    split
    · simp; exact downF_len id r _
    · simp; exact Nat.le_succ_of_le (downF_len id r _)
def leafIds (l : List Q) (r : List Int) : List Int := r.filter fun id => decide (sonIds l id = [])
theorem qleaves_spec (l : List Q) (hl : l.length ≤ maxLen) : PCall Try.prog 63 [encL b l] (if check l = 0 then .tup [.d (encI false (leafIds l (down l 0))), .d (I 0)] else .tup [.nil 1, .d (I (check l))]) := by
  refine pcallS (fn := Try.f63) [] [] mixed (bodyOf Try.f63) [.tmp 2, .tmp 3] Try.func63 rfl rfl (by decide) 22 rfl (by kernel_rfl) ?_
  simp -implicitDefEqProofs [↓gd_tt, ↓gd_ff, ↓gd_tf, ↓gd_ft, bodyOf, Try.f63, stripC, stripL, stripM, onsOf, upto, hintOf, freeOf, List.replicate]
  refine callK_pcall (qcheck_spec b l hl) rfl rfl ?_
  simp -implicitDefEqProofs [↓gd_tt, ↓gd_ff, ↓gd_tf, ↓gd_ft]
  refine ⟨fun hc => by simp [hc], fun hc => ?_⟩
  have hr := check_rises hc
  have h64 := check_len hc
  refine down_spec b l 0 _ _ ?_
  simp -implicitDefEqProofs [↓gd_tt, ↓gd_ff, ↓gd_tf, ↓gd_ft]
  refine rangeY mixed (down_yields b l 0 2 3 hl hr) (by simp) (by simp) (by simp) (by simp) (by simp) (by intro y hy; obtain ⟨p, _, rfl⟩ := List.mem_map.1 hy; simp [yI]) (fun k hp => ∃ v, hp = [.var [.d (encL b l)], .var [v], .var [.d (encL b l)], .var [.d (I 0)]] ∧ k ≤ (down l 0).length ∧ (v = .own 1 ((leafIds l ((down l 0).take k)).map I) ∨ (v = .nil 1 ∧ leafIds l ((down l 0).take k) = []))) ⟨_, rfl, Nat.zero_le _, .inr ⟨rfl, rfl⟩⟩ (by rintro k hp ⟨v, rfl, _, h | ⟨h, _⟩⟩ <;> subst h <;> simp) ?_ ?_
  · rintro k hp ⟨v, rfl, hk, hv⟩ hi L0 L1
    have hk' : k < (down l 0).length := by simpa using hi
    have hlen : (leafIds l ((down l 0).take k)).length ≤ 64 := by
      have h1 := downF_len 0 l []
      have h2 : (leafIds l ((down l 0).take k)).length ≤ ((down l 0).take k).length := List.length_filter_le _ _
      simp only [List.length_take, down] at h2
      simp only [down]
      omega
    have hb : ((leafIds l ((down l 0).take k)).length + 1) * 8 ≤ 140737488355328 := by omega
    have hstep : leafIds l ((down l 0).take (k + 1)) = leafIds l ((down l 0).take k) ++ (if sonIds l (down l 0)[k] = [] then [(down l 0)[k]] else []) := by
      rw [List.take_add_one, List.getElem?_eq_getElem hk']
      simp only [leafIds, List.filter_append, Option.toList_some]
      congr 1
      by_cases e : sonIds l (down l 0)[k] = [] <;> simp [e]
    rcases hv with rfl | ⟨rfl, hv⟩
    · simp -implicitDefEqProofs [↓gd_tt, ↓gd_ff, ↓gd_tf, ↓gd_ft, yI, hk']
      refine callK_pcall (qleaf_spec b l (down l 0)[k] hl) rfl rfl ?_
      simp -implicitDefEqProofs [↓gd_tt, ↓gd_ff, ↓gd_tf, ↓gd_ft]
      refine ⟨fun e => ⟨hb, by omega, by rw [hstep]; simp [e]⟩, fun e => ⟨by omega, by rw [hstep]; simp [e]⟩⟩
    · simp -implicitDefEqProofs [↓gd_tt, ↓gd_ff, ↓gd_tf, ↓gd_ft, yI, hk']
      refine callK_pcall (qleaf_spec b l (down l 0)[k] hl) rfl rfl ?_
      simp -implicitDefEqProofs [↓gd_tt, ↓gd_ff, ↓gd_tf, ↓gd_ft]
      refine ⟨fun e => ⟨by omega, by rw [hstep, hv]; simp [e]⟩, fun e => ⟨by omega, by rw [hstep, hv]; simp [e]⟩⟩
  · rintro hp' ⟨v, rfl, hk, hv⟩
    rcases hv with rfl | ⟨rfl, hv⟩
    · simp -implicitDefEqProofs [↓gd_tt, ↓gd_ff, ↓gd_tf, ↓gd_ft, hc]
    · simp -implicitDefEqProofs [↓gd_tt, ↓gd_ff, ↓gd_tf, ↓gd_ft, hc]
      simpa using hv
end Go.Idl
end
section
namespace Go.Idl
open Go.Proofs
set_option linter.unusedSimpArgs false
set_option linter.unusedVariables false
set_option maxRecDepth 8000
set_option maxHeartbeats 1000000
variable (b : Bool)

def addV (l : List Q) (q : Q) : V := if addE l q = 0 then doneV' (ins l q) else .tup [.nil 7, .d (I (addE l q))]
theorem refAdd_spec (l : List Q) (q : Q) (hl : l.length ≤ maxLen) (hl2 : l.length * 56 ≤ reachBytes) : PCall Try.prog 22 [encL b l, encQ q] (addV l q) := by
  refine pcallS (fn := Try.f22) [] [] mixed (bodyOf Try.f22) [.tmp 4, .tmp 5] Try.func22 rfl rfl (by decide) 66 rfl (by kernel_rfl) ?_
  simp -implicitDefEqProofs [↓gd_tt, ↓gd_ff, ↓gd_tf, ↓gd_ft, bodyOf, Try.f22, stripC, stripL, stripM, onsOf, upto, hintOf, freeOf, List.replicate]
  refine callK_pcall (refCheck_spec b l hl) rfl rfl ?_
  simp -implicitDefEqProofs [↓gd_tt, ↓gd_ff, ↓gd_tf, ↓gd_ft]
  by_cases h : check l = 0
  case neg =>
    have hE : addE l q = check l := by simp [addE, h]
    simp -implicitDefEqProofs [↓gd_tt, ↓gd_ff, ↓gd_tf, ↓gd_ft, h, addV, hE]
  have h64 := check_len h
  simp -implicitDefEqProofs [↓gd_tt, ↓gd_ff, ↓gd_tf, ↓gd_ft, h]
  refine callK_pcall (has_spec b l q.Id hl) rfl rfl ?_
  simp -implicitDefEqProofs [↓gd_tt, ↓gd_ff, ↓gd_tf, ↓gd_ft, h]
  refine ⟨fun h2 => by simp [addV, addE, h, h2], fun h2 => ⟨fun h3 => ?_, fun h3 => callK_pcall (has_spec b l q.Par hl) rfl rfl ?_⟩⟩
  · have h6 : 64 ≤ l.length := by omega
    simp [addV, addE, h, h2, h6]
  have h6 : ¬ 64 ≤ l.length := by omega
  simp -implicitDefEqProofs [↓gd_tt, ↓gd_ff, ↓gd_tf, ↓gd_ft, h]
  refine ⟨fun h7 => by simp [addV, addE, h, h2, h6, h7], fun h7 => ?_⟩
  have hE : addE l q = 0 := by simp [addE, h, h2, h6, h7]
  have hfin : addF q l [] false = ins l q := addF_ins h2
  refine loopA mixed [false, false, false, false, false, false, false, true, true, false, true, false, false, false, false, false, false, false, false, false, false, false, false, false, false, false, false, false, false, false, false, false, false, false, false, false, true, true, true, true, true, true, true, true, true, true, true, true, true, true, true, true, true, true, true, true, true, true] (fun (j : Nat × List Q × Bool) => [(7, .own 7 (j.2.1.map encQ)), (8, .d (.bool j.2.2)), (36, .d (I j.1))]) (fun (j : Nat × List Q × Bool) => [.var [.d (I q.Id), .d (I q.Par), .d (I q.Wt), .d (I q.QC), .d (I q.QM), .d (I q.MC), .d (I q.MM)]]) (fun (j : Nat × List Q × Bool) => j.1 ≤ l.length ∧ j.2.1.length ≤ j.1 + (if j.2.2 then 1 else 0) ∧ addF q (l.drop j.1) j.2.1 j.2.2 = ins l q) (fun (j : Nat × List Q × Bool) => l.length - j.1) ((0, [], false)) (⟨Nat.zero_le _, by simp, hfin⟩) (by simp) ?_
  rintro j hx
  obtain ⟨i, m, put⟩ := j
  obtain ⟨hi, hm, hp⟩ := hx
  simp only at hi hm hp ⊢
  rcases Nat.lt_or_eq_of_le hi with k | k
  · rw [List.drop_eq_getElem_cons k, addF] at hp
    have hw1 : IntKind.i64.wrap ((i : Int) + 1) = ((i + 1 : Nat) : Int) := wrap1 hl k
    cases put
    · simp only [Bool.false_eq_true, if_false, Nat.add_zero] at hm
      have hb : (m.length + 1) * 56 ≤ 140737488355328 := Nat.le_trans (Nat.mul_le_mul_right 56 (show m.length + 1 ≤ 66 by clear hp hfin; omega)) (by decide)
      have hb2 : (m.length + 1 + 1) * 56 ≤ 140737488355328 := Nat.le_trans (Nat.mul_le_mul_right 56 (show m.length + 1 + 1 ≤ 66 by clear hp hfin; omega)) (by decide)
      simp -implicitDefEqProofs [↓gd_tt, ↓gd_ff, ↓gd_tf, ↓gd_ft, k, wrap1 hl k]
      refine ⟨fun e => ⟨hb, hb2, i + 1, m ++ [q] ++ [l[i]], ⟨by omega, by simp; omega, by rw [if_pos ⟨rfl, e⟩] at hp; exact hp⟩, by omega, by simp, rfl⟩,
        fun e => ⟨hb, i + 1, m ++ [l[i]], ⟨by omega, by simp; omega, by rw [if_neg (by simp; omega)] at hp; exact hp⟩, by omega, by simp, rfl⟩⟩
    · simp only [if_true] at hm
      have hb : (m.length + 1) * 56 ≤ 140737488355328 := Nat.le_trans (Nat.mul_le_mul_right 56 (show m.length + 1 ≤ 66 by clear hp hfin; omega)) (by decide)
      simp -implicitDefEqProofs [↓gd_tt, ↓gd_ff, ↓gd_tf, ↓gd_ft, k, wrap1 hl k]
      exact ⟨hb, i + 1, m ++ [l[i]], ⟨by omega, by simp; omega, by rw [if_neg (by simp)] at hp; exact hp⟩, by omega, by simp, rfl⟩
  · rw [k, List.drop_length, addF] at hp
    have hmx : 66 ≤ maxLen := by decide
    cases put
    · simp only [Bool.false_eq_true, if_false, Nat.add_zero] at hm
      simp only [if_true] at hp
      simp -implicitDefEqProofs [↓gd_tt, ↓gd_ff, ↓gd_tf, ↓gd_ft, k]
      refine ⟨by omega, callK_pcall (done_spec false (m ++ [q]) (by simp; omega)) (by simp) (doneV_data false (m ++ [q])) ?_⟩
      rw [hp]
      have hv : addV l q = doneV' (ins l q) := by simp [addV, hE]
      rw [hv]
      by_cases hc : check (ins l q) = 0 <;> simp -implicitDefEqProofs [↓gd_tt, ↓gd_ff, ↓gd_tf, ↓gd_ft, doneV, doneV', hc]
    · simp only [if_true] at hm
      simp only [Bool.true_eq_false, if_false] at hp
      simp -implicitDefEqProofs [↓gd_tt, ↓gd_ff, ↓gd_tf, ↓gd_ft, k]
      refine callK_pcall (done_spec false m (by omega)) (by simp) (doneV_data false m) ?_
      rw [hp]
      have hv : addV l q = doneV' (ins l q) := by simp [addV, hE]
      rw [hv]
      by_cases hc : check (ins l q) = 0 <;> simp -implicitDefEqProofs [↓gd_tt, ↓gd_ff, ↓gd_tf, ↓gd_ft, doneV, doneV', hc]
end Go.Idl
end
section
namespace Go.Idl
open Go.Proofs
set_option linter.unusedSimpArgs false
set_option linter.unusedVariables false
set_option maxRecDepth 8000
set_option maxHeartbeats 1000000
variable (b c : Bool)

theorem eqQ (x y : Q) : eqAt [.int .i64 x.Id, .int .i64 x.Par, .int .i64 x.Wt, .int .i64 x.QC, .int .i64 x.QM, .int .i64 x.MC, .int .i64 x.MM] [.int .i64 y.Id, .int .i64 y.Par, .int .i64 y.Wt, .int .i64 y.QC, .int .i64 y.QM, .int .i64 y.MC, .int .i64 y.MM] [(0, 0), (1, 0), (2, 0), (3, 0), (4, 0), (5, 0), (6, 0)] = some (decide (x = y)) := by
  cases x; cases y
  simp [eqAt]
theorem take_one {α : Type} {l m : List α} {i : Nat} (h : i < l.length) (h' : i < m.length) (hp : l.take i = m.take i) (e : l[i] = m[i]) : l.take (i + 1) = m.take (i + 1) := by
  rw [List.take_add_one, List.take_add_one, hp, List.getElem?_eq_getElem h, List.getElem?_eq_getElem h', e]
theorem same_spec (l m : List Q) (hl : l.length ≤ maxLen) : PCall Try.prog 25 [encL b l, encL c m] (.d (.bool (decide (l = m)))) := by
  refine pcallS (fn := Try.f25) [] [] mixed (bodyOf Try.f25) [.tmp 4] Try.func25 rfl rfl (by decide) 24 rfl (by kernel_rfl) ?_
  simp -implicitDefEqProofs [↓gd_tt, ↓gd_ff, ↓gd_tf, ↓gd_ft, bodyOf, Try.f25, stripC, stripL, stripM, onsOf, upto, hintOf, freeOf, List.replicate]
  refine ⟨fun h => ?_, fun h => ?_⟩
  · rintro rfl; exact h rfl
  have hlm : l.length = m.length := by omega
  refine loopA mixed [false, false, false, false, true, true, false, false, false, false, false, false, false, true, true, true, true, true, true, true, true, true, true, true, true, true] (fun (i : Nat) => [(13, .d (I i))]) (fun (i : Nat) => []) (fun (i : Nat) => i ≤ l.length ∧ l.take i = m.take i) (fun (i : Nat) => l.length - i) (0) (⟨Nat.zero_le _, rfl⟩) (by simp) ?_
  rintro i hx
  obtain ⟨hi, hp⟩ := hx
  rcases Nat.lt_or_eq_of_le hi with h | h
  · have h' : i < m.length := by omega
    simp -implicitDefEqProofs [↓gd_tt, ↓gd_ff, ↓gd_tf, ↓gd_ft, h, h', wrap1 hl h, eqQ]
    refine ⟨fun e => by rintro rfl; exact e rfl, fun e => ⟨⟨by omega, take_one h h' hp e⟩, by omega⟩⟩
  · simp -implicitDefEqProofs [↓gd_tt, ↓gd_ff, ↓gd_tf, ↓gd_ft, h]
    rw [h, List.take_length, hlm, List.take_length] at hp
    exact hp

theorem ints_spec (l m : List Int) (hl : l.length ≤ maxLen) : PCall Try.prog 26 [encI b l, encI c m] (.d (.bool (decide (l = m)))) := by
  refine pcallS (fn := Try.f26) [] [] mixed (bodyOf Try.f26) [.tmp 4] Try.func26 rfl rfl (by decide) 24 rfl (by kernel_rfl) ?_
  simp -implicitDefEqProofs [↓gd_tt, ↓gd_ff, ↓gd_tf, ↓gd_ft, bodyOf, Try.f26, stripC, stripL, stripM, onsOf, upto, hintOf, freeOf, List.replicate]
  refine ⟨fun h => by rintro rfl; exact h rfl, fun h => ?_⟩
  have hlm : l.length = m.length := by omega
  refine loopA mixed [false, false, false, false, true, true, false, false, false, false, false, false, false, true, true, true, true, true, true, true, true, true, true, true, true, true] (fun (i : Nat) => [(13, .d (I i))]) (fun (i : Nat) => []) (fun (i : Nat) => i ≤ l.length ∧ l.take i = m.take i) (fun (i : Nat) => l.length - i) (0) (⟨Nat.zero_le _, rfl⟩) (by simp) ?_
  rintro i hx
  obtain ⟨hi, hp⟩ := hx
  rcases Nat.lt_or_eq_of_le hi with h | h
  · have h' : i < m.length := by omega
    simp -implicitDefEqProofs [↓gd_tt, ↓gd_ff, ↓gd_tf, ↓gd_ft, h, h', wrap1 hl h]
    refine ⟨fun e => by rintro rfl; exact e rfl, fun e => ⟨⟨by omega, take_one h h' hp e⟩, by omega⟩⟩
  · simp -implicitDefEqProofs [↓gd_tt, ↓gd_ff, ↓gd_tf, ↓gd_ft, h]
    rw [h, List.take_length, hlm, List.take_length] at hp
    exact hp

/-- a list in memory of its own, with something behind it -/
theorem twin_mem {hp : List IObj} {K : V → List IObj → Prop} (l : List Q) (hl : (l.length + 1) * 56 ≤ 140737488355328) (hk : ∀ id cap hp' xs, hp.length ≤ id → hp'[id]? = some (.arr 7 (l.map encQ ++ encQ ⟨71, 0, 0, 0, 0, 0, 0⟩ :: xs)) → l.length + 1 ≤ cap → cap ≤ l.length + 1 + xs.length → hp'.take hp.length = hp → K (.ref id 7 0 l.length cap) hp') : CallK Try.prog 18 [.d (encL b l)] hp K := by
  refine callS (fn := Try.f18) [(3, 1)] [] mixed (bodyOf Try.f18) [.tmp 2] Try.func18 rfl rfl (by decide) 11 rfl (by kernel_rfl) ?_
  simp -implicitDefEqProofs [↓gd_tt, ↓gd_ff, ↓gd_tf, ↓gd_ft, bodyOf, Try.f18, stripC, stripL, stripM, onsOf, upto, hintOf, freeOf, List.replicate]
  have tk : List.take l.length (l.map encQ) = l.map encQ := List.take_of_length_le (by simp)
  simp only [tk]
  refine ⟨by omega, fun hn => ⟨hn, hl, fun cap' h => ⟨by omega, hk _ _ _ _ (Nat.le_succ _) (by simp; rfl) h (by simp; omega) (by simp)⟩⟩, fun hn cap1 h1 => ⟨h1, by omega, hl, fun h2 => ⟨by omega, hk _ _ _ _ (Nat.le_succ _) (by simp; rfl) h2 (by simp; omega) (by simp)⟩, fun h2 cap2 h3 => ?_⟩⟩
  exact ⟨by omega, hk _ _ _ _ (by omega) (by simp; rfl) h3 (by simp; omega) (by simp)⟩

end Go.Idl
end
section
namespace Go.Idl
open Go.Proofs
set_option linter.unusedSimpArgs false
set_option linter.unusedVariables false
set_option maxRecDepth 8000

def twoQ : List Q := [⟨0, -1, 1, 10, 10, 0, 0⟩, ⟨1, 0, 2, 10, 10, 0, 0⟩]
theorem two_spec : PCall Try.prog 62 [] (.d (encL false twoQ)) := by
  refine pcallS (fn := Try.f62) [] [] mixed (bodyOf Try.f62) [.tmp 0] Try.func62 rfl rfl (by decide) 8 rfl (by kernel_rfl) ?_
  simp -implicitDefEqProofs [↓gd_tt, ↓gd_ff, ↓gd_tf, ↓gd_ft, bodyOf, Try.f62, stripC, stripL, stripM, onsOf, upto, hintOf, freeOf, List.replicate]
  simp [twoQ]
def threeQ : Q := ⟨3, 1, 1, 5, 5, 0, 0⟩
theorem awake_spec : PCall Try.prog 17 [] (.d (.bool true)) := by
  refine pcallS (fn := Try.f17) [] [] mixed (bodyOf Try.f17) [.tmp 0] Try.func17 rfl rfl (by decide) 38 rfl (by kernel_rfl) ?_
  simp -implicitDefEqProofs [↓gd_tt, ↓gd_ff, ↓gd_tf, ↓gd_ft, bodyOf, Try.f17, stripC, stripL, stripM, onsOf, upto, hintOf, freeOf, List.replicate]
  refine callK_pcall two_spec rfl rfl ?_
  simp -implicitDefEqProofs [↓gd_tt, ↓gd_ff, ↓gd_tf, ↓gd_ft]
  have e0 : addE twoQ threeQ = 0 := by decide
  have ec : check (ins twoQ threeQ) = 0 := by decide
  have el : leafIds (ins twoQ threeQ) (down (ins twoQ threeQ) 0) = [3] := by decide
  have e2 : check twoQ = 0 := by decide
  have e3 : (ins twoQ threeQ).length = 3 := by decide
  have e1 : addP twoQ threeQ = .tup [.d (encL false (ins twoQ threeQ)), .d (I 0)] := by simp [addP, e0, doneP, ec]
  refine callK_pcall (qadd_spec false twoQ threeQ (by decide)) (by simp [threeQ]) (by rw [e1]; rfl) ?_
  rw [e1]
  simp -implicitDefEqProofs [↓gd_tt, ↓gd_ff, ↓gd_tf, ↓gd_ft]
  refine callK_pcall (qleaves_spec false (ins twoQ threeQ) (by rw [e3]; decide)) rfl (by rw [if_pos ec]; rfl) ?_
  rw [if_pos ec, el]
  simp -implicitDefEqProofs [↓gd_tt, ↓gd_ff, ↓gd_tf, ↓gd_ft, e3]
  refine callK_pcall (ints_spec false false [3] [3] (by decide)) rfl rfl ?_
  simp -implicitDefEqProofs [↓gd_tt, ↓gd_ff, ↓gd_tf, ↓gd_ft]
  refine callK_pcall two_spec rfl rfl ?_
  simp -implicitDefEqProofs [↓gd_tt, ↓gd_ff, ↓gd_tf, ↓gd_ft]
  refine callK_pcall (qcheck_spec false twoQ (by decide)) rfl rfl ?_
  simp -implicitDefEqProofs [↓gd_tt, ↓gd_ff, ↓gd_tf, ↓gd_ft, e2]
end Go.Idl
end
section
namespace Go.Idl
set_option linter.unusedSimpArgs false
set_option linter.unusedVariables false

/-- what a leaf uses -/
structure U where
  q : Int
  c : Int
  m : Int
  deriving DecidableEq
end Go.Idl
end
section
namespace Go.Idl
open Go.Proofs
set_option linter.unusedSimpArgs false
set_option linter.unusedVariables false
set_option maxRecDepth 8000

theorem flat_one {x : D} (h : ∀ cs, x ≠ .agg cs) : x.flat = [x] := by cases x <;> first | rfl | exact absurd rfl (h _)
theorem tyd_int {P : Program} {n : Nat} {t : TypeId} {k : IntKind} {ds : List D} (hu : P.underlying t = some (.int k)) (h : TyD P (n + 1) t ds) : ∃ m, ds = [.int k m] ∧ (Lit.int k m).wf = true := by
  unfold TyD at h; rw [hu] at h; exact h
theorem ty_int {P : Program} {n : Nat} {t : TypeId} {k : IntKind} {x : D} (hu : P.underlying t = some (.int k)) (h : TyV P (n + 1) t x) : ∃ m, x = .int k m ∧ (Lit.int k m).wf = true := by
  obtain ⟨_, h2, h3⟩ := h
  have hs : isStruct P t = false := by unfold isStruct; rw [hu]
  obtain ⟨m, e, hm⟩ := tyd_int hu h3
  rw [flat_one (h2 hs)] at e
  exact ⟨m, by simpa using e, hm⟩
theorem ty_slice {P : Program} {n : Nat} {t e : TypeId} {x : D} (hu : P.underlying t = some (.slice e)) (h : TyV P (n + 1) t x) :
    ∃ xs, x = .sl false (P.cellsOf e) xs ∧ xs.length ≤ maxLen ∧ xs.length * P.bytesOf e ≤ reachBytes ∧ ∀ y ∈ xs, TyV P n e y := by
  obtain ⟨_, h2, h3⟩ := h
  have hs : isStruct P t = false := by unfold isStruct; rw [hu]
  unfold TyD at h3; rw [hu] at h3
  obtain ⟨xs, e1, h4, h5, h6⟩ := h3
  rw [flat_one (h2 hs)] at e1
  refine ⟨xs, by simpa using e1, h4, h5, fun y hy => ?_⟩
  obtain ⟨_, a, b, c⟩ := h6 y hy
  exact ⟨a, b, c⟩
theorem ty_agg {P : Program} {n : Nat} {t : TypeId} {fs : Array Field} {x : D} (hu : P.underlying t = some (.struct fs)) (h : TyV P (n + 1) t x) :
    ∃ cs, x = .agg cs ∧ cs.length = P.cellsOf t ∧ ∀ f ∈ fs.toList, TyD P n f.type ((cs.drop f.offset).take (P.cellsOf f.type)) := by
  obtain ⟨h1, _, h3⟩ := h
  have hs : isStruct P t = true := by unfold isStruct; rw [hu]
  obtain ⟨cs, rfl⟩ := h1 hs
  unfold TyD at h3; rw [hu] at h3
  exact ⟨cs, rfl, h3.1, h3.2⟩
theorem list2 {α : Type} {l : List α} (h : l.length = 2) : ∃ a b, l = [a, b] := by
  match l, h with
  | [a, b], _ => exact ⟨a, b, rfl⟩
theorem list7 {α : Type} {l : List α} (h : l.length = 7) : ∃ a b c d e f g, l = [a, b, c, d, e, f, g] := by
  match l, h with
  | [a, b, c, d, e, f, g], _ => exact ⟨a, b, c, d, e, f, g, rfl⟩
theorem c2 : Try.prog.cellsOf 2 = 1 := by kernel_rfl
theorem c3 : Try.prog.cellsOf 3 = 1 := by kernel_rfl
theorem c41 : Try.prog.cellsOf 41 = 2 := by kernel_rfl
theorem c43 : Try.prog.cellsOf 43 = 7 := by kernel_rfl
theorem b43 : Try.prog.bytesOf 43 = 56 := by kernel_rfl
theorem wf_in {m : Int} (h : (Lit.int .i64 m).wf = true) : In64 m := by
  have e1 : IntKind.i64.signed = true := rfl
  have e2 : IntKind.i64.bits = 64 := rfl
  simp [Lit.wf, IntKind.min, IntKind.max, e1, e2] at h
  exact h
theorem tyd_vec {n : Nat} {ds : List D} (h : TyD Try.prog (n + 2) 41 ds) : ∃ a b, ds = [I a, I b] ∧ In64 a ∧ In64 b := by
  unfold TyD at h; rw [Try.underlying41] at h
  obtain ⟨h1, h2⟩ := h
  rw [c41] at h1
  obtain ⟨x, y, rfl⟩ := list2 h1
  simp [c2] at h2
  obtain ⟨h3, h4⟩ := h2
  obtain ⟨a, e1, w1⟩ := tyd_int Try.underlying2 h3
  obtain ⟨b, e2, w2⟩ := tyd_int Try.underlying2 h4
  simp at e1 e2; subst e1; subst e2
  exact ⟨a, b, rfl, wf_in w1, wf_in w2⟩
theorem ty_q {n : Nat} {x : D} (h : TyV Try.prog (n + 3) 43 x) : ∃ q : Q, x = encQ q ∧ q.ok := by
  obtain ⟨cs, rfl, h1, h2⟩ := ty_agg Try.underlying43 h
  rw [c43] at h1
  obtain ⟨x1, x2, x3, x4, x5, x6, x7, rfl⟩ := list7 h1
  simp [c2, c3, c41] at h2
  obtain ⟨k1, k2, k3, k4, k5⟩ := h2
  obtain ⟨a1, e1, w1⟩ := tyd_int Try.underlying3 k1
  obtain ⟨a2, e2, w2⟩ := tyd_int Try.underlying3 k2
  obtain ⟨a3, e3, w3⟩ := tyd_int Try.underlying2 k3
  obtain ⟨a4, a5, e4, w4, w5⟩ := tyd_vec k4
  obtain ⟨a6, a7, e6, w6, w7⟩ := tyd_vec k5
  simp at e1 e2 e3 e4 e6
  obtain ⟨rfl, rfl⟩ := e4
  obtain ⟨rfl, rfl⟩ := e6
  subst e1; subst e2; subst e3
  exact ⟨⟨a1, a2, a3, a4, a5, a6, a7⟩, rfl, ⟨wf_in w1, wf_in w2, wf_in w3, w4, w5, w6, w7⟩⟩
theorem all_enc {α : Type} {enc : α → D} {p : α → Prop} {T : D → Prop} (ht : ∀ x, T x → ∃ a, x = enc a ∧ p a) : ∀ (xs : List D), (∀ x ∈ xs, T x) → ∃ l : List α, xs = l.map enc ∧ ∀ a ∈ l, p a
  | [], _ => ⟨[], rfl, by simp⟩
  | x :: xs, h => by
    obtain ⟨a, rfl, ha⟩ := ht x (h x (by simp))
    obtain ⟨l, rfl, hl⟩ := all_enc ht xs fun y hy => h y (by simp [hy])
    exact ⟨a :: l, rfl, by
      intro b hb
      rcases List.mem_cons.1 hb with rfl | hb
      · exact ha
      · exact hl b hb⟩
theorem ty_id {n : Nat} {x : D} (h : TyV Try.prog (n + 1) 3 x) : ∃ m, x = I m ∧ In64 m := by
  obtain ⟨m, e, w⟩ := ty_int Try.underlying3 h
  exact ⟨m, e, wf_in w⟩
theorem ty_qs {n : Nat} {x : D} (h : TyV Try.prog (n + 4) 22 x) : ∃ l : List Q, x = encL false l ∧ l.length ≤ maxLen ∧ l.length * 56 ≤ reachBytes ∧ ∀ q ∈ l, q.ok := by
  obtain ⟨xs, rfl, h1, h2, h3⟩ := ty_slice Try.underlying22 h
  obtain ⟨l, rfl, hl⟩ := all_enc (fun x hx => ty_q hx) xs h3
  rw [b43] at h2
  exact ⟨l, by rw [c43], by simpa using h1, by simpa using h2, hl⟩
theorem own : ownKnob Try.prog.godebug = none := by kernel_rfl
theorem laid : laidOutB Try.prog = true := by kernel_rfl
end Go.Idl
end
section
namespace Go.Idl
open Go.Proofs
set_option linter.unusedSimpArgs false
set_option linter.unusedVariables false
set_option maxRecDepth 8000

theorem encL_perm (m : List Q) : (encL false m).permP := by
  refine ⟨rfl, ?_⟩
  induction m with
  | nil => trivial
  | cons q m ih => exact ⟨⟨trivial, trivial, trivial, trivial, trivial, trivial, trivial, trivial⟩, ih⟩
theorem tup_perm (m : List Q) (e : Int) : V.permP (.tup [.d (encL false m), .d (I e)]) := by
  intro v hv
  rcases List.mem_cons.1 hv with rfl | hv
  · exact encL_perm m
  · rcases List.mem_cons.1 hv with rfl | hv
    · trivial
    · cases hv
theorem nil_perm (e : Int) : V.permP (.tup [.nil 7, .d (I e)]) := by
  intro v hv
  rcases List.mem_cons.1 hv with rfl | hv
  · trivial
  · rcases List.mem_cons.1 hv with rfl | hv
    · trivial
    · cases hv
theorem doneP_ok (m : List Q) : (doneP m).data = true ∧ (doneP m).permP := by
  unfold doneP; split
  · exact ⟨rfl, tup_perm _ _⟩
  · exact ⟨rfl, nil_perm _⟩
theorem addP_ok (l : List Q) (q : Q) : (addP l q).data = true ∧ (addP l q).permP := by
  unfold addP; split
  · exact doneP_ok _
  · exact ⟨rfl, nil_perm _⟩
theorem setP_ok (l : List Q) (q : Q) : (setP l q).data = true ∧ (setP l q).permP := by
  unfold setP; split
  · exact doneP_ok _
  · exact ⟨rfl, nil_perm _⟩
theorem resP (m : List Q) (hm : check m = 0 → m.length ≤ maxLen) : (∃ x, x.length ≤ maxLen ∧ doneP m = .tup [.d (encL false x), .d (I 0)]) ∨ ∃ e, doneP m = .tup [.nil 7, .d (I e)] := by
  unfold doneP; split
  · rename_i h; exact .inl ⟨m, hm h, rfl⟩
  · exact .inr ⟨_, rfl⟩
theorem check_max {m : List Q} (h : check m = 0) : m.length ≤ maxLen := by
  have := check_len h
  have h2 : 64 ≤ maxLen := by decide
  omega
theorem addP_res (l : List Q) (q : Q) : (∃ x, x.length ≤ maxLen ∧ addP l q = .tup [.d (encL false x), .d (I 0)]) ∨ ∃ e, addP l q = .tup [.nil 7, .d (I e)] := by
  unfold addP; split
  · exact resP _ check_max
  · exact .inr ⟨_, rfl⟩
theorem setP_res (l : List Q) (q : Q) : (∃ x, x.length ≤ maxLen ∧ setP l q = .tup [.d (encL false x), .d (I 0)]) ∨ ∃ e, setP l q = .tup [.nil 7, .d (I e)] := by
  unfold setP; split
  · exact resP _ check_max
  · exact .inr ⟨_, rfl⟩
end Go.Idl
end
section
namespace Go.Idl
set_option linter.unusedSimpArgs false
set_option linter.unusedVariables false

theorem par_has {l : List Q} (h : form l = true) {x : Q} (hx : x ∈ l) : x.Par = -1 ∨ has l x.Par = true := by
  obtain ⟨i, hi, rfl⟩ := List.getElem_of_mem hx
  rcases Nat.eq_zero_or_pos i with rfl | k
  · exact .inl (form_root h hi).2
  · obtain ⟨j, hj, _, e⟩ := form_par h hi k
    exact .inr (by rw [← e]; exact has_at hj)
end Go.Idl
end
section
namespace Go.Idl
open Go.Proofs
set_option linter.unusedSimpArgs false
set_option linter.unusedVariables false
set_option maxRecDepth 8000
set_option maxHeartbeats 1000000
variable (b : Bool)

theorem nhas_spec (l : List Int) (n : Int) (hl : l.length ≤ maxLen) : PCall Try.prog 111 [encI b l, I n] (.d (.bool (decide (n ∈ l)))) := by
  refine pcallS (fn := Try.f111) [] [] mixed (bodyOf Try.f111) [.tmp 4] Try.func111 rfl rfl (by decide) 15 rfl (by kernel_rfl) ?_
  simp -implicitDefEqProofs [↓gd_tt, ↓gd_ff, ↓gd_tf, ↓gd_ft, bodyOf, Try.f111, stripC, stripL, stripM, onsOf, upto, hintOf, freeOf, List.replicate]
  refine loopA mixed [false, false, false, false, true, false, true, false, false, true, true, true, true, true, true, true, true] (fun (i : Nat) => [(9, .d (I i))]) (fun (i : Nat) => []) (fun (i : Nat) => i ≤ l.length ∧ ∀ j (h : j < l.length), j < i → l[j] ≠ n) (fun (i : Nat) => l.length - i) (0) (⟨Nat.zero_le _, fun j _ h => by omega⟩) (by simp) ?_
  rintro i hx
  obtain ⟨hi, hx⟩ := hx
  rcases Nat.lt_or_eq_of_le hi with h | h
  · simp -implicitDefEqProofs [↓gd_tt, ↓gd_ff, ↓gd_tf, ↓gd_ft, h, wrap1 hl h]
    refine ⟨fun e => by rw [← e]; exact List.getElem_mem h, fun e => ⟨⟨by omega, fun j hj hji => ?_⟩, by omega⟩⟩
    rcases Nat.lt_or_eq_of_le (Nat.le_of_lt_succ hji) with k | rfl
    · exact hx j hj k
    · exact e
  · simp -implicitDefEqProofs [↓gd_tt, ↓gd_ff, ↓gd_tf, ↓gd_ft, h]
    intro hm
    obtain ⟨j, hj, e⟩ := List.getElem_of_mem hm
    exact hx j hj (by omega) e

theorem max64 {n : Nat} (h : n ≤ 64) : n ≤ maxLen := by
  have : 64 ≤ maxLen := by decide
  omega
theorem find_mem {l : List Q} {id : Int} (hr : Rises l) (hh : has l id = true) : find l id ∈ l := by
  obtain ⟨_, h2, _⟩ := place_pos hr hh
  rw [find_pos hr hh h2]; exact List.getElem_mem h2
theorem path_spec (l : List Q) (id : Int) (hc : check l = 0) (hh : has l id = true) : PCall Try.prog 133 [encL b l, I id] (.d (encI false (path l id))) := by
  have hf := check_form hc
  have hr := check_rises hc
  have h64 := check_len hc
  have hl := max64 h64.2
  have hpl := path_len l id
  refine pcallS (fn := Try.f133) [] [] mixed (bodyOf Try.f133) [.tmp 4] Try.func133 rfl rfl (by decide) 15 rfl (by kernel_rfl) ?_
  simp -implicitDefEqProofs [↓gd_tt, ↓gd_ff, ↓gd_tf, ↓gd_ft, bodyOf, Try.f133, stripC, stripL, stripM, onsOf, upto, hintOf, freeOf, List.replicate]
  refine loopA mixed [false, true, false, false, false, true, true, true, true, true, true, true, true, true, true, true] (fun (p : Nat × Int) => [(1, .d (I p.2)), (5, .own 1 (((path l id).take p.1).map I))]) (fun (p : Nat × Int) => []) (fun (p : Nat × Int) => p.1 ≤ (path l id).length ∧ path l p.2 = (path l id).drop p.1 ∧ (has l p.2 = true ∨ p.2 = -1)) (fun (p : Nat × Int) => rank l p.2) ((0, id)) (⟨Nat.zero_le _, by simp, .inl hh⟩) (by simp) ?_
  rintro p hx
  obtain ⟨k, x⟩ := p
  obtain ⟨hk, hp, hd⟩ := hx
  simp only at hk hp hd ⊢
  by_cases hx0 : 0 ≤ x
  · have hxh : has l x = true := by
      rcases hd with h | h
      · exact h
      · omega
    have e := path_eq hf x
    rw [if_pos hxh, hp] at e
    have hk2 : k < (path l id).length := by
      have := congrArg List.length e; simp at this; omega
    rw [List.drop_eq_getElem_cons hk2, List.cons.injEq] at e
    obtain ⟨e1, e2⟩ := e
    have hlen : ((path l id).take k).length = k := by simp; omega
    simp -implicitDefEqProofs [↓gd_tt, ↓gd_ff, ↓gd_tf, ↓gd_ft, hx0]
    refine ⟨by omega, callK_pcall (find_spec b l x hl) rfl rfl ?_⟩
    simp -implicitDefEqProofs [↓gd_tt, ↓gd_ff, ↓gd_tf, ↓gd_ft]
    refine ⟨k + 1, (find l x).Par, ⟨by omega, e2.symm, ?_⟩, rank_par hf hxh, ?_⟩
    · rcases par_has hf (find_mem hr hxh) with h | h
      · exact .inr h
      · exact .inl h
    · refine ⟨rfl, ?_⟩
      rw [List.take_add_one]; simp [hk2, e1]
  · have hxh : has l x = false := by
      cases e : has l x with
      | false => rfl
      | true => have := has_nonneg hf e; omega
    rw [path_eq hf, if_neg (by simp [hxh])] at hp
    have hk2 : k = (path l id).length := by
      have := congrArg List.length hp; simp at this; omega
    simp -implicitDefEqProofs [↓gd_tt, ↓gd_ff, ↓gd_tf, ↓gd_ft, hx0, hk2]

def belowT (l : List Q) (id : Int) (i : Nat) : List Int := ((l.take i).filter fun q => decide (id ∈ path l q.Id)).map (·.Id)
theorem belowT_succ {l : List Q} {id : Int} {i : Nat} (h : i < l.length) : belowT l id (i + 1) = belowT l id i ++ (if id ∈ path l l[i].Id then [l[i].Id] else []) := by
  unfold belowT
  rw [List.take_add_one, List.getElem?_eq_getElem h, Option.toList_some, List.filter_append, List.map_append]
  congr 1
  by_cases e : id ∈ path l l[i].Id <;> simp [e]
theorem belowT_len (l : List Q) (id : Int) (i : Nat) : (belowT l id i).length ≤ i := by
  unfold belowT
  rw [List.length_map]
  have := List.length_filter_le (fun q : Q => decide (id ∈ path l q.Id)) (l.take i)
  simp at this; omega
theorem below_spec (l : List Q) (id : Int) (hc : check l = 0) : PCall Try.prog 76 [encL b l, I id] (.d (encI false (below l id))) := by
  have h64 := check_len hc
  have hl := max64 h64.2
  refine pcallS (fn := Try.f76) [] [] mixed (bodyOf Try.f76) [.tmp 4] Try.func76 rfl rfl (by decide) 25 rfl (by kernel_rfl) ?_
  simp -implicitDefEqProofs [↓gd_tt, ↓gd_ff, ↓gd_tf, ↓gd_ft, bodyOf, Try.f76, stripC, stripL, stripM, onsOf, upto, hintOf, freeOf, List.replicate]
  refine loopA mixed [false, false, false, false, false, true, false, true, false, false, true, true, true, true, true, true, true, true, true, true, true, true, true, true, true, true] (fun (i : Nat) => [(5, .own 1 ((belowT l id i).map I)), (10, .d (I i))]) (fun (i : Nat) => []) (fun (i : Nat) => i ≤ l.length) (fun (i : Nat) => l.length - i) (0) (Nat.zero_le _) (by simp [belowT]) ?_
  rintro i hx
  have hb := belowT_len l id i
  rcases Nat.lt_or_eq_of_le hx with h | h
  · simp -implicitDefEqProofs [↓gd_tt, ↓gd_ff, ↓gd_tf, ↓gd_ft, h]
    refine callK_pcall (path_spec b l l[i].Id hc (has_at h)) rfl rfl ?_
    simp -implicitDefEqProofs [↓gd_tt, ↓gd_ff, ↓gd_tf, ↓gd_ft]
    refine callK_pcall (nhas_spec false (path l l[i].Id) id (by have := path_len l l[i].Id; omega)) rfl rfl ?_
    simp -implicitDefEqProofs [↓gd_tt, ↓gd_ff, ↓gd_tf, ↓gd_ft, wrap1 hl h]
    refine ⟨fun e => ⟨by omega, i + 1, by omega, by omega, ?_, rfl⟩, fun e => ⟨i + 1, by omega, by omega, ?_, rfl⟩⟩
    · rw [belowT_succ h]; simp [e]
    · rw [belowT_succ h]; simp [e]
  · simp -implicitDefEqProofs [↓gd_tt, ↓gd_ff, ↓gd_tf, ↓gd_ft, h]
    rw [show belowT l id l.length = below l id by simp [belowT, below]]

theorem there_zero {l : List Q} {id : Int} : there l id = 0 ↔ check l = 0 ∧ has l id = true := by
  unfold there
  by_cases h : check l = 0
  · cases e : has l id <;> simp [h]
  · simp [h]
def belowV (l : List Q) (id : Int) : V := if there l id = 0 then .tup [.d (encI false (below l id)), .d (I 0)] else .tup [.nil 1, .d (I (there l id))]
theorem refBelow_spec (l : List Q) (id : Int) (hl : l.length ≤ maxLen) : PCall Try.prog 23 [encL b l, I id] (belowV l id) := by
  refine pcallS (fn := Try.f23) [] [] mixed (bodyOf Try.f23) [.tmp 4, .tmp 5] Try.func23 rfl rfl (by decide) 14 rfl (by kernel_rfl) ?_
  simp -implicitDefEqProofs [↓gd_tt, ↓gd_ff, ↓gd_tf, ↓gd_ft, bodyOf, Try.f23, stripC, stripL, stripM, onsOf, upto, hintOf, freeOf, List.replicate]
  refine callK_pcall (rthere_spec b l id hl) rfl rfl ?_
  simp -implicitDefEqProofs [↓gd_tt, ↓gd_ff, ↓gd_tf, ↓gd_ft]
  refine ⟨fun h => by simp [belowV, h], fun h => callK_pcall (below_spec b l id (there_zero.1 h).1) rfl rfl ?_⟩
  simp -implicitDefEqProofs [↓gd_tt, ↓gd_ff, ↓gd_tf, ↓gd_ft, belowV, h]
end Go.Idl
end
section
namespace Go.Idl
open Go.Proofs
set_option linter.unusedSimpArgs false
set_option linter.unusedVariables false
set_option maxRecDepth 8000
set_option maxHeartbeats 1000000
variable (b : Bool)

theorem down_len (l : List Q) (id : Int) : (down l id).length ≤ l.length := downF_len id l []
theorem appendSeq_spec (l : List Q) (id : Int) (hl : l.length ≤ 64) (hr : Rises l) {K : V → List IObj → Prop} (hk : ∀ v hp', (v = .own 1 ((down l id).map I) ∨ (v = .nil 1 ∧ down l id = [])) → K v hp') : CallK Try.prog 128 [.nil 1, .fn (.func 129) [.ptr 0 0, .ptr 1 0]] [.var [.d (encL b l)], .var [.d (I id)]] K := by
  have hdl := down_len l id
  refine callS (fn := Try.f128) [] [] mixed (bodyOf Try.f128) [.tmp 4] Try.func128 rfl rfl (by decide) 11 rfl (by kernel_rfl) ?_
  simp -implicitDefEqProofs [↓gd_tt, ↓gd_ff, ↓gd_tf, ↓gd_ft, bodyOf, Try.f128, stripC, stripL, stripM, onsOf, upto, hintOf, freeOf, List.replicate]
  refine rangeY mixed (down_yields b l id 0 1 (max64 hl) hr) (by simp) (by simp) (by simp) (by simp) (by simp) (by intro y hy; obtain ⟨p, _, rfl⟩ := List.mem_map.1 hy; simp [yI]) (fun k hp => ∃ v, hp = [.var [.d (encL b l)], .var [.d (I id)], .var [v]] ∧ k ≤ (down l id).length ∧ (v = .own 1 (((down l id).take k).map I) ∨ (v = .nil 1 ∧ k = 0))) ⟨_, rfl, Nat.zero_le _, .inr ⟨rfl, rfl⟩⟩ (by rintro k hp ⟨v, rfl, _, h | ⟨h, _⟩⟩ <;> subst h <;> simp) ?_ ?_
  · rintro k hp ⟨v, rfl, hk, hv⟩ hi L0 L1
    have hk' : k < (down l id).length := by simpa using hi
    rcases hv with rfl | ⟨rfl, rfl⟩
    · simp -implicitDefEqProofs [↓gd_tt, ↓gd_ff, ↓gd_tf, ↓gd_ft, yI, hk']
      refine ⟨by omega, ?_, by omega⟩
      rw [List.take_add_one]; simp [hk']
    · simp -implicitDefEqProofs [↓gd_tt, ↓gd_ff, ↓gd_tf, ↓gd_ft, yI, hk']
      refine ⟨?_, by omega⟩
      rw [List.take_add_one]; simp [hk']
  · rintro hp' ⟨v, rfl, hk2, hv⟩
    rcases hv with rfl | ⟨rfl, hv⟩
    · simp -implicitDefEqProofs [↓gd_tt, ↓gd_ff, ↓gd_tf, ↓gd_ft]
      exact hk _ _ (.inl rfl)
    · simp -implicitDefEqProofs [↓gd_tt, ↓gd_ff, ↓gd_tf, ↓gd_ft]
      exact hk _ _ (.inr ⟨rfl, List.length_eq_zero_iff.1 (by simpa using hv)⟩)
theorem collect_spec (l : List Q) (id : Int) (hl : l.length ≤ 64) (hr : Rises l) {K : V → List IObj → Prop} (hk : ∀ v hp', (v = .own 1 ((down l id).map I) ∨ (v = .nil 1 ∧ down l id = [])) → K v hp') : CallK Try.prog 70 [.fn (.func 129) [.ptr 0 0, .ptr 1 0]] [.var [.d (encL b l)], .var [.d (I id)]] K := by
  refine callS (fn := Try.f70) [] [] mixed (bodyOf Try.f70) [.tmp 2] Try.func70 rfl rfl (by decide) 4 rfl (by kernel_rfl) ?_
  simp -implicitDefEqProofs [↓gd_tt, ↓gd_ff, ↓gd_tf, ↓gd_ft, bodyOf, Try.f70, stripC, stripL, stripM, onsOf, upto, hintOf, freeOf, List.replicate]
  refine appendSeq_spec b l id hl hr fun v hp' hv => ?_
  rcases hv with rfl | ⟨rfl, hv⟩
  · simp -implicitDefEqProofs [↓gd_tt, ↓gd_ff, ↓gd_tf, ↓gd_ft]
    exact hk _ _ (.inl rfl)
  · simp -implicitDefEqProofs [↓gd_tt, ↓gd_ff, ↓gd_tf, ↓gd_ft]
    exact hk _ _ (.inr ⟨rfl, hv⟩)
theorem qbelow_spec (l : List Q) (id : Int) (hl : l.length ≤ maxLen) : PCall Try.prog 20 [encL b l, I id] (belowV l id) := by
  refine pcallS (fn := Try.f20) [] [] mixed (bodyOf Try.f20) [.tmp 4, .tmp 5] Try.func20 rfl rfl (by decide) 15 rfl (by kernel_rfl) ?_
  simp -implicitDefEqProofs [↓gd_tt, ↓gd_ff, ↓gd_tf, ↓gd_ft, bodyOf, Try.f20, stripC, stripL, stripM, onsOf, upto, hintOf, freeOf, List.replicate]
  refine callK_pcall (qthere_spec b l id hl) rfl rfl ?_
  simp -implicitDefEqProofs [↓gd_tt, ↓gd_ff, ↓gd_tf, ↓gd_ft]
  refine ⟨fun h => by simp [belowV, h], fun h => ?_⟩
  obtain ⟨hc, hh⟩ := there_zero.1 h
  have hv : belowV l id = .tup [.d (encI false (down l id)), .d (I 0)] := by simp [belowV, h, down_below (check_form hc)]
  rw [hv]
  refine down_spec b l id _ _ ?_
  simp -implicitDefEqProofs [↓gd_tt, ↓gd_ff, ↓gd_tf, ↓gd_ft]
  refine collect_spec b l id (check_len hc).2 (check_rises hc) fun v hp' hv => ?_
  rcases hv with rfl | ⟨rfl, hv⟩
  · simp -implicitDefEqProofs [↓gd_tt, ↓gd_ff, ↓gd_tf, ↓gd_ft]
  · simp -implicitDefEqProofs [↓gd_tt, ↓gd_ff, ↓gd_tf, ↓gd_ft, hv]
end Go.Idl
end
section
namespace Go.Idl
section
variable {P : Program}
def anyLB (P : Program) (next : List Bool → St → Prop) (done : List Bool) (s : St) : Nat → List (SOp × List Nat) → Prop
  | _, [] => True
  | i, (o, pm) :: r => (bif !(done.getD i false) && pm.all (fun j => done.getD j false) then sOps P [o] s (fun s' => next (done.set i true) s') else True) ∧ anyLB P next done s (i + 1) r
/-- the same as anyGo; what is done is told place by place, that like states be alike -/
def anyGoB (P : Program) (ops : List (SOp × List Nat)) (K : St → Prop) : Nat → List Bool → St → Prop
  | 0, _, s => K s
  | n + 1, done, s => anyLB P (anyGoB P ops K n) done s 0 ops
theorem ag_zero {ops : List (SOp × List Nat)} {K : St → Prop} {done : List Bool} {tm : List V} {hp : List IObj} {nb : Nat} : anyGoB P ops K 0 done ⟨tm, hp, nb⟩ = K ⟨tm, hp, nb⟩ := rfl
theorem ag_succ {ops : List (SOp × List Nat)} {K : St → Prop} {n : Nat} {done : List Bool} {tm : List V} {hp : List IObj} {nb : Nat} : anyGoB P ops K (n + 1) done ⟨tm, hp, nb⟩ = anyLB P (anyGoB P ops K n) done ⟨tm, hp, nb⟩ 0 ops := rfl
theorem al_nil {next : List Bool → St → Prop} {done : List Bool} {s : St} {i : Nat} : anyLB P next done s i [] = True := rfl
theorem al_cons {next : List Bool → St → Prop} {done : List Bool} {s : St} {i : Nat} {o : SOp} {pm : List Nat} {r : List (SOp × List Nat)} : anyLB P next done s i ((o, pm) :: r) = ((if (!(done.getD i false) && pm.all (fun j => done.getD j false)) = true then sOps P [o] s (fun s' => next (done.set i true) s') else True) ∧ anyLB P next done s (i + 1) r) := by
  simp only [anyLB]
  cases (!(done.getD i false) && pm.all (fun j => done.getD j false)) <;> rfl
theorem anyGo_eqB {ops : List (SOp × List Nat)} {K : St → Prop} : ∀ (n : Nat) (ds : List Nat) (B : List Bool), B.length = ops.length → (∀ j, ds.contains j = B.getD j false) → anyGo P ops K n ds = anyGoB P ops K n B
  | 0, _, _, _, _ => rfl
  | n + 1, ds, B, hB, h => by
    funext s
    simp only [anyGo, anyGoB]
    have key : ∀ (r : List (SOp × List Nat)) (i : Nat), i + r.length = ops.length → anyL P (anyGo P ops K n) ds s i r = anyLB P (anyGoB P ops K n) B s i r := by
      intro r
      induction r with
      | nil => intro i _; rfl
      | cons x r ih =>
        intro i hi
        obtain ⟨o, pm⟩ := x
        simp only [List.length_cons] at hi
        have e1 : pm.all (fun j => ds.contains j) = pm.all (fun j => B.getD j false) := by
          congr 1; funext j; exact h j
        have e2 : (fun s' => anyGo P ops K n (i :: ds) s') = fun s' => anyGoB P ops K n (B.set i true) s' := by
          rw [anyGo_eqB n (i :: ds) (B.set i true) (by simpa using hB) fun j => ?_]
          rw [List.contains_cons, h j]
          simp only [List.getD_eq_getElem?_getD, List.getElem?_set]
          by_cases e : i = j
          · subst e
            have : i < B.length := by omega
            simp [this]
          · have : (j == i) = false := by simpa using fun e' => e e'.symm
            simp [e, this]
        simp only [anyL, anyLB]
        rw [h i, e1, e2, ih (i + 1) (by omega)]
    exact key ops 0 (by omega)
theorem anyGo_B {ops : List (SOp × List Nat)} {K : St → Prop} {n : Nat} {s : St} (h : anyGoB P ops K n (List.replicate ops.length false) s) : anyGo P ops K n [] s := by
  rw [anyGo_eqB n [] (List.replicate ops.length false) (by simp) fun j => ?_]
  · exact h
  · simp [List.getElem?_replicate]
    split <;> simp
/-- the same behind free operations -/
theorem anyGo_U {ops : List (SOp × List Nat)} {K : St → Prop} {n m : Nat} {s : St} (h : anyGoB P ops K n (List.replicate m true ++ List.replicate (ops.length - m) false) s) (hm : m ≤ ops.length) : anyGo P ops K n (upto m) s := by
  rw [anyGo_eqB n (upto m) (List.replicate m true ++ List.replicate (ops.length - m) false) (by simp; omega) fun j => ?_]
  · exact h
  · rw [Bool.eq_iff_iff]
    simp only [List.contains_eq_mem, decide_eq_true_eq, upto_mem, List.getD_eq_getElem?_getD, List.getElem?_append, List.getElem?_replicate, List.length_replicate]
    by_cases e : j < m
    · simp [e]
    · simp only [e, if_false, false_iff]
      split <;> simp
theorem any_endU {ops : List (SOp × List Nat)} {K : St → Prop} {n m : Nat} {s : St} (e : St) (hm : m ≤ ops.length) (h : ∀ K0 : St → Prop, K0 e → anyGoB P ops K0 n (List.replicate m true ++ List.replicate (ops.length - m) false) s) (hk : K e) : anyGo P ops K n (upto m) s := anyGo_U (h K hk) hm
/-- all orders end in one state -/
theorem any_end {ops : List (SOp × List Nat)} {K : St → Prop} {n : Nat} {s : St} (e : St) (h : ∀ K0 : St → Prop, K0 e → anyGoB P ops K0 n (List.replicate ops.length false) s) (hk : K e) : anyGo P ops K n [] s := anyGo_B (h K hk)
end
end Go.Idl
end
