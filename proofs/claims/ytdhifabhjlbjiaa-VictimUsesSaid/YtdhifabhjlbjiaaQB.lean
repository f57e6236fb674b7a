/- The document's answer for queues, further: lists that are made. -/
import Derived.Test.YtdhifabhjlbjiaaQA
import Derived.Test.YtdhifabhjlbjiaaMQall
set_option linter.all false
namespace Go.Idl
open Go.Proofs
set_option linter.unusedSimpArgs false
set_option linter.unusedVariables false
set_option maxRecDepth 8000
set_option maxHeartbeats 4000000
variable (b : Bool)

/-- a queue's sons -/
def childF (id : Int) : List Q → List Int → List Int
  | [], m => m
  | q :: r, m => if q.Par = id then childF id r (m ++ [q.Id]) else childF id r m
theorem childF_eq (id : Int) : ∀ (l : List Q) (m : List Int), childF id l m = m ++ sonIds l id
  | [], m => by simp [childF, sonIds]
  | q :: r, m => by
    unfold childF
    rw [childF_eq id r, childF_eq id r]
    by_cases h : q.Par = id <;> simp [sonIds, h]
theorem rchildren_spec (l : List Q) (id : Int) (hl : l.length ≤ maxLen) (hl2 : l.length * 56 ≤ reachBytes) : PCall Try.prog 116 [encL b l, I id] (.d (encI false (sonIds l id))) := by
  refine pcallS (fn := Try.f116) [] [] mixed (bodyOf Try.f116) [.tmp 4] Try.func116 rfl rfl (by decide) 23 rfl (by kernel_rfl) ?_
  simp -implicitDefEqProofs [↓gd_tt, ↓gd_ff, ↓gd_tf, ↓gd_ft, bodyOf, Try.f116, stripC, stripL, stripM, onsOf, upto, hintOf, freeOf, List.replicate]
  refine loopA mixed [false, false, false, false, false, true, false, true, false, false, true, true, true, true, true, true, true, true, true, true, true, true, true, true] (fun (j : Nat × List Int) => [(5, .own 1 (j.2.map I)), (10, .d (I j.1))]) (fun (j : Nat × List Int) => []) (fun (j : Nat × List Int) => j.1 ≤ l.length ∧ j.2.length ≤ j.1 ∧ childF id (l.drop j.1) j.2 = sonIds l id) (fun (j : Nat × List Int) => l.length - j.1) ((0, [])) (⟨Nat.zero_le _, Nat.le_refl _, by rw [childF_eq]; simp⟩) (by simp) ?_
  rintro j hx
  obtain ⟨i, m⟩ := j
  obtain ⟨hi, hm, hp⟩ := hx
  simp only at hi hm hp ⊢
  rcases Nat.lt_or_eq_of_le hi with h | h
  · rw [List.drop_eq_getElem_cons h, childF] at hp
    simp -implicitDefEqProofs [↓gd_tt, ↓gd_ff, ↓gd_tf, ↓gd_ft, h, wrap1 hl h]
    have hb : (m.length + 1) * 8 ≤ 140737488355328 := by have : reachBytes = 140737488351232 := rfl; omega
    refine ⟨fun e => ⟨hb, i + 1, m ++ [l[i].Id], ⟨by omega, by simp; omega, by rw [if_pos e] at hp; exact hp⟩, by omega, by simp, rfl⟩, fun e => ⟨i + 1, m, ⟨by omega, by omega, by rw [if_neg e] at hp; exact hp⟩, by omega, rfl, rfl⟩⟩
  · simp -implicitDefEqProofs [↓gd_tt, ↓gd_ff, ↓gd_tf, ↓gd_ft, h]
    rw [h, List.drop_length, childF] at hp; rw [hp]

theorem rleaf_spec (l : List Q) (id : Int) (hl : l.length ≤ maxLen) (hl2 : l.length * 56 ≤ reachBytes) : PCall Try.prog 125 [encL b l, I id] (.d (.bool (has l id && decide (sonIds l id = [])))) := by
  refine pcallS (fn := Try.f125) [] [] mixed (bodyOf Try.f125) [.tmp 4] Try.func125 rfl rfl (by decide) 13 rfl (by kernel_rfl) ?_
  simp -implicitDefEqProofs [↓gd_tt, ↓gd_ff, ↓gd_tf, ↓gd_ft, bodyOf, Try.f125, stripC, stripL, stripM, onsOf, upto, hintOf, freeOf, List.replicate]
  refine callK_pcall (has_spec b l id hl) rfl rfl ?_
  simp -implicitDefEqProofs [↓gd_tt, ↓gd_ff, ↓gd_tf, ↓gd_ft]
  refine ⟨fun h => callK_pcall (rchildren_spec b l id hl hl2) rfl rfl ?_, fun h => by simp [h]⟩
  simp -implicitDefEqProofs [↓gd_tt, ↓gd_ff, ↓gd_tf, ↓gd_ft, h]

def there (l : List Q) (id : Int) : Int := if check l = 0 ∧ has l id = false then 8 else check l
theorem rthere_spec (l : List Q) (id : Int) (hl : l.length ≤ maxLen) : PCall Try.prog 111 [encL b l, I id] (.d (I (there l id))) := by
  refine pcallS (fn := Try.f111) [] [] mixed (bodyOf Try.f111) [.tmp 4] Try.func111 rfl rfl (by decide) 15 rfl (by kernel_rfl) ?_
  simp -implicitDefEqProofs [↓gd_tt, ↓gd_ff, ↓gd_tf, ↓gd_ft, bodyOf, Try.f111, stripC, stripL, stripM, onsOf, upto, hintOf, freeOf, List.replicate]
  refine callK_pcall (refCheck_spec b l hl) rfl rfl ?_
  simp -implicitDefEqProofs [↓gd_tt, ↓gd_ff, ↓gd_tf, ↓gd_ft]
  refine ⟨fun h => callK_pcall (has_spec b l id hl) rfl rfl ?_, fun h => by simp [there, h]⟩
  simp -implicitDefEqProofs [↓gd_tt, ↓gd_ff, ↓gd_tf, ↓gd_ft, there, h]

def childrenV (l : List Q) (id : Int) : V := if there l id = 0 then .tup [.d (encI false (sonIds l id)), .d (I 0)] else .tup [.nil 1, .d (I (there l id))]
theorem refChildren_spec (l : List Q) (id : Int) (hl : l.length ≤ maxLen) (hl2 : l.length * 56 ≤ reachBytes) : PCall Try.prog 49 [encL b l, I id] (childrenV l id) := by
  refine pcallS (fn := Try.f49) [] [] mixed (bodyOf Try.f49) [.tmp 4, .tmp 5] Try.func49 rfl rfl (by decide) 14 rfl (by kernel_rfl) ?_
  simp -implicitDefEqProofs [↓gd_tt, ↓gd_ff, ↓gd_tf, ↓gd_ft, bodyOf, Try.f49, stripC, stripL, stripM, onsOf, upto, hintOf, freeOf, List.replicate]
  refine callK_pcall (rthere_spec b l id hl) rfl rfl ?_
  simp -implicitDefEqProofs [↓gd_tt, ↓gd_ff, ↓gd_tf, ↓gd_ft]
  refine ⟨fun h => by simp [childrenV, h], fun h => callK_pcall (rchildren_spec b l id hl hl2) rfl rfl ?_⟩
  simp -implicitDefEqProofs [↓gd_tt, ↓gd_ff, ↓gd_tf, ↓gd_ft, childrenV, h]

def leafB (l : List Q) (id : Int) : Bool := has l id && decide (sonIds l id = [])
def leaves (l : List Q) : List Int := (l.filter fun q => decide (check l = 0) && leafB l q.Id).map (·.Id)
def leavesF (l : List Q) : List Q → List Int → List Int
  | [], m => m
  | q :: r, m => if check l = 0 ∧ leafB l q.Id = true then leavesF l r (m ++ [q.Id]) else leavesF l r m
theorem leavesF_eq (l : List Q) : ∀ (r : List Q) (m : List Int), leavesF l r m = m ++ (r.filter fun q => decide (check l = 0) && leafB l q.Id).map (·.Id)
  | [], m => by simp [leavesF]
  | q :: r, m => by
    unfold leavesF
    rw [leavesF_eq l r, leavesF_eq l r]
    by_cases h : check l = 0 ∧ leafB l q.Id = true
    · simp [h]
    · rw [if_neg h, List.filter_cons, if_neg (by simpa using h)]
theorem refLeaves_spec (l : List Q) (hl : l.length ≤ maxLen) (hl2 : l.length * 56 ≤ reachBytes) : PCall Try.prog 47 [encL b l] (.tup [.d (encI false (leaves l)), .d (I (check l))]) := by
  refine pcallS (fn := Try.f47) [] [] mixed (bodyOf Try.f47) [.tmp 2, .tmp 3] Try.func47 rfl rfl (by decide) 31 rfl (by kernel_rfl) ?_
  simp -implicitDefEqProofs [↓gd_tt, ↓gd_ff, ↓gd_tf, ↓gd_ft, bodyOf, Try.f47, stripC, stripL, stripM, onsOf, upto, hintOf, freeOf, List.replicate]
  refine callK_pcall (refCheck_spec b l hl) rfl rfl ?_
  simp -implicitDefEqProofs [↓gd_tt, ↓gd_ff, ↓gd_tf, ↓gd_ft]
  refine loopA mixed [false, false, false, false, false, true, false, true, false, false, false, false, true, true, true, true, true, true, true, true, true, true, true, true, true, true, true, true, true, true] (fun (j : Nat × List Int) => [(5, .own 1 (j.2.map I)), (12, .d (I j.1))]) (fun (j : Nat × List Int) => []) (fun (j : Nat × List Int) => j.1 ≤ l.length ∧ j.2.length ≤ j.1 ∧ leavesF l (l.drop j.1) j.2 = leaves l) (fun (j : Nat × List Int) => l.length - j.1) ((0, [])) (⟨Nat.zero_le _, Nat.le_refl _, by rw [leavesF_eq]; simp [leaves]⟩) (by simp) ?_
  rintro j hx
  obtain ⟨i, m⟩ := j
  obtain ⟨hi, hm, hp⟩ := hx
  simp only at hi hm hp ⊢
  rcases Nat.lt_or_eq_of_le hi with h | h
  · rw [List.drop_eq_getElem_cons h, leavesF] at hp
    have hb : (m.length + 1) * 8 ≤ 140737488355328 := by have : reachBytes = 140737488351232 := rfl; omega
    simp -implicitDefEqProofs [↓gd_tt, ↓gd_ff, ↓gd_tf, ↓gd_ft, h, wrap1 hl h]
    have nope : ¬ (check l = 0 ∧ leafB l l[i].Id = true) → ∃ a b, (a ≤ l.length ∧ b.length ≤ a ∧ leavesF l (l.drop a) b = leaves l) ∧ l.length - a < l.length - i ∧ m.map I = b.map I ∧ i + 1 = a := fun e =>
      ⟨i + 1, m, ⟨by omega, by omega, by rw [if_neg e] at hp; exact hp⟩, by omega, rfl, rfl⟩
    refine ⟨fun e => callK_pcall (rleaf_spec b l l[i].Id hl hl2) rfl rfl ?_, fun e => nope (by simp [e])⟩
    simp -implicitDefEqProofs [↓gd_tt, ↓gd_ff, ↓gd_tf, ↓gd_ft, wrap1 hl h]
    refine ⟨fun e2 e3 => ⟨hb, i + 1, m ++ [l[i].Id], ⟨by omega, by simp; omega, by rw [if_pos ⟨e, by simp [leafB, e2, e3]⟩] at hp; exact hp⟩, by omega, by simp, rfl⟩, fun e2 => nope fun hh => ?_⟩
    have hh2 := hh.2
    simp [leafB] at hh2
    exact e2 hh2.1 hh2.2
  · simp -implicitDefEqProofs [↓gd_tt, ↓gd_ff, ↓gd_tf, ↓gd_ft, h]
    rw [h, List.drop_length, leavesF] at hp; rw [hp]

/-- Drop -/
def dropF (id : Int) : List Q → List Q → List Q
  | [], m => m
  | q :: r, m => if q.Id = id then dropF id r m else dropF id r (m ++ [q])
theorem dropF_eq (id : Int) : ∀ (l m : List Q), dropF id l m = m ++ dropL l id
  | [], m => by simp [dropF, dropL]
  | q :: r, m => by
    unfold dropF
    rw [dropF_eq id r, dropF_eq id r]
    by_cases h : q.Id = id <;> simp [dropL, h]
def dropV (l : List Q) (id : Int) : V := if dropE l id = 0 then .tup [.d (encL false (dropL l id)), .d (I 0)] else .tup [.nil 7, .d (I (dropE l id))]
theorem refDrop_spec (l : List Q) (id : Int) (hl : l.length ≤ maxLen) (hl2 : l.length * 56 ≤ reachBytes) : PCall Try.prog 42 [encL b l, I id] (dropV l id) := by
  refine pcallS (fn := Try.f42) [] [] mixed (bodyOf Try.f42) [.tmp 4, .tmp 5] Try.func42 rfl rfl (by decide) 47 rfl (by kernel_rfl) ?_
  simp -implicitDefEqProofs [↓gd_tt, ↓gd_ff, ↓gd_tf, ↓gd_ft, bodyOf, Try.f42, stripC, stripL, stripM, onsOf, upto, hintOf, freeOf, List.replicate]
  refine callK_pcall (refCheck_spec b l hl) rfl rfl ?_
  simp -implicitDefEqProofs [↓gd_tt, ↓gd_ff, ↓gd_tf, ↓gd_ft]
  refine ⟨fun h => ⟨fun _ => by simp [dropV, dropE, h], fun h' => absurd h' h⟩, fun h => callK_pcall (has_spec b l id hl) rfl rfl ?_⟩
  simp -implicitDefEqProofs [↓gd_tt, ↓gd_ff, ↓gd_tf, ↓gd_ft, h]
  refine ⟨fun h2 => by simp [dropV, dropE, h, h2], fun h2 => ⟨fun h3 => ?_, fun h3 => callK_pcall (rchildren_spec b l id hl hl2) rfl rfl ?_⟩⟩
  · subst h3; simp [dropV, dropE, h, h2]
  simp -implicitDefEqProofs [↓gd_tt, ↓gd_ff, ↓gd_tf, ↓gd_ft, h]
  refine ⟨fun h4 => ?_, fun h4 => ?_⟩
  · have h5 : ¬ sonIds l id = [] := fun e => by rw [e] at h4; simp at h4
    simp [dropV, dropE, h, h2, h3, h5]
  have hv : dropV l id = .tup [.d (encL false (dropL l id)), .d (I 0)] := by simp [dropV, dropE, h, h2, h3, h4]
  refine loopA mixed [false, false, false, false, false, false, false, true, false, true, false, false, false, false, false, false, false, false, false, false, false, false, false, false, false, false, false, false, false, false, false, false, false, false, true, true, true, true, true, true, true, true, true, true, true, true, true] (fun (j : Nat × List Q) => [(7, .own 7 (j.2.map encQ)), (34, .d (I j.1))]) (fun (j : Nat × List Q) => []) (fun (j : Nat × List Q) => j.1 ≤ l.length ∧ j.2.length ≤ j.1 ∧ dropF id (l.drop j.1) j.2 = dropL l id) (fun (j : Nat × List Q) => l.length - j.1) ((0, [])) (⟨Nat.zero_le _, Nat.le_refl _, by rw [dropF_eq]; simp⟩) (by simp) ?_
  rintro j hx
  obtain ⟨i, m⟩ := j
  obtain ⟨hi, hm, hp⟩ := hx
  simp only at hi hm hp ⊢
  rcases Nat.lt_or_eq_of_le hi with k | k
  · rw [List.drop_eq_getElem_cons k, dropF] at hp
    have hb : (m.length + 1) * 56 ≤ 140737488355328 := by have : reachBytes = 140737488351232 := rfl; omega
    simp -implicitDefEqProofs [↓gd_tt, ↓gd_ff, ↓gd_tf, ↓gd_ft, k, wrap1 hl k]
    refine ⟨fun e => ⟨hb, i + 1, m ++ [l[i]], ⟨by omega, by simp; omega, by rw [if_neg e] at hp; exact hp⟩, by omega, by simp, rfl⟩, fun e => ⟨i + 1, m, ⟨by omega, by omega, by rw [if_pos e] at hp; exact hp⟩, by omega, rfl, rfl⟩⟩
  · simp -implicitDefEqProofs [↓gd_tt, ↓gd_ff, ↓gd_tf, ↓gd_ft, k]
    rw [k, List.drop_length, dropF] at hp
    rw [hv, hp]; simp

theorem rdone_mem {hp : List IObj} {id off n cap : Nat} {xs : List D} {K : V → List IObj → Prop} (l : List Q) (h : hp[id]? = some (.arr 7 xs)) (hc : n ≤ cap) (hl : off + cap ≤ xs.length) (he : (xs.drop off).take n = l.map encQ) (hm : l.length ≤ maxLen)
    (h0 : check l = 0 → K (.tup [.ref id 7 off n cap, .d (I 0)]) hp) (h1 : check l ≠ 0 → K (.tup [.nil 7, .d (I (check l))]) hp) : CallK Try.prog 110 [.ref id 7 off n cap] hp K := by
  refine callS (fn := Try.f110) [] [] mixed (bodyOf Try.f110) [.tmp 2, .tmp 3] Try.func110 rfl rfl (by decide) 10 rfl (by kernel_rfl) ?_
  simp -implicitDefEqProofs [↓gd_tt, ↓gd_ff, ↓gd_tf, ↓gd_ft, bodyOf, Try.f110, stripC, stripL, stripM, onsOf, upto, hintOf, freeOf, List.replicate]
  have hx : lendL hp [.ref id 7 off n cap] = some [encL true l] := by simp [h, he, hc, hl]
  refine callK_lend (refCheck_spec true l hm) hx rfl trivial ?_
  simp -implicitDefEqProofs [↓gd_tt, ↓gd_ff, ↓gd_tf, ↓gd_ft]
  exact ⟨h1, h0⟩

/-- a list, if it is right -/
def doneV' (m : List Q) : V := if check m = 0 then .tup [.d (encL false m), .d (I 0)] else .tup [.nil 7, .d (I (check m))]
def setV (l : List Q) (q : Q) : V := if setE l q = 0 then doneV' (setL l q) else .tup [.nil 7, .d (I (setE l q))]
theorem rset_spec (l : List Q) (q : Q) (hl : l.length ≤ maxLen) (hl2 : l.length * 56 ≤ reachBytes) : PCall Try.prog 38 [encL b l, encQ q] (setV l q) := by
  refine pcallS (fn := Try.f38) [(33, 1)] [] mixed (bodyOf Try.f38) [.tmp 4, .tmp 5] Try.func38 rfl rfl (by decide) 42 rfl (by kernel_rfl) ?_
  simp -implicitDefEqProofs [↓gd_tt, ↓gd_ff, ↓gd_tf, ↓gd_ft, bodyOf, Try.f38, stripC, stripL, stripM, onsOf, upto, hintOf, freeOf, List.replicate]
  refine callK_pcall (refCheck_spec b l hl) rfl rfl ?_
  simp -implicitDefEqProofs [↓gd_tt, ↓gd_ff, ↓gd_tf, ↓gd_ft]
  refine callK_pcall (place_spec b l q.Id hl) rfl rfl ?_
  by_cases h : check l = 0
  · by_cases h1 : place l q.Id < 0
    · have hE : setE l q = 8 := by simp [setE, h, has, show ¬ 0 ≤ place l q.Id by omega]
      simp -implicitDefEqProofs [↓gd_tt, ↓gd_ff, ↓gd_tf, ↓gd_ft, h, h1, setV, hE]
    · obtain ⟨p1, p2⟩ := place_lt (l := l) (id := q.Id) (by omega)
      obtain ⟨k, hk⟩ : ∃ k : Nat, place l q.Id = (k : Int) := ⟨(place l q.Id).toNat, by omega⟩
      have hkl : k < l.length := by omega
      have hh : has l q.Id = true := by simp [has, hk]
      have hf : find l q.Id = l[k] := by simp [find, hk, hkl]
      have hs : setL l q = l.set k q := by simp [setL, hk]
      rw [hk]
      have hn : l ≠ [] := by rintro rfl; simp at hkl
      simp -implicitDefEqProofs [↓gd_tt, ↓gd_ff, ↓gd_tf, ↓gd_ft, h, hkl, hn]
      have h64 := check_len h
      refine ⟨fun e => by omega, fun e => ?_, fun e => ⟨by omega, fun _ cap hcap => ?_⟩⟩
      · have hE : setE l q = 4 := by simp [setE, h, hh, hf, e]
        simp [setV, hE]
      have hE : setE l q = 0 := by simp [setE, h, hh, hf, e]
      have g2 : ∀ R : List D, (l.map encQ ++ R)[k]? = some (encQ l[k]) := fun R => by
        rw [List.getElem?_append_left (by simpa using hkl)]; simp [hkl]
      rw [g2]
      have k5 : (setL l q).map encQ = (l.map encQ).set k (encQ q) := by rw [hs]; simp [List.map_set]
      refine rdone_mem (off := 0) (n := l.length) (setL l q) rfl hcap (by simp; omega) (by rw [k5]; simp) (by simp [setL]; exact hl) (fun c0 => ?_) (fun c0 => ?_)
      · have hv : setV l q = .tup [.d (encL false (setL l q)), .d (I 0)] := by simp [setV, hE, doneV', c0]
        rw [hv]
        simp -implicitDefEqProofs [↓gd_tt, ↓gd_ff, ↓gd_tf, ↓gd_ft, hcap, k5]
      · have hv : setV l q = .tup [.nil 7, .d (I (check (setL l q)))] := by simp [setV, hE, doneV', c0]
        rw [hv]
        simp -implicitDefEqProofs [↓gd_tt, ↓gd_ff, ↓gd_tf, ↓gd_ft]
  · have hE : setE l q = check l := by simp [setE, h]
    simp -implicitDefEqProofs [↓gd_tt, ↓gd_ff, ↓gd_tf, ↓gd_ft, h, setV, hE]

end Go.Idl
