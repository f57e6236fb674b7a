/- The program's queues: Add, Set, Drop. -/
import Derived.Test.YtdhifabhjlbjiaaPE
import Derived.Test.YtdhifabhjlbjiaaMQall
set_option linter.all false
namespace Go.Idl
open Go.Proofs
set_option linter.unusedSimpArgs false
set_option linter.unusedVariables false
set_option maxRecDepth 8000
variable (b : Bool)



/-- a list, if it is right -/
def doneP (m : List Q) : V := if check m = 0 then .tup [.d (encL false m), .d (I 0)] else .tup [.nil 7, .d (I (check m))]
def addP (l : List Q) (q : Q) : V := if addE l q = 0 then doneP (ins l q) else .tup [.nil 7, .d (I (addE l q))]
theorem small {α : Type} {l : List α} (h : l.length ≤ 64) : l.length ≤ 140737488355328 := by omega
set_option maxHeartbeats 4000000 in
theorem qadd_spec (l : List Q) (q : Q) (hl : l.length ≤ maxLen) : PCall Try.prog 33 [encL b l, encQ q] (addP l q) := by
  refine pcallS (fn := Try.f33) [] [(12, 1001005)] mixed (bodyOf Try.f33) [.tmp 4, .tmp 5] Try.func33 rfl rfl (by decide) 46 rfl (by kernel_rfl) ?_
  simp -implicitDefEqProofs [↓gd_tt, ↓gd_ff, ↓gd_tf, ↓gd_ft, bodyOf, Try.f33, stripC, stripL, stripM, onsOf, upto, hintOf, freeOf, List.replicate]
  refine callK_pcall (qcheck_spec b l hl) rfl rfl ?_
  simp -implicitDefEqProofs [↓gd_tt, ↓gd_ff, ↓gd_tf, ↓gd_ft]
  refine ⟨fun hc => by simp [addP, addE, hc], fun hc => ?_⟩
  have hr := check_rises hc
  have h64 := check_len hc
  refine callK_pcall (qfind_spec b l q.Id (small h64.2) hr) rfl rfl ?_
  simp -implicitDefEqProofs [↓gd_tt, ↓gd_ff, ↓gd_tf, ↓gd_ft]
  refine callK_pcall (qfind_spec b l q.Par (small h64.2) hr) rfl rfl ?_
  simp -implicitDefEqProofs [↓gd_tt, ↓gd_ff, ↓gd_tf, ↓gd_ft]
  refine ⟨fun e => by simp [addP, addE, hc, e], fun e1 => ⟨fun e => by simp [addP, addE, hc, e1, show 64 ≤ l.length by omega], fun e2 => ⟨fun e => by simp [addP, addE, hc, e1, show ¬ 64 ≤ l.length by omega, e], fun e3 => ?_⟩⟩⟩
  have hE : addE l q = 0 := by simp [addE, hc, e1, show ¬ 64 ≤ l.length by omega, e3]
  have hpos : pos l q.Id ≤ l.length := pos_le _ _
  refine clone_mem b l h64.1 h64.2 fun cap hcap => ?_
  refine ⟨⟨_, rfl⟩, ?_⟩
  rw [anyGo]
  simp -implicitDefEqProofs [↓gd_tt, ↓gd_ff, ↓gd_tf, ↓gd_ft, anyL]
  refine insert_mem (xs := l.map encQ ++ List.replicate (cap - l.length) (encQ q0)) rfl hcap (by simp; omega) hpos h64.1 h64.2 fun id' cap' hp' ys k1 k2 k3 k4 => ?_
  ((try simp only [kont_run]); rw [anyGo]; simp -implicitDefEqProofs [↓gd_tt, ↓gd_ff, ↓gd_tf, ↓gd_ft, anyL])
  have k5 : List.take (l.length + 1) ys = (ins l q).map encQ := by
    rw [k4, List.take_append_of_le_length (by simpa using hpos), List.drop_append_of_le_length (by simpa using hpos), List.take_append_of_le_length (by simp), List.take_of_length_le (l := List.drop _ _) (by simp)]
    simp [ins, List.map_take, List.map_drop]
  have k7 : l.length + 1 ≤ ys.length := by omega
  have k6 : (ins l q).length ≤ maxLen := by
    have : 66 ≤ maxLen := by decide
    simp [ins]; omega
  refine made_mem (off := 0) (n := l.length + 1) (ins l q) k1 k2 (by omega) (by simpa using k5) k6 (fun c0 => ?_) (fun c0 => ?_)
  · have hv : addP l q = .tup [.d (encL false (ins l q)), .d (I 0)] := by simp [addP, hE, doneP, c0]
    rw [hv]
    ((try simp only [kont_run]); rw [anyGo]; simp -implicitDefEqProofs [↓gd_tt, ↓gd_ff, ↓gd_tf, ↓gd_ft, anyL])
    constructor <;> (((try simp only [kont_run]); rw [anyGo]; simp -implicitDefEqProofs [↓gd_tt, ↓gd_ff, ↓gd_tf, ↓gd_ft, anyL]); ((try simp only [kont_run]); rw [anyGo]; simp -implicitDefEqProofs [↓gd_tt, ↓gd_ff, ↓gd_tf, ↓gd_ft, anyL]); ((try simp only [kont_run]); rw [anyGo]; simp -implicitDefEqProofs [↓gd_tt, ↓gd_ff, ↓gd_tf, ↓gd_ft, anyL]); rw [anyGo]; simp -implicitDefEqProofs [↓gd_tt, ↓gd_ff, ↓gd_tf, ↓gd_ft, k1, k2, k3, k5, k7])
  · have hv : addP l q = .tup [.nil 7, .d (I (check (ins l q)))] := by simp [addP, hE, doneP, c0]
    rw [hv]
    ((try simp only [kont_run]); rw [anyGo]; simp -implicitDefEqProofs [↓gd_tt, ↓gd_ff, ↓gd_tf, ↓gd_ft, anyL])
    constructor <;> (((try simp only [kont_run]); rw [anyGo]; simp -implicitDefEqProofs [↓gd_tt, ↓gd_ff, ↓gd_tf, ↓gd_ft, anyL]); ((try simp only [kont_run]); rw [anyGo]; simp -implicitDefEqProofs [↓gd_tt, ↓gd_ff, ↓gd_tf, ↓gd_ft, anyL]); ((try simp only [kont_run]); rw [anyGo]; simp -implicitDefEqProofs [↓gd_tt, ↓gd_ff, ↓gd_tf, ↓gd_ft, anyL]); rw [anyGo]; simp -implicitDefEqProofs [↓gd_tt, ↓gd_ff, ↓gd_tf, ↓gd_ft])

def setP (l : List Q) (q : Q) : V := if setE l q = 0 then doneP (setL l q) else .tup [.nil 7, .d (I (setE l q))]
theorem qset_spec (l : List Q) (q : Q) (hl : l.length ≤ maxLen) : PCall Try.prog 35 [encL b l, encQ q] (setP l q) := by
  refine pcallS (fn := Try.f35) [] [] mixed (bodyOf Try.f35) [.tmp 4, .tmp 5] Try.func35 rfl rfl (by decide) 42 rfl (by kernel_rfl) ?_
  simp -implicitDefEqProofs [↓gd_tt, ↓gd_ff, ↓gd_tf, ↓gd_ft, bodyOf, Try.f35, stripC, stripL, stripM, onsOf, upto, hintOf, freeOf, List.replicate]
  refine callK_pcall (qcheck_spec b l hl) rfl rfl ?_
  simp -implicitDefEqProofs [↓gd_tt, ↓gd_ff, ↓gd_tf, ↓gd_ft]
  refine ⟨fun hc => by simp [setP, setE, hc], fun hc => ?_⟩
  have hr := check_rises hc
  have h64 := check_len hc
  refine callK_pcall (qfind_spec b l q.Id (small h64.2) hr) rfl rfl ?_
  simp -implicitDefEqProofs [↓gd_tt, ↓gd_ff, ↓gd_tf, ↓gd_ft]
  refine ⟨fun e => by simp [setP, setE, hc, e], fun e1 => ?_⟩
  obtain ⟨p1, p2⟩ := set_pos hr e1
  obtain ⟨p3, p4, p5⟩ := place_pos hr e1
  have p6 := p2 p4
  simp -implicitDefEqProofs [↓gd_tt, ↓gd_ff, ↓gd_tf, ↓gd_ft, p4]
  refine ⟨fun e => by simp [setP, setE, hc, e1, p6, e], fun e2 => ?_⟩
  have hE : setE l q = 0 := by simp [setE, hc, e1, p6, e2]
  refine clone_mem b l h64.1 h64.2 fun cap hcap => ?_
  have g1 : pos l q.Id < l.length + (cap - l.length) := by omega
  have g2 : ∀ R : List D, (l.map encQ ++ R)[pos l q.Id]? = some (encQ l[pos l q.Id]) := fun R => by
    rw [List.getElem?_append_left (by simpa using p4)]; simp [p4]
  simp -implicitDefEqProofs [↓gd_tt, ↓gd_ff, ↓gd_tf, ↓gd_ft, p4, hcap, g1, g2]
  have k5 : (setL l q).map encQ = (l.map encQ).set (pos l q.Id) (encQ q) := by rw [p1]; simp [List.map_set]
  refine made_mem (off := 0) (n := l.length) (setL l q) rfl hcap (by simp; omega) (by rw [k5]; simp) (by simp [setL]; exact hl) (fun c0 => ?_) (fun c0 => ?_)
  · have hv : setP l q = .tup [.d (encL false (setL l q)), .d (I 0)] := by simp [setP, hE, doneP, c0]
    rw [hv]
    simp -implicitDefEqProofs [↓gd_tt, ↓gd_ff, ↓gd_tf, ↓gd_ft, hcap, k5]
  · have hv : setP l q = .tup [.nil 7, .d (I (check (setL l q)))] := by simp [setP, hE, doneP, c0]
    rw [hv]
    simp -implicitDefEqProofs [↓gd_tt, ↓gd_ff, ↓gd_tf, ↓gd_ft]

theorem sonsF_ids (id : Int) : ∀ (l : List Q) (i : Nat), (sonsF id l i).map (·.2.Id) = sonIds l id
  | [], _ => rfl
  | q :: r, i => by
    have ih := sonsF_ids id r (i + 1)
    unfold sonIds at ih ⊢
    by_cases h : q.Par = id <;> simp [sonsF, h, ih]
theorem leaf_nil {l : List Q} {id : Int} : (sons l id).length = 0 ↔ sonIds l id = [] := by
  rw [← sonsF_ids id l 0]; simp [sons]

theorem qleaf_spec (l : List Q) (id : Int) (hl : l.length ≤ maxLen) : PCall Try.prog 114 [encL b l, I id] (.d (.bool (decide (sonIds l id = [])))) := by
  refine pcallS (fn := Try.f114) [] [] mixed (bodyOf Try.f114) [.cell 4 4] Try.func114 rfl rfl (by decide) 8 rfl (by kernel_rfl) ?_
  simp -implicitDefEqProofs [↓gd_tt, ↓gd_ff, ↓gd_tf, ↓gd_ft, bodyOf, Try.f114, stripC, stripL, stripM, onsOf, upto, hintOf, freeOf, List.replicate]
  refine children_spec b l id _ _ ?_
  simp -implicitDefEqProofs [↓gd_tt, ↓gd_ff, ↓gd_tf, ↓gd_ft]
  refine rangeY mixed (children_yields b l id 1 2 hl) (by simp) (by simp) (by simp) (by simp) (by simp) (by intro y hy; obtain ⟨p, _, rfl⟩ := List.mem_map.1 hy; simp [yQ]) (fun k hp => hp = [.var [.d (.bool false)], .var [.d (encL b l)], .var [.d (I id)]] ∧ k = 0) ⟨rfl, rfl⟩ (by rintro k hp ⟨rfl, _⟩; simp) ?_ ?_
  · rintro k hp ⟨rfl, rfl⟩ hi L0 L1
    have hk' : 0 < (sons l id).length := by simpa using hi
    have hn : ¬ sonIds l id = [] := fun e => by rw [leaf_nil.2 e] at hk'; omega
    simp -implicitDefEqProofs [↓gd_tt, ↓gd_ff, ↓gd_tf, ↓gd_ft, yQ, hn]
  · rintro hp' ⟨rfl, hk⟩
    have hn : sonIds l id = [] := leaf_nil.1 (by simpa using hk)
    simp -implicitDefEqProofs [↓gd_tt, ↓gd_ff, ↓gd_tf, ↓gd_ft, hn]

def dropP (l : List Q) (id : Int) : V := if dropE l id = 0 then .tup [.d (encL false (dropL l id)), .d (I 0)] else .tup [.nil 7, .d (I (dropE l id))]
theorem qdrop_spec (l : List Q) (id : Int) (hl : l.length ≤ maxLen) : PCall Try.prog 41 [encL b l, I id] (dropP l id) := by
  refine pcallS (fn := Try.f41) [] [] mixed (bodyOf Try.f41) [.tmp 4, .tmp 5] Try.func41 rfl rfl (by decide) 35 rfl (by kernel_rfl) ?_
  simp -implicitDefEqProofs [↓gd_tt, ↓gd_ff, ↓gd_tf, ↓gd_ft, bodyOf, Try.f41, stripC, stripL, stripM, onsOf, upto, hintOf, freeOf, List.replicate]
  refine callK_pcall (qcheck_spec b l hl) rfl rfl ?_
  simp -implicitDefEqProofs [↓gd_tt, ↓gd_ff, ↓gd_tf, ↓gd_ft]
  refine ⟨fun hc => by simp [dropP, dropE, hc], fun hc => ?_⟩
  have hr := check_rises hc
  have h64 := check_len hc
  refine callK_pcall (qfind_spec b l id (small h64.2) hr) rfl rfl ?_
  simp -implicitDefEqProofs [↓gd_tt, ↓gd_ff, ↓gd_tf, ↓gd_ft]
  refine ⟨fun e => by simp [dropP, dropE, hc, e], fun e1 => ⟨fun e2 => by subst e2; simp [dropP, dropE, hc, e1], fun e2 => callK_pcall (qleaf_spec b l id hl) rfl rfl ?_⟩⟩
  simp -implicitDefEqProofs [↓gd_tt, ↓gd_ff, ↓gd_tf, ↓gd_ft]
  refine ⟨fun e3 => by simp [dropP, dropE, hc, e1, e2, e3], fun e3 => ?_⟩
  have hE : dropE l id = 0 := by simp [dropE, hc, e1, e2, e3]
  obtain ⟨p3, p4, p5⟩ := place_pos hr e1
  refine clone_mem b l h64.1 h64.2 fun cap hcap => ?_
  have w1 : IntKind.i64.wrap ((pos l id : Int) + 1) = (pos l id : Int) + 1 := wr (by omega) (by omega)
  simp -implicitDefEqProofs [↓gd_tt, ↓gd_ff, ↓gd_tf, ↓gd_ft, w1]
  refine delete_mem (xs := l.map encQ ++ List.replicate (cap - l.length) (encQ q0)) rfl hcap (by simp; omega) p4 h64.2 fun hp' ys k1 k2 k3 => ?_
  have k5 : List.take (l.length - 1) ys = (dropL l id).map encQ := by
    rw [k3, drop_pos hr e1, List.take_append_of_le_length (by simp; omega), List.drop_append_of_le_length (by simp; omega), List.take_append_of_le_length (by simp), List.take_of_length_le (l := List.drop _ _) (by simp)]
    simp [List.map_take, List.map_drop]
  have hv : dropP l id = .tup [.d (encL false (dropL l id)), .d (I 0)] := by simp [dropP, hE]
  have k6 : l.length - 1 ≤ cap := by omega
  have k7 : l.length - 1 ≤ ys.length := by omega
  rw [hv]
  simp -implicitDefEqProofs [↓gd_tt, ↓gd_ff, ↓gd_tf, ↓gd_ft, k1, k5, k6, k7]
end Go.Idl
