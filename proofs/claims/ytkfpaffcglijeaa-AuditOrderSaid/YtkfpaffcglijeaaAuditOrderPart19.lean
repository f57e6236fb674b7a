/- The program's audit: the queues that are over their quotas.; Maps as plain lists: what stands at a key, what is put, what is taken out.; The program's audit: nodes whose leases are beyond them.; How much there is in a state that is audited; places in its lists. No program here.; The document's audit: nodes, leases, times.; The document's audit: Check.; The document's answer for queues: Add.; What the statements on queues themselves compute: same, Ints, Has.; The statements on audits: states twinned and compared.; The program's audit: the makers of what it ranges over.; The program's audit: cores that stand in two leases.; The program's audit: leases that are astray. -/
import Derived.Test.YtkfpaffcglijeaaAuditOrderPart18
import Derived.Test.YtkfpaffcglijeaaAuditOrderPart13
import Derived.Test.YtkfpaffcglijeaaAuditOrderPart16
import Derived.Test.YtkfpaffcglijeaaAuditOrderPart15
set_option linter.all false
section
namespace Go.Idl
open Go.Proofs
set_option linter.unusedSimpArgs false
set_option linter.unusedVariables false
set_option maxRecDepth 8000
set_option maxHeartbeats 2000000
variable (b : Bool)

/-- a list that grows, in a variable -/
def lv (xs : List Int) : V := if xs = [] then .nil 1 else .own 1 (xs.map fun n => .int .i64 n)
theorem lv_tup (xs : List Int) : (lv xs).isTup = false := by unfold lv; split <;> rfl
theorem lv_lt (n : Nat) (xs : List Int) : V.lt n (lv xs) = true := by unfold lv; split <;> rfl
theorem lv_allD (xs : List Int) (m : Int) : allD [(lv xs).cp, .d (I m)] = some [encI false xs, I m] := by
  unfold lv
  split
  · rename_i h; subst h; rfl
  · rfl
theorem lv_bare (xs : List Int) : V.bare (lv xs).cp = true := by
  unfold lv
  split <;> rfl
theorem lv_cpcp (xs : List Int) : (lv xs).cp.cp = (lv xs).cp := by
  unfold lv
  split <;> rfl
def cpuC (s : Sta) : List V := s.qs.map fun q => lv (cpuAt s.qs q.Id s.ls)
def memC (s : Sta) : List V := s.qs.map fun q => lv (memAt s.qs q.Id s.ls)
theorem cpu_wf (l : List Q) (id : Int) (ls : List Le) (hw : ∀ x ∈ ls, x.cs.length ≤ maxLen) : ∀ n ∈ cpuAt l id ls, In64 n := fun n hn => by
  obtain ⟨x, hx, rfl⟩ := List.mem_map.1 hn
  have := hw x (List.mem_filter.1 hx).1
  have hml : maxLen = 9223372036854775807 := rfl
  exact ⟨by omega, by omega⟩
theorem mem_wf (l : List Q) (id : Int) (ls : List Le) (hw : ∀ x ∈ ls, In64 x.m) : ∀ n ∈ memAt l id ls, In64 n := fun n hn => by
  obtain ⟨x, hx, rfl⟩ := List.mem_map.1 hn
  exact hw x (List.mem_filter.1 hx).1
theorem cpu_len (l : List Q) (id : Int) (ls : List Le) : (cpuAt l id ls).length ≤ ls.length := by
  unfold cpuAt; rw [List.length_map]; exact List.length_filter_le _ _
theorem mem_len (l : List Q) (id : Int) (ls : List Le) : (memAt l id ls).length ≤ ls.length := by
  unfold memAt; rw [List.length_map]; exact List.length_filter_le _ _
theorem queues_yields (s : Sta) (ka kc km ja jb : Nat) (hl : s.qs.length ≤ maxLen) (hll : s.ls.length ≤ maxLen) (hw1 : ∀ x ∈ s.ls, x.cs.length ≤ maxLen) (hw2 : ∀ x ∈ s.ls, In64 x.m) :
    Yields Try.prog 101 [.ptr ka 0, .ptr kc 0, .ptr km 0] (fun hp => hp[ka]? = some (stC b s) ∧ hp[kc]? = some (.var [.ref ja 1 0 s.qs.length s.qs.length]) ∧ hp[km]? = some (.var [.ref jb 1 0 s.qs.length s.qs.length]) ∧ hp[ja]? = some (.var (cpuC s)) ∧ hp[jb]? = some (.var (memC s))) ((s.qs.filter (overQ s.qs s.ls)).map fun q => [.d (encV (2, q.Id))]) := by
  intro y hp J E hy h0 hJ hround hend
  obtain ⟨g1, g2, g3, g4, g5, g6, g7⟩ := hJ 0 hp h0
  have hka : ka < hp.length ∧ kc < hp.length ∧ km < hp.length ∧ ja < hp.length ∧ jb < hp.length := ⟨(List.getElem?_eq_some_iff.1 g3).1, (List.getElem?_eq_some_iff.1 g4).1, (List.getElem?_eq_some_iff.1 g5).1, (List.getElem?_eq_some_iff.1 g6).1, (List.getElem?_eq_some_iff.1 g7).1⟩
  refine callS (fn := Try.f101) [] [(3, 23)] mixed (bodyOf Try.f101) [] Try.func101 rfl rfl (by decide) 38 rfl (by kernel_rfl) ?_
  simp -implicitDefEqProofs [↓gd_tt, ↓gd_ff, ↓gd_tf, ↓gd_ft, bodyOf, Try.f101, stripC, stripL, stripM, onsOf, upto, hintOf, freeOf, List.replicate, g3]
  refine loopA mixed [false, false, false, false, false, true, true, false, false, false, true, true, true, true, true, true, true, true, true, true, true, true, true, true, true, true, true, true, true, true, true, true, true, true, true, true, true, true, true, true, true, true] (fun (x : Nat × Nat × List IObj) => [(10, .d (I x.1))]) (fun (x : Nat × Nat × List IObj) => x.2.2) (fun (x : Nat × Nat × List IObj) => x.1 ≤ s.qs.length ∧ J x.2.1 x.2.2 ∧ x.2.1 ≤ (s.qs.filter (overQ s.qs s.ls)).length ∧ (s.qs.drop x.1).filter (overQ s.qs s.ls) = (s.qs.filter (overQ s.qs s.ls)).drop x.2.1) (fun (x : Nat × Nat × List IObj) => s.qs.length - x.1) ((0, 0, hp)) (⟨Nat.zero_le _, h0, Nat.zero_le _, rfl⟩) (by simp; (repeat' apply And.intro) <;> first | omega | assumption) ?_
  rintro x hx
  obtain ⟨i, k, hp1⟩ := x
  obtain ⟨hi, hj, hk, hq⟩ := hx
  simp only at hi hj hk hq ⊢
  obtain ⟨p1, p2, p3, p4, p5, p6, p7⟩ := hJ k hp1 hj
  have ha1 : ka < hp1.length := by omega
  have ha2 : kc < hp1.length := by omega
  have ha3 : km < hp1.length := by omega
  have ha4 : ja < hp1.length := by omega
  have ha5 : jb < hp1.length := by omega
  rcases Nat.lt_or_eq_of_le hi with h | h
  · have hwi := wrap1 hl h
    have hc : (cpuC s)[i]? = some (lv (cpuAt s.qs s.qs[i].Id s.ls)) := by unfold cpuC; rw [List.getElem?_map, List.getElem?_eq_getElem h]; rfl
    have hm : (memC s)[i]? = some (lv (memAt s.qs s.qs[i].Id s.ls)) := by unfold memC; rw [List.getElem?_map, List.getElem?_eq_getElem h]; rfl
    have hb1 := beyond_spec false (cpuAt s.qs s.qs[i].Id s.ls) s.qs[i].QC (Nat.le_trans (cpu_len _ _ _) hll) (cpu_wf _ _ _ hw1)
    have hb2 := beyond_spec false (memAt s.qs s.qs[i].Id s.ls) s.qs[i].QM (Nat.le_trans (mem_len _ _ _) hll) (mem_wf _ _ _ hw2)
    simp -implicitDefEqProofs [↓gd_tt, ↓gd_ff, ↓gd_tf, ↓gd_ft, h, p3, p4, p5, p6, p7, hwi, List.getElem?_append_left ha1, List.getElem?_append_left ha2, List.getElem?_append_left ha3, List.getElem?_append_left ha4, List.getElem?_append_left ha5, hc, hm, lv_tup, lv_bare, lv_cpcp]
    refine ⟨by omega, by omega, free_pcall hb1 (lv_allD _ _) rfl ?_⟩
    simp -implicitDefEqProofs [↓gd_tt, ↓gd_ff, ↓gd_tf, ↓gd_ft, h, p3, p4, p5, p6, p7, hwi, List.getElem?_append_left ha1, List.getElem?_append_left ha2, List.getElem?_append_left ha3, List.getElem?_append_left ha4, List.getElem?_append_left ha5, hc, hm, lv_tup, lv_bare, lv_cpcp]
    refine ⟨fun e => ?_, fun e => ?_⟩
    · refine ⟨by omega, by omega, free_pcall hb2 (lv_allD _ _) rfl ?_⟩
      simp -implicitDefEqProofs [↓gd_tt, ↓gd_ff, ↓gd_tf, ↓gd_ft, h, p3, p4, p5, p6, p7, hwi, List.getElem?_append_left ha1, List.getElem?_append_left ha2, List.getElem?_append_left ha3, List.getElem?_append_left ha4, List.getElem?_append_left ha5, hc, hm, lv_tup, lv_bare, lv_cpcp]
      refine ⟨fun e2 => ?_, fun e2 => ?_⟩
      · obtain ⟨hk3, hat, hq2⟩ := filter_at h hq (by simp [overQ, e2])
        have hr := hround k hp1 hj (by simpa using hk3)
        simp only [List.getElem_map, hat] at hr
        refine yieldA hr p1 p2 hy (by simp) (by simp) fun b2 hp2 q1 q2 q3 q4 => ?_
        simp -implicitDefEqProofs [↓gd_tt, ↓gd_ff, ↓gd_tf, ↓gd_ft, hwi]
        refine ⟨fun e2 => ⟨by omega, by rw [← q1, List.take_left]; exact q4 e2⟩, fun e2 => ?_⟩
        exact ⟨i + 1, k + 1, hp2, ⟨by omega, q3 e2, hk3, hq2⟩, by omega, rfl, by (repeat' apply And.intro) <;> omega, by rw [q1]; exact (hJ _ _ (q3 e2)).2.1, by omega, by simp, by first | omega | simp⟩
      · have hq2 := filter_past h hq (by simp [overQ, e, e2])
        exact ⟨i + 1, k, hp1, ⟨by omega, hj, hk, hq2⟩, by omega, rfl, by (repeat' apply And.intro) <;> omega, by rw [p1]; exact p2, by omega, by simp, by first | omega | simp⟩
    · obtain ⟨hk3, hat, hq2⟩ := filter_at h hq (by simp [overQ, e])
      have hr := hround k hp1 hj (by simpa using hk3)
      simp only [List.getElem_map, hat] at hr
      refine yieldA hr p1 p2 hy (by simp) (by simp) fun b2 hp2 q1 q2 q3 q4 => ?_
      simp -implicitDefEqProofs [↓gd_tt, ↓gd_ff, ↓gd_tf, ↓gd_ft, hwi]
      refine ⟨fun e2 => ⟨by omega, by rw [← q1, List.take_left]; exact q4 e2⟩, fun e2 => ?_⟩
      exact ⟨i + 1, k + 1, hp2, ⟨by omega, q3 e2, hk3, hq2⟩, by omega, rfl, by (repeat' apply And.intro) <;> omega, by rw [q1]; exact (hJ _ _ (q3 e2)).2.1, by omega, by simp, by first | omega | simp⟩
  · rw [h, List.drop_length, List.filter_nil] at hq
    simp -implicitDefEqProofs [↓gd_tt, ↓gd_ff, ↓gd_tf, ↓gd_ft, h]
    have hk2 : k = (s.qs.filter (overQ s.qs s.ls)).length := by
      have := congrArg List.length hq; simp at this; omega
    subst hk2
    exact ⟨by omega, by rw [← p1, List.take_length]; exact hend hp1 (by simpa using hj)⟩
theorem renL_rep (ρ : List Nat) (n z : Nat) : V.renL ρ (List.replicate n (.nil z)) = List.replicate n (.nil z) := by
  induction n with
  | zero => rfl
  | succ n ih => simp [List.replicate_succ, V.renL, V.ren, ih]
theorem lv_cases (xs : List Int) : (xs = [] ∧ lv xs = .nil 1) ∨ lv xs = .own 1 (xs.map fun n => .int .i64 n) := by
  unfold lv
  split
  · rename_i h; exact .inl ⟨h, rfl⟩
  · exact .inr rfl
theorem lv_modify {C : List (List Int)} {j : Nat} {v : Int} (h : j < C.length) : (C.modify j (· ++ [v])).map lv = (C.map lv).set j (.own 1 (C[j].map (fun n => .int .i64 n) ++ [.int .i64 v])) := by
  refine List.ext_getElem? fun i => ?_
  rw [List.getElem?_map, List.getElem?_modify, List.getElem?_set, List.getElem?_map]
  by_cases e : j = i
  · subst e
    rw [List.getElem?_eq_getElem h]
    simp [lv, h]
  · cases C[i]? <;> simp [e]
theorem cpuL_zero (s : Sta) : (cpuL s 0).map lv = List.replicate s.qs.length (.nil 1) := by
  unfold cpuL
  rw [List.map_map]
  exact List.eq_replicate_iff.2 ⟨by simp, fun x hx => by
    obtain ⟨q, _, rfl⟩ := List.mem_map.1 hx
    simp [cpuAt, lv]⟩
theorem memL_zero (s : Sta) : (memL s 0).map lv = List.replicate s.qs.length (.nil 1) := by
  unfold memL
  rw [List.map_map]
  exact List.eq_replicate_iff.2 ⟨by simp, fun x hx => by
    obtain ⟨q, _, rfl⟩ := List.mem_map.1 hx
    simp [memAt, lv]⟩
theorem cpuL_full (s : Sta) : (cpuL s s.ls.length).map lv = cpuC s := by
  unfold cpuL cpuC
  rw [List.take_length, List.map_map]; rfl
theorem memL_full (s : Sta) : (memL s s.ls.length).map lv = memC s := by
  unfold memL memC
  rw [List.take_length, List.map_map]; rfl
theorem constV_nilf {P : Program} {t : TypeId} : constV P t .nilFunc = .d (.con .nilFunc) := rfl
theorem ltL_rep (m n z : Nat) : V.ltL m (List.replicate n (.nil z)) = true := by
  induction n with
  | zero => rfl
  | succ n ih => simp [List.replicate_succ, V.ltL, V.lt, ih]
theorem ltL_lv (m : Nat) : ∀ C : List (List Int), V.ltL m (C.map lv) = true
  | [] => rfl
  | x :: C => by simp [V.ltL, lv_lt, ltL_lv m C]
theorem set_td {α : Type} {C : List α} {j : Nat} (h : j < C.length) (x y : α) : List.take j (C.set j x) ++ y :: List.drop (j + 1) (C.set j x) = C.set j y := by
  rw [List.take_set_of_le (Nat.le_refl _), List.drop_set_of_lt (by omega), List.set_eq_take_append_cons_drop, if_pos h]
theorem queues_spec (s : Sta) (hc : check s.qs = 0) (hl6 : s.ls.length ≤ 1000000) {K : V → List IObj → Prop} (hk : K (.fn (.func 101) [.ptr 0 0, .ptr 3 0, .ptr 4 0]) [stC b s, .var (cpuC s), .var (memC s), .var [.ref 1 1 0 s.qs.length s.qs.length], .var [.ref 2 1 0 s.qs.length s.qs.length]]) :
    CallK Try.prog 45 [.d (encSt b s)] [] K := by
  have hll : s.ls.length ≤ maxLen := Nat.le_trans hl6 (by decide)
  have hf := check_form hc
  have h64 := check_len hc
  refine callS (fn := Try.f45) [(11, 2), (15, 2)] [(1, 2000000), (7, 2000000), (8, 2000000)] mixed (bodyOf Try.f45) [.tmp 2] Try.func45 rfl rfl (by decide) 54 rfl (by kernel_rfl) ?_
  simp -implicitDefEqProofs [↓gd_tt, ↓gd_ff, ↓gd_tf, ↓gd_ft, bodyOf, Try.f45, stripC, stripL, stripM, onsOf, upto, hintOf, freeOf, List.replicate]
  refine regionChR [(11, 2), (15, 2)] [3, 7, 8, 9, 10, 11] [3, 7, 8, 9, 10, 11] mixed (by kernel_rfl) ?_
  simp -implicitDefEqProofs [↓gd_tt, ↓gd_ff, ↓gd_tf, ↓gd_ft, stripL, stripM, onsOf, hintOf]
  refine x_endR ?e1 (fun K0 hK0 => ?_) ?_
  case refine_1 =>
    simp -implicitDefEqProofs [↓gd_tt, ↓gd_ff, ↓gd_tf, ↓gd_ft, lx_zero, lx_succ, ll_nil, ll_cons]
    have hb1 : 24 * (s.qs.length : Int) ≤ 281474976710656 := by omega
    have hb2 : (s.qs.length : Int) ≤ 9223372036854775807 := by omega
    simp only [hb1, hb2, true_and]
    (repeat' apply And.intro) <;> (apply hK0; first | exact St.le_refl _ | (refine St.le_ren' [0, 1, 2, 4, 3] rfl rfl ?_ rfl rfl; simp [IObj.ren, V.ren, V.renL, renL_rep]) | (refine St.le_ren' [0, 1, 3, 2, 4] rfl rfl ?_ rfl rfl; simp [IObj.ren, V.ren, V.renL, renL_rep]) | (refine St.le_ren' [0, 1, 3, 4, 2] rfl rfl ?_ rfl rfl; simp [IObj.ren, V.ren, V.renL, renL_rep]) | (refine St.le_ren' [0, 1, 4, 2, 3] rfl rfl ?_ rfl rfl; simp [IObj.ren, V.ren, V.renL, renL_rep]) | (refine St.le_ren' [0, 1, 4, 3, 2] rfl rfl ?_ rfl rfl; simp [IObj.ren, V.ren, V.renL, renL_rep]) | (refine St.le_ren' [0, 2, 1, 3, 4] rfl rfl ?_ rfl rfl; simp [IObj.ren, V.ren, V.renL, renL_rep]) | (refine St.le_ren' [0, 2, 1, 4, 3] rfl rfl ?_ rfl rfl; simp [IObj.ren, V.ren, V.renL, renL_rep]) | (refine St.le_ren' [0, 2, 3, 1, 4] rfl rfl ?_ rfl rfl; simp [IObj.ren, V.ren, V.renL, renL_rep]) | (refine St.le_ren' [0, 2, 3, 4, 1] rfl rfl ?_ rfl rfl; simp [IObj.ren, V.ren, V.renL, renL_rep]) | (refine St.le_ren' [0, 2, 4, 1, 3] rfl rfl ?_ rfl rfl; simp [IObj.ren, V.ren, V.renL, renL_rep]) | (refine St.le_ren' [0, 2, 4, 3, 1] rfl rfl ?_ rfl rfl; simp [IObj.ren, V.ren, V.renL, renL_rep]) | (refine St.le_ren' [0, 3, 1, 2, 4] rfl rfl ?_ rfl rfl; simp [IObj.ren, V.ren, V.renL, renL_rep]) | (refine St.le_ren' [0, 3, 1, 4, 2] rfl rfl ?_ rfl rfl; simp [IObj.ren, V.ren, V.renL, renL_rep]) | (refine St.le_ren' [0, 3, 2, 1, 4] rfl rfl ?_ rfl rfl; simp [IObj.ren, V.ren, V.renL, renL_rep]) | (refine St.le_ren' [0, 3, 2, 4, 1] rfl rfl ?_ rfl rfl; simp [IObj.ren, V.ren, V.renL, renL_rep]) | (refine St.le_ren' [0, 3, 4, 1, 2] rfl rfl ?_ rfl rfl; simp [IObj.ren, V.ren, V.renL, renL_rep]) | (refine St.le_ren' [0, 3, 4, 2, 1] rfl rfl ?_ rfl rfl; simp [IObj.ren, V.ren, V.renL, renL_rep]) | (refine St.le_ren' [0, 4, 1, 2, 3] rfl rfl ?_ rfl rfl; simp [IObj.ren, V.ren, V.renL, renL_rep]) | (refine St.le_ren' [0, 4, 1, 3, 2] rfl rfl ?_ rfl rfl; simp [IObj.ren, V.ren, V.renL, renL_rep]) | (refine St.le_ren' [0, 4, 2, 1, 3] rfl rfl ?_ rfl rfl; simp [IObj.ren, V.ren, V.renL, renL_rep]) | (refine St.le_ren' [0, 4, 2, 3, 1] rfl rfl ?_ rfl rfl; simp [IObj.ren, V.ren, V.renL, renL_rep]) | (refine St.le_ren' [0, 4, 3, 1, 2] rfl rfl ?_ rfl rfl; simp [IObj.ren, V.ren, V.renL, renL_rep]) | (refine St.le_ren' [0, 4, 3, 2, 1] rfl rfl ?_ rfl rfl; simp [IObj.ren, V.ren, V.renL, renL_rep]))
  simp -implicitDefEqProofs [↓gd_tt, ↓gd_ff, ↓gd_tf, ↓gd_ft]
  refine loopA mixed [false, false, false, false, false, false, true, false, false, false, false, false, false, false, false, false, false, false, false, true, true, true, true, true, true, true, true, true, false, false, false, false, false, false, false, false, false, false, false, false, false, false, false, false, false, false, false, false, false, false, false, false, false, true] (fun (i : Nat) => [(19, .d (I i))]) (fun (i : Nat) => [stC b s, .var ((cpuL s i).map lv), .var ((memL s i).map lv), .var [.ref 1 1 0 s.qs.length s.qs.length], .var [.ref 2 1 0 s.qs.length s.qs.length]]) (fun (i : Nat) => i ≤ s.ls.length) (fun (i : Nat) => s.ls.length - i) (0) (Nat.zero_le _) (by simp [ltObjs, IObj.lt, ltL_lv, cpuL_zero, memL_zero, constV_nilf, ltL_rep]) ?_
  rintro i hx
  rcases Nat.lt_or_eq_of_le hx with h | h
  · simp -implicitDefEqProofs [↓gd_tt, ↓gd_ff, ↓gd_tf, ↓gd_ft, h]
    refine upw_spec b s.qs s.ls[i].q _ _ ?_
    simp -implicitDefEqProofs [↓gd_tt, ↓gd_ff, ↓gd_tf, ↓gd_ft, h]
    refine rangeYS mixed (up_yields b s.qs s.ls[i].q 7 6 (small h64.2) hf (by decide)) (by simp) (by simp) (by simp) (by simp [ltObjs, IObj.lt, ltL_lv, constV_nilf]) (by simp) (by intro y hy; obtain ⟨p, _, rfl⟩ := List.mem_map.1 hy; simp [yQ])
      (fun k hp => hp = [stC b s, .var ((addAt (cpuL s i) (((up s.qs s.ls[i].q).map (·.1)).take k) s.ls[i].cs.length).map lv), .var ((addAt (memL s i) (((up s.qs s.ls[i].q).map (·.1)).take k) s.ls[i].m).map lv), .var [.ref 1 1 0 s.qs.length s.qs.length], .var [.ref 2 1 0 s.qs.length s.qs.length], .var ((encLf b s.ls[i]).flat.map V.d), .var [.d (encL b s.qs)], .var [.d (I (upx s.qs s.ls[i].q (k - 1)))]] ∧ k ≤ (up s.qs s.ls[i].q).length) ⟨by simp [addAt, upx], Nat.zero_le _⟩ (by rintro k hp ⟨rfl, _⟩; simp [ltObjs, IObj.lt, ltL_lv, V.ltL, V.lt]) ?_ ?_
    · rintro k hp ⟨rfl, hk⟩ hik L0 L1
      have hk' : k < (up s.qs s.ls[i].q).length := by simpa using hik
      obtain ⟨u1, u2⟩ := up_mem hf (List.getElem_mem hk')
      have hst1 := addAt_step (cpuL s i) (ids := (up s.qs s.ls[i].q).map (·.1)) (k := k) (by simpa using hk') s.ls[i].cs.length
      have hst2 := addAt_step (memL s i) (ids := (up s.qs s.ls[i].q).map (·.1)) (k := k) (by simpa using hk') s.ls[i].m
      have hl1 := addAt_len s.ls[i].cs.length (((up s.qs s.ls[i].q).map (·.1)).take k) (cpuL s i)
      have hl2 := addAt_len s.ls[i].m (((up s.qs s.ls[i].q).map (·.1)).take k) (memL s i)
      have hb1 := addAt_short s.ls[i].cs.length (((up s.qs s.ls[i].q).map (·.1)).take k) (cpuL s i) ((upIds_nodup hf s.ls[i].q).sublist (List.take_sublist _ _)) (n := s.ls.length) fun xs hxs => by
        obtain ⟨q, _, rfl⟩ := List.mem_map.1 hxs
        exact Nat.le_trans (cpu_len _ _ _) (by simp; omega)
      have hb2 := addAt_short s.ls[i].m (((up s.qs s.ls[i].q).map (·.1)).take k) (memL s i) ((upIds_nodup hf s.ls[i].q).sublist (List.take_sublist _ _)) (n := s.ls.length) fun xs hxs => by
        obtain ⟨q, _, rfl⟩ := List.mem_map.1 hxs
        exact Nat.le_trans (mem_len _ _ _) (by simp; omega)
      simp only [List.getElem_map] at hst1 hst2
      rw [show (cpuL s i).length = s.qs.length by simp [cpuL]] at hl1
      rw [show (memL s i).length = s.qs.length by simp [memL]] at hl2
      generalize addAt (cpuL s i) (((up s.qs s.ls[i].q).map (·.1)).take k) s.ls[i].cs.length = C at *
      generalize addAt (memL s i) (((up s.qs s.ls[i].q).map (·.1)).take k) s.ls[i].m = M at *
      generalize addAt (cpuL s i) (((up s.qs s.ls[i].q).map (·.1)).take (k + 1)) s.ls[i].cs.length = C' at *
      generalize addAt (memL s i) (((up s.qs s.ls[i].q).map (·.1)).take (k + 1)) s.ls[i].m = M' at *
      simp -implicitDefEqProofs [↓gd_tt, ↓gd_ff, ↓gd_tf, ↓gd_ft, yQ]
      generalize (up s.qs s.ls[i].q)[k].1 = j at *
      have hjC : (C.map lv)[j]? = some (lv (C[j]'(by omega))) := by rw [List.getElem?_map, List.getElem?_eq_getElem (by omega)]; rfl
      have hjM : (M.map lv)[j]? = some (lv (M[j]'(by omega))) := by rw [List.getElem?_map, List.getElem?_eq_getElem (by omega)]; rfl
      have hbC := hb1 (C[j]'(by omega)) (List.getElem_mem _)
      have hbM := hb2 (M[j]'(by omega)) (List.getElem_mem _)
      have hsC := lv_modify (C := C) (j := j) (v := s.ls[i].cs.length) (by omega)
      have hsM := lv_modify (C := M) (j := j) (v := s.ls[i].m) (by omega)
      rw [← hst1] at hsC
      rw [← hst2] at hsM
      have hjC' : j < (C.map lv).length := by simp; omega
      have hjM' : j < (M.map lv).length := by simp; omega
      have hgC : (C.map lv)[j]'hjC' = lv (C[j]'(by omega)) := by simp
      have hgM : (M.map lv)[j]'hjM' = lv (M[j]'(by omega)) := by simp
      have hltC : ∀ m, V.ltL m (C'.map lv) = true := fun m => ltL_lv m _
      have hltM : ∀ m, V.ltL m (M'.map lv) = true := fun m => ltL_lv m _
      generalize C[j]'(by omega) = xs at *
      generalize M[j]'(by omega) = ys at *
      generalize C.map lv = CV at *
      generalize M.map lv = MV at *
      generalize C'.map lv = CV' at *
      generalize M'.map lv = MV' at *
      have bC : (xs.length + 1) * 8 ≤ 140737488355328 := by omega
      have bM : (ys.length + 1) * 8 ≤ 140737488355328 := by omega
      refine regionCh [] [0, 1, 5, 6, 7, 8, 9, 10, 11, 12] [0, 1, 6, 7, 8, 9] mixed (by kernel_rfl) ?_
      simp -implicitDefEqProofs [↓gd_tt, ↓gd_ff, ↓gd_tf, ↓gd_ft, stripL, stripM, onsOf, hintOf]
      refine ⟨u1, ?_⟩
      rcases lv_cases xs with ⟨hxe, hxv⟩ | hxv
      · subst hxe
        rw [hxv] at hgC hjC
        simp only [List.map_nil, List.nil_append] at hsC
        have hj1 : j + 1 ≤ CV.length := hjC'
        have hj2 : j + 1 ≤ MV.length := hjM'
        refine x_end ?wan (fun K0 hK0 => ?_) ?_
        case refine_1 =>
          simp -implicitDefEqProofs [↓gd_tt, ↓gd_ff, ↓gd_tf, ↓gd_ft, lx_zero, lx_succ, ll_nil, ll_cons, hjC, hjC', hgC, bC, u1, hj1, set_td hjC']
          exact hK0
        simp -implicitDefEqProofs [↓gd_tt, ↓gd_ff, ↓gd_tf, ↓gd_ft]
        refine regionCh [] [0, 1, 5, 6, 7, 8, 9, 10, 11] [0, 1, 6, 7, 8] mixed (by kernel_rfl) ?_
        simp -implicitDefEqProofs [↓gd_tt, ↓gd_ff, ↓gd_tf, ↓gd_ft, stripL, stripM, onsOf, hintOf]
        refine ⟨u1, ?_⟩
        rcases lv_cases ys with ⟨hye, hyv⟩ | hyv
        · subst hye
          rw [hyv] at hgM hjM
          simp only [List.map_nil, List.nil_append] at hsM
          refine x_end ?wbn (fun K0 hK0 => ?_) ?_
          case refine_1 =>
            simp -implicitDefEqProofs [↓gd_tt, ↓gd_ff, ↓gd_tf, ↓gd_ft, lx_zero, lx_succ, ll_nil, ll_cons, hjM, hjM', hgM, bM, u1, hj2, set_td hjM']
            exact hK0
          simp -implicitDefEqProofs [↓gd_tt, ↓gd_ff, ↓gd_tf, ↓gd_ft, set_td hjM']
          exact ⟨⟨by rw [← hsC]; exact hltC _, by rw [← hsM]; exact hltM _⟩, ⟨hsC.symm, hsM.symm⟩, by omega⟩
        · rw [hyv] at hgM hjM
          refine x_end ?wcn (fun K0 hK0 => ?_) ?_
          case refine_1 =>
            simp -implicitDefEqProofs [↓gd_tt, ↓gd_ff, ↓gd_tf, ↓gd_ft, lx_zero, lx_succ, ll_nil, ll_cons, hjM, hjM', hgM, bM, u1, hj2, set_td hjM']
            exact hK0
          simp -implicitDefEqProofs [↓gd_tt, ↓gd_ff, ↓gd_tf, ↓gd_ft, set_td hjM']
          exact ⟨⟨by rw [← hsC]; exact hltC _, by rw [← hsM]; exact hltM _⟩, ⟨hsC.symm, hsM.symm⟩, by omega⟩
      · rw [hxv] at hgC hjC
        have hj1 : j + 1 ≤ CV.length := hjC'
        have hj2 : j + 1 ≤ MV.length := hjM'
        refine x_end ?wao (fun K0 hK0 => ?_) ?_
        case refine_1 =>
          simp -implicitDefEqProofs [↓gd_tt, ↓gd_ff, ↓gd_tf, ↓gd_ft, lx_zero, lx_succ, ll_nil, ll_cons, hjC, hjC', hgC, bC, u1, hj1, set_td hjC']
          exact hK0
        simp -implicitDefEqProofs [↓gd_tt, ↓gd_ff, ↓gd_tf, ↓gd_ft]
        refine regionCh [] [0, 1, 5, 6, 7, 8, 9, 10, 11] [0, 1, 6, 7, 8] mixed (by kernel_rfl) ?_
        simp -implicitDefEqProofs [↓gd_tt, ↓gd_ff, ↓gd_tf, ↓gd_ft, stripL, stripM, onsOf, hintOf]
        refine ⟨u1, ?_⟩
        rcases lv_cases ys with ⟨hye, hyv⟩ | hyv
        · subst hye
          rw [hyv] at hgM hjM
          simp only [List.map_nil, List.nil_append] at hsM
          refine x_end ?wbo (fun K0 hK0 => ?_) ?_
          case refine_1 =>
            simp -implicitDefEqProofs [↓gd_tt, ↓gd_ff, ↓gd_tf, ↓gd_ft, lx_zero, lx_succ, ll_nil, ll_cons, hjM, hjM', hgM, bM, u1, hj2, set_td hjM']
            exact hK0
          simp -implicitDefEqProofs [↓gd_tt, ↓gd_ff, ↓gd_tf, ↓gd_ft, set_td hjM']
          exact ⟨⟨by rw [← hsC]; exact hltC _, by rw [← hsM]; exact hltM _⟩, ⟨hsC.symm, hsM.symm⟩, by omega⟩
        · rw [hyv] at hgM hjM
          refine x_end ?wco (fun K0 hK0 => ?_) ?_
          case refine_1 =>
            simp -implicitDefEqProofs [↓gd_tt, ↓gd_ff, ↓gd_tf, ↓gd_ft, lx_zero, lx_succ, ll_nil, ll_cons, hjM, hjM', hgM, bM, u1, hj2, set_td hjM']
            exact hK0
          simp -implicitDefEqProofs [↓gd_tt, ↓gd_ff, ↓gd_tf, ↓gd_ft, set_td hjM']
          exact ⟨⟨by rw [← hsC]; exact hltC _, by rw [← hsM]; exact hltM _⟩, ⟨hsC.symm, hsM.symm⟩, by omega⟩
    · rintro hp ⟨rfl, hk⟩
      have hfull1 := cpuL_step hf h
      have hfull2 := memL_step hf h
      have ht : ∀ X : List Nat, X.length = (up s.qs s.ls[i].q).length → X.take ((up s.qs s.ls[i].q).map yQ).length = X := fun X hX => List.take_of_length_le (by simp [hX])
      rw [ht _ (by simp), hfull1, hfull2]
      simp -implicitDefEqProofs [↓gd_tt, ↓gd_ff, ↓gd_tf, ↓gd_ft, wrap1 hll h]
      exact ⟨i + 1, by omega, by omega, rfl, rfl, ⟨ltL_lv _ _, ltL_lv _ _⟩, rfl, rfl⟩
  · simp -implicitDefEqProofs [↓gd_tt, ↓gd_ff, ↓gd_tf, ↓gd_ft, h, cpuL_full, memL_full]
    exact hk
end Go.Idl
end
section
namespace Go.Idl
set_option linter.unusedSimpArgs false
set_option linter.unusedVariables false

section
variable {κ : Type} [DecidableEq κ]
abbrev AL (κ : Type) := List (Nat × κ × V)
def encM (enck : κ → D) (A : AL κ) : List (Nat × D × V) := A.map fun e => (e.1, enck e.2.1, e.2.2)
def aFind (q : κ) : AL κ → Nat → Option (Nat × V)
  | [], _ => none
  | (_, k, v) :: r, i => if q = k then some (i, v) else aFind q r (i + 1)
def aLook (q : κ) (A : AL κ) : Option V := (aFind q A 0).map (·.2)
theorem mfind_enc {P : Program} {kt : TypeId} {enck : κ → D} (hk : ∀ a b, keyEq P kt (enck a) (enck b) = some (decide (a = b))) (q : κ) : ∀ (A : AL κ) (i : Nat), mfind P kt (enck q) (encM enck A) i = some (aFind q A i)
  | [], i => rfl
  | (n, k, v) :: r, i => by
    have ih := mfind_enc hk q r (i + 1)
    simp only [encM, List.map_cons, mfind, hk, aFind]
    by_cases e : q = k
    · simp [e]
    · simp only [e, decide_false, if_false]
      exact ih
theorem aFind_shift (q : κ) : ∀ (A : AL κ) (i : Nat), aFind q A i = (aFind q A 0).map fun p => (p.1 + i, p.2)
  | [], i => rfl
  | (n, k, v) :: r, i => by
    have h1 := aFind_shift q r (i + 1)
    have h2 := aFind_shift q r 1
    unfold aFind
    split
    · simp
    · rw [h1, h2]
      cases aFind q r 0 <;> simp; omega
theorem aFind_cons (q : κ) (n : Nat) (k : κ) (v : V) (r : AL κ) : aFind q ((n, k, v) :: r) 0 = if q = k then some (0, v) else (aFind q r 0).map fun p => (p.1 + 1, p.2) := by
  show (if q = k then some (0, v) else aFind q r (0 + 1)) = _
  split
  · rfl
  · rw [aFind_shift q r (0 + 1)]
theorem aLook_cons (q : κ) (n : Nat) (k : κ) (v : V) (r : AL κ) : aLook q ((n, k, v) :: r) = if q = k then some v else aLook q r := by
  unfold aLook
  rw [aFind_cons]
  split
  · rfl
  · cases aFind q r 0 <;> rfl
theorem aLook_nil (q : κ) : aLook q ([] : AL κ) = none := rfl
theorem aFind_none {q : κ} {A : AL κ} : aFind q A 0 = none ↔ aLook q A = none := by unfold aLook; simp
theorem aLook_mem {q : κ} : ∀ {A : AL κ}, aLook q A ≠ none ↔ q ∈ A.map (·.2.1)
  | [] => by simp [aLook_nil]
  | (n, k, v) :: r => by
    have ih := aLook_mem (q := q) (A := r)
    rw [aLook_cons]
    by_cases e : q = k
    · simp [e]
    · rw [if_neg e, ih]; simp [e]
/-- a value is put where its key stands -/
theorem aLook_modify {q : κ} {v : V} : ∀ {A : AL κ} {i : Nat} {u : V}, aFind q A 0 = some (i, u) → ∀ x, aLook x (A.modify i fun e => (e.1, e.2.1, v)) = if x = q then some v else aLook x A
  | [], i, u, h, x => by cases h
  | (n, k, w) :: r, i, u, h, x => by
    rw [aFind_cons] at h
    split at h
    · rename_i e
      injection h with h; injection h with h1 h2; subst h1; subst e
      simp only [List.modify_zero_cons, aLook_cons]
      split <;> rfl
    · rename_i e
      cases hf : aFind q r 0 with
      | none => rw [hf] at h; cases h
      | some p =>
        rw [hf] at h
        injection h with h; injection h with h1 h2
        have ih := aLook_modify (v := v) (A := r) (i := p.1) (u := p.2) hf x
        subst h1
        simp only [List.modify_succ_cons, aLook_cons, ih]
        by_cases e2 : x = k
        · rw [if_pos e2, if_pos e2, if_neg (by subst e2; exact fun h => e h.symm)]
        · rw [if_neg e2, if_neg e2]
theorem keys_modify {v : V} : ∀ (A : AL κ) (i : Nat), (A.modify i fun e => (e.1, e.2.1, v)).map (·.2.1) = A.map (·.2.1)
  | [], i => by simp
  | (n, k, w) :: r, 0 => by simp
  | (n, k, w) :: r, i + 1 => by simp [keys_modify r i]
theorem borns_modify {v : V} : ∀ (A : AL κ) (i : Nat), (A.modify i fun e => (e.1, e.2.1, v)).map (·.1) = A.map (·.1)
  | [], i => by simp
  | (n, k, w) :: r, 0 => by simp
  | (n, k, w) :: r, i + 1 => by simp [borns_modify r i]
theorem encM_modify {enck : κ → D} {v : V} (A : AL κ) (i : Nat) : (encM enck A).modify i (fun e => (e.1, e.2.1, v)) = encM enck (A.modify i fun e => (e.1, e.2.1, v)) := by
  unfold encM
  induction A generalizing i with
  | nil => simp
  | cons p r ih =>
    cases i with
    | zero => simp
    | succ i => simp [ih i]
/-- a new key behind all -/
theorem aLook_append {q : κ} {v : V} {n : Nat} : ∀ {A : AL κ}, aLook q A = none → ∀ x, aLook x (A ++ [(n, q, v)]) = if x = q then some v else aLook x A
  | [], _, x => by rw [List.nil_append, aLook_cons, aLook_nil]
  | (m, k, w) :: r, h, x => by
    rw [aLook_cons] at h
    split at h
    · cases h
    · rename_i e
      have ih := aLook_append (v := v) (n := n) h x
      rw [List.cons_append, aLook_cons, aLook_cons, ih]
      by_cases e2 : x = k
      · rw [if_pos e2, if_pos e2, if_neg (by subst e2; exact fun h => e h.symm)]
      · rw [if_neg e2, if_neg e2]
theorem encM_append {enck : κ → D} (A : AL κ) (n : Nat) (q : κ) (v : V) : encM enck A ++ [(n, enck q, v)] = encM enck (A ++ [(n, q, v)]) := by simp [encM]
theorem encM_len {enck : κ → D} (A : AL κ) : (encM enck A).length = A.length := by simp [encM]
/-- a map's list as it may be: no key twice, nothing born twice or ahead of its time -/
structure AOK (c : Nat) (A : AL κ) : Prop where
  keys : (A.map (·.2.1)).Nodup
  borns : (A.map (·.1)).Nodup
  past : ∀ e ∈ A, e.1 < c
theorem AOK.nil {c : Nat} : AOK c ([] : AL κ) := ⟨by simp, by simp, by simp⟩
theorem AOK.modify {c : Nat} {A : AL κ} (h : AOK c A) (i : Nat) (v : V) : AOK c (A.modify i fun e => (e.1, e.2.1, v)) := by
  refine ⟨by rw [keys_modify]; exact h.keys, by rw [borns_modify]; exact h.borns, fun e he => ?_⟩
  have : e.1 ∈ (A.modify i fun e => (e.1, e.2.1, v)).map (·.1) := List.mem_map.2 ⟨e, he, rfl⟩
  rw [borns_modify] at this
  obtain ⟨e', h1, h2⟩ := List.mem_map.1 this
  rw [← h2]; exact h.past e' h1
theorem AOK.append {c : Nat} {A : AL κ} (h : AOK c A) {q : κ} (v : V) (hq : aLook q A = none) : AOK (c + 1) (A ++ [(c, q, v)]) := by
  have hq' : q ∉ A.map (·.2.1) := fun k => aLook_mem.2 k hq
  refine ⟨?_, ?_, fun e he => ?_⟩
  · rw [List.map_append]
    exact List.nodup_append.2 ⟨h.keys, by simp, fun a ha b hb e => by simp at hb; subst hb; subst e; exact hq' ha⟩
  · rw [List.map_append]
    refine List.nodup_append.2 ⟨h.borns, by simp, fun a ha b hb e => ?_⟩
    simp at hb; subst hb; subst e
    obtain ⟨e', h1, h2⟩ := List.mem_map.1 ha
    have := h.past e' h1
    omega
  · rcases List.mem_append.1 he with he | he
    · have := h.past e he; omega
    · simp at he; subst he; simp
theorem AOK.erase {c : Nat} {A : AL κ} (h : AOK c A) (i : Nat) : AOK c (A.eraseIdx i) :=
  ⟨h.keys.sublist ((List.eraseIdx_sublist A i).map _), h.borns.sublist ((List.eraseIdx_sublist A i).map _), fun e he => h.past e ((List.eraseIdx_sublist A i).subset he)⟩
end
end Go.Idl
end
section
namespace Go.Idl
open Go.Proofs
set_option linter.unusedSimpArgs false
set_option linter.unusedVariables false
set_option maxRecDepth 8000
set_option maxHeartbeats 2000000
variable (b : Bool)

theorem on_spec (s : Sta) (id : Int) (hp : List IObj) (K : V → List IObj → Prop) (hk : K (.fn (.func 142) [.ptr hp.length 0, .ptr (hp.length + 1) 0]) (hp ++ [stC b s, .var [.d (I id)]])) : CallK Try.prog 104 [.d (encSt b s), .d (I id)] hp K := by
  refine callS (fn := Try.f104) [] [] mixed (bodyOf Try.f104) [.tmp 4] Try.func104 rfl rfl (by decide) 4 rfl (by kernel_rfl) ?_
  simp -implicitDefEqProofs [↓gd_tt, ↓gd_ff, ↓gd_tf, ↓gd_ft, bodyOf, Try.f104, stripC, stripL, stripM, onsOf, upto, hintOf, freeOf, List.replicate]
  simpa using hk
theorem keyEqI (a c : Int) : keyEq Try.prog 3 (I a) (I c) = some (decide (a = c)) := by simp [keyEq]
/-- numbers in a map, each with a value -/
def numA (f : Int → Int) (l : List Int) : AL Int := l.zipIdx.map fun p => (p.2, p.1, .d (I (f p.1)))
theorem numA_snoc (f : Int → Int) (l : List Int) (c : Int) : numA f (l ++ [c]) = numA f l ++ [(l.length, c, .d (I (f c)))] := by
  unfold numA
  rw [List.zipIdx_append, List.map_append]; simp
theorem numA_len (f : Int → Int) (l : List Int) : (numA f l).length = l.length := by simp [numA]
theorem numA_keys (f : Int → Int) (l : List Int) : (numA f l).map (·.2.1) = l := by
  unfold numA
  rw [List.map_map]
  have : ((fun x : Nat × Int × V => x.2.1) ∘ fun p : Int × Nat => (p.2, p.1, V.d (I (f p.1)))) = Prod.fst := rfl
  rw [this, List.zipIdx_map_fst]
theorem numA_find (f : Int → Int) (q : Int) : ∀ (l : List Int), (q ∉ l ∧ mfind Try.prog 3 (I q) (encM I (numA f l)) 0 = some none) ∨ (q ∈ l ∧ ∃ i, mfind Try.prog 3 (I q) (encM I (numA f l)) 0 = some (some (i, .d (I (f q))))) := fun l => by
  rw [mfind_enc keyEqI]
  by_cases h : q ∈ l
  · right
    refine ⟨h, ?_⟩
    have hm : aLook q (numA f l) ≠ none := aLook_mem.2 (by rw [numA_keys]; exact h)
    cases e : aFind q (numA f l) 0 with
    | none => exact absurd (aFind_none.1 e) hm
    | some p =>
      obtain ⟨i, v⟩ := p
      refine ⟨i, ?_⟩
      have : ∀ (A : AL Int) (b : Nat), (∀ x ∈ A, x.2.2 = .d (I (f x.2.1))) → ∀ i v, aFind q A b = some (i, v) → v = .d (I (f q)) := by
        intro A
        induction A with
        | nil => intro b _ i v h; cases h
        | cons x A ih =>
          obtain ⟨n, k, w⟩ := x
          intro b hA i v h
          simp only [aFind] at h
          split at h
          · rename_i hq
            injection h with h; injection h with _ h2
            rw [← h2]; have := hA (n, k, w) (by simp); simp only at this; rw [this, hq]
          · exact ih (b + 1) (fun x hx => hA x (by simp [hx])) i v h
      rw [this _ 0 (fun x hx => by
        unfold numA at hx
        obtain ⟨p, _, rfl⟩ := List.mem_map.1 hx; rfl) i v e]
  · left
    refine ⟨h, ?_⟩
    have : aLook q (numA f l) = none := Classical.byContradiction fun hn => h (by have := aLook_mem.1 hn; rwa [numA_keys] at this)
    rw [aFind_none.2 this]
theorem numA_lt (m : Nat) (f : Int → Int) (l : List Int) : V.ltL m ((encM I (numA f l)).map fun x => x.2.2) = true := by
  unfold numA encM
  rw [List.map_map, List.map_map]
  have : ∀ L : List (Int × Nat), V.ltL m (L.map (((fun x : Nat × D × V => x.2.2) ∘ fun e : Nat × Int × V => (e.1, I e.2.1, e.2.2)) ∘ fun p => (p.2, p.1, V.d (I (f p.1))))) = true := fun L => by
    induction L with
    | nil => rfl
    | cons a L ih => simp only [List.map_cons, V.ltL, ih]; rfl
  exact this _
theorem badCs_take {n : Nd} {cs : List Int} {j : Nat} (h : j < cs.length) : badCs n (cs.take (j + 1)) = (badCs n (cs.take j) || (decide (cs[j] < 0) || decide (n.k ≤ cs[j]) || decide (cs[j] ∈ cs.take j))) := by
  unfold badCs
  rw [List.take_add_one, List.getElem?_eq_getElem h, Option.toList_some, List.any_append]
  have e : decide (cs.take j ++ [cs[j]]).Nodup = (decide (cs.take j).Nodup && !decide (cs[j] ∈ cs.take j)) := by
    rw [Bool.eq_iff_iff]
    simp only [decide_eq_true_eq, Bool.and_eq_true, Bool.not_eq_true', decide_eq_false_iff_not, List.nodup_append]
    constructor
    · rintro ⟨h1, _, h3⟩
      exact ⟨h1, fun hm => h3 _ hm _ (by simp) rfl⟩
    · rintro ⟨h1, h2⟩
      exact ⟨h1, by simp, fun a ha b hb e => by simp at hb; subst hb; subst e; exact h2 ha⟩
  rw [e]
  simp only [List.any_cons, List.any_nil, Bool.or_false]
  generalize (cs.take j).any _ = x
  generalize decide (cs.take j).Nodup = y
  generalize decide (cs[j] ∈ cs.take j) = z
  generalize (decide (cs[j] < 0) || decide (n.k ≤ cs[j])) = u
  cases x <;> cases y <;> cases z <;> cases u <;> rfl
theorem badCs_mono {n : Nd} {cs : List Int} {j : Nat} (h : badCs n (cs.take j) = true) : badCs n cs = true := by
  unfold badCs at h ⊢
  rw [Bool.or_eq_true] at h ⊢
  rcases h with h | h
  · left
    rw [List.any_eq_true] at h ⊢
    obtain ⟨x, hx, e⟩ := h
    exact ⟨x, List.mem_of_mem_take hx, e⟩
  · right
    simp only [Bool.not_eq_true', decide_eq_false_iff_not] at h ⊢
    exact fun hn => h (hn.sublist (List.take_sublist _ _))
theorem small6 {n : Nat} (h : n ≤ 1000000) : n ≤ maxLen := Nat.le_trans h (by decide)
theorem over_spec (s : Sta) (n : Nd) (hl6 : s.ls.length ≤ 1000000) (hw1 : ∀ x ∈ s.ls, x.cs.length ≤ maxLen) (hw2 : ∀ x ∈ s.ls, In64 x.m) : PCall Try.prog 47 [encSt b s, encNd n] (.d (.bool (wrongN s.ls n))) := by
  have hll := small6 hl6
  have hF : (onN n.id s.ls).length ≤ s.ls.length := List.length_filter_le _ _
  refine pcallS (fn := Try.f47) [] [] mixed (bodyOf Try.f47) [.cell 4 4] Try.func47 rfl rfl (by decide) 55 rfl (by kernel_rfl) ?_
  simp -implicitDefEqProofs [↓gd_tt, ↓gd_ff, ↓gd_tf, ↓gd_ft, bodyOf, Try.f47, stripC, stripL, stripM, onsOf, upto, hintOf, freeOf, List.replicate]
  refine on_spec b s n.id _ _ ?_
  simp -implicitDefEqProofs [↓gd_tt, ↓gd_ff, ↓gd_tf, ↓gd_ft]
  refine rangeYl mixed (on_yields b s n.id 4 5 hll) (by simp) (by simp) (by simp) (by simp [constV_nilf]) (by simp) (by intro y hy; obtain ⟨p, _, rfl⟩ := List.mem_map.1 hy; simp)
    (fun k hp => hp = [stC b s, .var ((encNd n).flat.map V.d), .var [.d (.bool false)], .var [lv (((onN n.id s.ls).take k).map (·.m))], stC b s, .var [.d (I n.id)]] ∧ k ≤ (onN n.id s.ls).length ∧ ((onN n.id s.ls).take k).any (badLe n) = false) ⟨by simp [lv], Nat.zero_le _, by simp⟩ (by rintro k hp ⟨rfl, _⟩; simp [ltObjs, IObj.lt, lv_lt, V.ltL, V.lt]) ?_ ?_
  · rintro k hp ⟨rfl, hk, hbad⟩ hik L0 L1 hL1
    have hk' : k < (onN n.id s.ls).length := by simpa using hik
    have hmem : (onN n.id s.ls)[k] ∈ s.ls := (List.mem_filter.1 (List.getElem_mem hk')).1
    have hcl := hw1 _ hmem
    have hany : ((onN n.id s.ls).take (k + 1)).any (badLe n) = badLe n (onN n.id s.ls)[k] := by
      rw [List.take_add_one, List.getElem?_eq_getElem hk', Option.toList_some, List.any_append, hbad]; simp
    have hwr : badLe n (onN n.id s.ls)[k] = true → wrongN s.ls n = true := fun e => by
      unfold wrongN
      rw [List.any_eq_true.2 ⟨_, List.getElem_mem hk', e⟩]; rfl
    have hms : ((onN n.id s.ls).take (k + 1)).map (·.m) = ((onN n.id s.ls).take k).map (·.m) ++ [(onN n.id s.ls)[k].m] := by
      rw [List.take_add_one, List.getElem?_eq_getElem hk', Option.toList_some, List.map_append]; rfl
    have hbl : (((onN n.id s.ls).take k).map (·.m)).length ≤ s.ls.length := by simp; omega
    simp only [List.getElem_map]
    generalize (onN n.id s.ls)[k] = x at *
    generalize ((onN n.id s.ls).take k).map (·.m) = xs at *
    have bX : (xs.length + 1) * 8 ≤ 140737488355328 := by omega
    have hL9 : L1.lt 9 = true := IObj.lt_mono (by simp) hL1
    rcases lv_cases xs with ⟨hxe, hxv⟩ | hxv
    · subst hxe
      simp -implicitDefEqProofs [↓gd_tt, ↓gd_ff, ↓gd_tf, ↓gd_ft, bX, hxv]
      refine loopA mixed [false, false, false, false, false, false, false, false, false, true, false, false, false, false, false, false, false, false, false, false, false, false, false, false, true, true, true, true, true, true, true, true, true, true, true, true, true, true, true, true, true, true, true, true, true] (fun (j : Nat) => [(24, .d (I j))]) (fun (j : Nat) => [stC b s, .var ((encNd n).flat.map V.d), .var [.d (.bool false)], .var [.own 1 ((([] : List Int) ++ [x.m]).map fun n => .int .i64 n)], stC b s, .var [.d (I n.id)], L1, .var ((encLf b x).flat.map V.d), .map j (encM I (numA (fun _ => 1) (x.cs.take j)))]) (fun (j : Nat) => j ≤ x.cs.length ∧ badCs n (x.cs.take j) = false) (fun (j : Nat) => x.cs.length - j) (0) (⟨Nat.zero_le _, by simp [badCs]⟩) (by simp [ltObjs, IObj.lt, V.ltL, V.lt, numA, encM, constV_nilf]; exact hL9) ?_
      rintro j hx
      obtain ⟨hj, hbj⟩ := hx
      rcases Nat.lt_or_eq_of_le hj with hjl | hjl
      · have hst := badCs_take (n := n) hjl
        rw [hbj, Bool.false_or] at hst
        have hfd := numA_find (fun _ => 1) x.cs[j] (x.cs.take j)
        have hwj := wrap1 hcl hjl
        have hta : x.cs.take (j + 1) = x.cs.take j ++ [x.cs[j]] := by rw [List.take_add_one, List.getElem?_eq_getElem hjl]; rfl
        have hbd : badCs n (x.cs.take (j + 1)) = true → wrongN s.ls n = true := fun e => hwr (by unfold badLe; rw [badCs_mono e]; rfl)
        by_cases h1 : x.cs[j] < 0
        · have := hbd (by rw [hst]; simp [h1])
          simp -implicitDefEqProofs [↓gd_tt, ↓gd_ff, ↓gd_tf, ↓gd_ft, hjl, h1, this]
        by_cases h2 : n.k ≤ x.cs[j]
        · have := hbd (by rw [hst]; simp [h2])
          simp -implicitDefEqProofs [↓gd_tt, ↓gd_ff, ↓gd_tf, ↓gd_ft, hjl, h1, h2, this]
        rcases hfd with ⟨h3, h4⟩ | ⟨h3, q, h4⟩
        · simp -implicitDefEqProofs [↓gd_tt, ↓gd_ff, ↓gd_tf, ↓gd_ft, hjl, h1, h2, keyOKI, h4, hwj]
          exact ⟨j + 1, ⟨by omega, by rw [hst]; simp [h1, h2, h3]⟩, by omega, rfl, ⟨hL9, numA_lt _ _ _⟩, rfl, by rw [hta, numA_snoc, ← encM_append]; simp; omega⟩
        · have := hbd (by rw [hst]; simp [h3])
          simp -implicitDefEqProofs [↓gd_tt, ↓gd_ff, ↓gd_tf, ↓gd_ft, hjl, h1, h2, keyOKI, h4, this]
      · have htj : x.cs.take j = x.cs := by rw [hjl]; exact List.take_length
        rw [htj] at hbj
        have hel : (encM I (numA (fun _ => 1) x.cs)).length = x.cs.length := by rw [encM_len, numA_len]
        simp -implicitDefEqProofs [↓gd_tt, ↓gd_ff, ↓gd_tf, ↓gd_ft, hjl, htj, hel]
        refine ⟨fun e => ⟨fun e2 => hwr (by simp [badLe, e2]), fun e2 => ⟨?_, by omega, ?_⟩⟩, fun e => hwr (by simp [badLe, e])⟩
        · rw [← List.map_take, hms]; simp [lv]
        · have hb0 : badLe n x = false := by simp [badLe, hbj, e]; omega
          rw [hb0, List.any_eq_false] at hany
          exact fun y hy => by simpa using hany y hy
    · simp -implicitDefEqProofs [↓gd_tt, ↓gd_ff, ↓gd_tf, ↓gd_ft, bX, hxv]
      refine loopA mixed [false, false, false, false, false, false, false, false, false, true, false, false, false, false, false, false, false, false, false, false, false, false, false, false, true, true, true, true, true, true, true, true, true, true, true, true, true, true, true, true, true, true, true, true, true] (fun (j : Nat) => [(24, .d (I j))]) (fun (j : Nat) => [stC b s, .var ((encNd n).flat.map V.d), .var [.d (.bool false)], .var [.own 1 ((xs ++ [x.m]).map fun n => .int .i64 n)], stC b s, .var [.d (I n.id)], L1, .var ((encLf b x).flat.map V.d), .map j (encM I (numA (fun _ => 1) (x.cs.take j)))]) (fun (j : Nat) => j ≤ x.cs.length ∧ badCs n (x.cs.take j) = false) (fun (j : Nat) => x.cs.length - j) (0) (⟨Nat.zero_le _, by simp [badCs]⟩) (by simp [ltObjs, IObj.lt, V.ltL, V.lt, numA, encM, constV_nilf]; exact hL9) ?_
      rintro j hx
      obtain ⟨hj, hbj⟩ := hx
      rcases Nat.lt_or_eq_of_le hj with hjl | hjl
      · have hst := badCs_take (n := n) hjl
        rw [hbj, Bool.false_or] at hst
        have hfd := numA_find (fun _ => 1) x.cs[j] (x.cs.take j)
        have hwj := wrap1 hcl hjl
        have hta : x.cs.take (j + 1) = x.cs.take j ++ [x.cs[j]] := by rw [List.take_add_one, List.getElem?_eq_getElem hjl]; rfl
        have hbd : badCs n (x.cs.take (j + 1)) = true → wrongN s.ls n = true := fun e => hwr (by unfold badLe; rw [badCs_mono e]; rfl)
        by_cases h1 : x.cs[j] < 0
        · have := hbd (by rw [hst]; simp [h1])
          simp -implicitDefEqProofs [↓gd_tt, ↓gd_ff, ↓gd_tf, ↓gd_ft, hjl, h1, this]
        by_cases h2 : n.k ≤ x.cs[j]
        · have := hbd (by rw [hst]; simp [h2])
          simp -implicitDefEqProofs [↓gd_tt, ↓gd_ff, ↓gd_tf, ↓gd_ft, hjl, h1, h2, this]
        rcases hfd with ⟨h3, h4⟩ | ⟨h3, q, h4⟩
        · simp -implicitDefEqProofs [↓gd_tt, ↓gd_ff, ↓gd_tf, ↓gd_ft, hjl, h1, h2, keyOKI, h4, hwj]
          exact ⟨j + 1, ⟨by omega, by rw [hst]; simp [h1, h2, h3]⟩, by omega, rfl, ⟨hL9, numA_lt _ _ _⟩, rfl, by rw [hta, numA_snoc, ← encM_append]; simp; omega⟩
        · have := hbd (by rw [hst]; simp [h3])
          simp -implicitDefEqProofs [↓gd_tt, ↓gd_ff, ↓gd_tf, ↓gd_ft, hjl, h1, h2, keyOKI, h4, this]
      · have htj : x.cs.take j = x.cs := by rw [hjl]; exact List.take_length
        rw [htj] at hbj
        have hel : (encM I (numA (fun _ => 1) x.cs)).length = x.cs.length := by rw [encM_len, numA_len]
        simp -implicitDefEqProofs [↓gd_tt, ↓gd_ff, ↓gd_tf, ↓gd_ft, hjl, htj, hel]
        refine ⟨fun e => ⟨fun e2 => hwr (by simp [badLe, e2]), fun e2 => ⟨?_, by omega, ?_⟩⟩, fun e => hwr (by simp [badLe, e])⟩
        · rw [← List.map_take, hms]; simp [lv]
        · have hb0 : badLe n x = false := by simp [badLe, hbj, e]; omega
          rw [hb0, List.any_eq_false] at hany
          exact fun y hy => by simpa using hany y hy
  · rintro hp ⟨rfl, hk, hbad⟩
    have ht : (onN n.id s.ls).take ((onN n.id s.ls).map fun x => [V.d (encLf b x)]).length = onN n.id s.ls := List.take_of_length_le (by simp)
    rw [ht] at hbad ⊢
    have hv : wrongN s.ls n = bey ((onN n.id s.ls).map (·.m)).sum n.m := by unfold wrongN; rw [hbad]; rfl
    have hbs := beyond_spec false ((onN n.id s.ls).map (·.m)) n.m (by rw [List.length_map]; omega) fun y hy => by
      obtain ⟨x, hx, rfl⟩ := List.mem_map.1 hy
      exact hw2 x (List.mem_filter.1 hx).1
    simp -implicitDefEqProofs [↓gd_tt, ↓gd_ff, ↓gd_tf, ↓gd_ft, lv_tup, lv_bare, lv_cpcp]
    refine ⟨by have := lv_bare ((onN n.id s.ls).map (·.m)); unfold V.bare at this; exact this, callK_pcall hbs (lv_allD _ _) rfl ?_⟩
    simp -implicitDefEqProofs [↓gd_tt, ↓gd_ff, ↓gd_tf, ↓gd_ft, hv]
end Go.Idl
end
section
namespace Go.Idl
set_option linter.unusedSimpArgs false
set_option linter.unusedVariables false

/-- what an audit needs to know of how much there is -/
structure Sta.small (s : Sta) : Prop where
  qs : s.qs.length ≤ maxLen
  ns : s.ns.length ≤ 1000000
  ts : s.ts.length ≤ 1000000
  ls : s.ls.length ≤ 1000000
  hs : s.hs.length ≤ 17592186044415
  cs : ∀ x ∈ s.ls, x.cs.length ≤ maxLen
  m : ∀ x ∈ s.ls, In64 x.m
  u : ∀ x ∈ s.ls, In64 x.u
  now : In64 s.now
  long : In64 s.long
  qc : ∀ q ∈ s.qs, In64 q.QC ∧ In64 q.QM
  nm : ∀ n ∈ s.ns, In64 n.m
theorem probs_len {s : Sta} (h : s.small) (hc : check s.qs = 0) : (probQ s).length + ((probN s).length + ((probT s).length + ((probA s).length + ((probB s).length + (probL s).length)))) ≤ 6000000 := by
  have h1 := (check_len hc).2
  have h2 := h.ns; have h3 := h.ts; have h4 := h.ls
  have k1 : (probQ s).length ≤ s.qs.length := by unfold probQ; rw [List.length_map]; exact List.length_filter_le _ _
  have k2 : (probN s).length ≤ s.ns.length := by unfold probN; rw [List.length_map]; exact List.length_filter_le _ _
  have k3 : (probT s).length ≤ s.ns.length := by unfold probT; rw [List.length_map]; exact List.length_filter_le _ _
  have k4 : (probA s).length ≤ s.ls.length := by unfold probA; rw [List.length_map]; exact List.length_filter_le _ _
  have k5 : (probB s).length ≤ s.ts.length := by unfold probB; rw [List.length_map]; exact List.length_filter_le _ _
  have k6 : (probL s).length ≤ s.ls.length := by unfold probL; rw [List.length_map]; exact List.length_filter_le _ _
  omega
end Go.Idl
end
section
namespace Go.Idl
open Go.Proofs
set_option linter.unusedSimpArgs false
set_option linter.unusedVariables false
set_option maxRecDepth 8000
set_option maxHeartbeats 2000000
variable (b : Bool)

end Go.Idl
end
section
namespace Go.Idl
open Go.Proofs
set_option linter.unusedSimpArgs false
set_option linter.unusedVariables false
set_option maxRecDepth 8000
set_option maxHeartbeats 4000000
variable (b : Bool)

end Go.Idl
end
section
namespace Go.Idl
open Go.Proofs
set_option linter.unusedSimpArgs false
set_option linter.unusedVariables false
set_option maxRecDepth 8000
set_option maxHeartbeats 1000000
variable (b : Bool)

end Go.Idl
end
section
namespace Go.Idl
open Go.Proofs
set_option linter.unusedSimpArgs false
set_option linter.unusedVariables false
set_option maxRecDepth 8000
set_option maxHeartbeats 1000000
variable (b c : Bool)

end Go.Idl
end
section
namespace Go.Idl
open Go.Proofs
set_option linter.unusedSimpArgs false
set_option linter.unusedVariables false
set_option maxRecDepth 8000
set_option maxHeartbeats 2000000
variable (b c : Bool)

end Go.Idl
end
section
namespace Go.Idl
open Go.Proofs
set_option linter.unusedSimpArgs false
set_option linter.unusedVariables false
set_option maxRecDepth 8000
set_option maxHeartbeats 2000000
variable (b : Bool)

theorem nodes_spec (s : Sta) (what : Int) (f : Fn) (caps : List V) (hp : List IObj) (K : V → List IObj → Prop) (hc : caps.all V.bare = true) (hk : K (.fn (.func 103) [.ptr hp.length 0, .ptr (hp.length + 2) 0, .ptr (hp.length + 1) 0]) (hp ++ [stC b s, .var [.d (I what)], .var [.fn f caps]])) : CallK Try.prog 46 [.d (encSt b s), .d (I what), .fn f caps] hp K := by
  refine callS (fn := Try.f46) [] [] mixed (bodyOf Try.f46) [.tmp 6] Try.func46 rfl rfl (by decide) 5 rfl (by kernel_rfl) ?_
  simp -implicitDefEqProofs [↓gd_tt, ↓gd_ff, ↓gd_tf, ↓gd_ft, bodyOf, Try.f46, stripC, stripL, stripM, onsOf, upto, hintOf, freeOf, List.replicate]
  simpa [hc] using hk
theorem leases_spec (s : Sta) (what : Int) (f : Fn) (caps : List V) (hp : List IObj) (K : V → List IObj → Prop) (hc : caps.all V.bare = true) (hk : K (.fn (.func 105) [.ptr hp.length 0, .ptr (hp.length + 2) 0, .ptr (hp.length + 1) 0]) (hp ++ [stC b s, .var [.d (I what)], .var [.fn f caps]])) : CallK Try.prog 49 [.d (encSt b s), .d (I what), .fn f caps] hp K := by
  refine callS (fn := Try.f49) [] [] mixed (bodyOf Try.f49) [.tmp 6] Try.func49 rfl rfl (by decide) 5 rfl (by kernel_rfl) ?_
  simp -implicitDefEqProofs [↓gd_tt, ↓gd_ff, ↓gd_tf, ↓gd_ft, bodyOf, Try.f49, stripC, stripL, stripM, onsOf, upto, hintOf, freeOf, List.replicate]
  simpa [hc] using hk
/-- the tasks that leases are of, marked -/
theorem mark1_numA (l : List Int) : mark1 l (encM I (numA (fun _ => 1) l)) := fun q => by
  refine ⟨3, 3, by kernel_rfl, ?_⟩
  rcases numA_find (fun _ => 1) q l with ⟨h1, h2⟩ | ⟨h1, i, h2⟩
  · exact Or.inr ⟨h1, h2⟩
  · exact Or.inl ⟨h1, i, h2⟩
theorem rising_fresh {α : Type} (g : α → Int) {l : List α} (hr : Rising (l.map g)) {i : Nat} (hi : i < l.length) : g l[i] ∉ (l.take i).map g := by
  intro hm
  have hp := rising_pair hr
  rw [List.pairwise_iff_getElem] at hp
  obtain ⟨x, hx, e⟩ := List.mem_map.1 hm
  obtain ⟨j, hj, e2⟩ := List.getElem_of_mem hx
  rw [List.length_take] at hj
  have h1 := hp j i (by simp; omega) (by simp; omega) (by omega)
  rw [List.getElem_take] at e2
  simp only [List.getElem_map, e2, e] at h1
  omega
theorem bare_spec (s : Sta) (hl : s.ls.length ≤ maxLen) (hr : Rising (s.ls.map (·.t))) (hp : List IObj) (hlt : ltObjs hp.length hp = true) (K : V → List IObj → Prop) (hk : K (.fn (.func 107) [.ptr hp.length 0, .ptr (hp.length + 2) 0]) (hp ++ [stC b s, .map s.ls.length (encM I (numA (fun _ => 1) (s.ls.map (·.t)))), .var [.map (hp.length + 1)]])) : CallK Try.prog 51 [.d (encSt b s)] hp K := by
  refine callS (fn := Try.f51) [] [] mixed (bodyOf Try.f51) [.tmp 2] Try.func51 rfl rfl (by decide) 18 rfl (by kernel_rfl) ?_
  simp -implicitDefEqProofs [↓gd_tt, ↓gd_ff, ↓gd_tf, ↓gd_ft, bodyOf, Try.f51, stripC, stripL, stripM, onsOf, upto, hintOf, freeOf, List.replicate]
  refine loopA mixed [false, false, false, false, false, true, false, false, false, false, true, true, true, true, true, true, true, true] (fun (j : Nat) => [(10, .d (I j))]) (fun (j : Nat) => hp ++ [stC b s, .map j (encM I (numA (fun _ => 1) ((s.ls.map (·.t)).take j))), .var [.map (hp.length + 1)]]) (fun (j : Nat) => j ≤ s.ls.length) (fun (j : Nat) => s.ls.length - j) (0) (Nat.zero_le _) (by simp [ltObjs_append, ltObjs, IObj.lt, V.ltL, V.lt, numA, encM, constV_nilf]; exact ⟨ltObjs_mono (by simp) hlt, by rw [List.take_of_length_le (by simp)]⟩) ?_
  rintro j hx
  rcases Nat.lt_or_eq_of_le hx with hjl | hjl
  · have hfd := numA_find (fun _ => 1) s.ls[j].t ((s.ls.map (·.t)).take j)
    have hfr := rising_fresh (fun x : Le => x.t) hr hjl
    have hwj := wrap1 hl hjl
    have hta : (s.ls.map (·.t)).take (j + 1) = (s.ls.map (·.t)).take j ++ [s.ls[j].t] := by rw [List.take_add_one, List.getElem?_eq_getElem (by simpa using hjl)]; simp
    rcases hfd with ⟨h3, h4⟩ | ⟨h3, q, h4⟩
    · simp -implicitDefEqProofs [↓gd_tt, ↓gd_ff, ↓gd_tf, ↓gd_ft, hjl, keyOKI, h4, hwj]
      refine ⟨j + 1, by omega, by omega, rfl, by simp [constV_nilf], ?_, ?_⟩
      · rw [ltObjs_append, Bool.and_eq_true]
        exact ⟨ltObjs_mono (by simp) hlt, by simp [ltObjs, IObj.lt, V.ltL, V.lt, numA_lt]⟩
      · have hlen : ((s.ls.map (·.t)).take j).length = j := by simp; omega
        have htk : ∀ (A : List IObj) (a c d e : IObj), (A ++ [a, c, d, e]).take (A.length + 3) = A ++ [a, c, d] := fun A a c d e => by
          rw [show A ++ [a, c, d, e] = (A ++ [a, c, d]) ++ [e] by simp]
          exact List.take_left' (by simp)
        rw [htk, hta, numA_snoc, ← encM_append, hlen]
    · exact absurd h3 (by rw [← List.map_take]; exact hfr)
  · have htj : (s.ls.map (·.t)).take j = s.ls.map (·.t) := by rw [hjl, ← List.length_map (f := fun x : Le => x.t)]; exact List.take_length
    rw [hjl] at htj
    simp -implicitDefEqProofs [↓gd_tt, ↓gd_ff, ↓gd_tf, ↓gd_ft, hjl, htj]
    exact hk
end Go.Idl
end
section
namespace Go.Idl
open Go.Proofs
set_option linter.unusedSimpArgs false
set_option linter.unusedVariables false
set_option maxRecDepth 8000
set_option maxHeartbeats 2000000
variable (b : Bool)

/-- whose the cores are -/
def ownI (ls : List Le) (A : AL Int) : Prop := (∀ q : Int, (aLook q A = none ∧ ∀ x ∈ ls, q ∉ x.cs) ∨ ∃ x ∈ ls, q ∈ x.cs ∧ aLook q A = some (.d (I x.t))) ∧ ∀ e ∈ A, ∃ t : Int, e.2.2 = .d (I t)
theorem ownI_lt {m : Nat} {ls : List Le} {A : AL Int} (h : ownI ls A) : V.ltL m ((encM I A).map fun x => x.2.2) = true := by
  have h2 := h.2
  clear h
  induction A with
  | nil => rfl
  | cons a A ih =>
    obtain ⟨t, e⟩ := h2 a (by simp)
    have := ih fun e he => h2 e (by simp [he])
    simp only [encM, List.map_cons, V.ltL] at this ⊢
    rw [this, e]; rfl
theorem ownI_nil : ownI [] [] := ⟨fun q => .inl ⟨rfl, by simp⟩, by simp⟩
/-- a part of a lease's cores -/
def partLe (x : Le) (j : Nat) : Le := { x with cs := x.cs.take j }
theorem ownI_zero {L : List Le} {A : AL Int} {x : Le} (h : ownI L A) : ownI (L ++ [partLe x 0]) A := ⟨fun q => by
  rcases h.1 q with ⟨h1, h2⟩ | ⟨y, h1, h2, h3⟩
  · refine .inl ⟨h1, fun y hy => ?_⟩
    rcases List.mem_append.1 hy with hy | hy
    · exact h2 y hy
    · rw [List.mem_singleton] at hy; subst hy; simp [partLe]
  · exact .inr ⟨y, List.mem_append_left _ h1, h2, h3⟩, h.2⟩
theorem ownI_all {L : List Le} {A : AL Int} {x : Le} {j : Nat} (hj : x.cs.length ≤ j) (h : ownI (L ++ [partLe x j]) A) : ownI (L ++ [x]) A := by
  have : partLe x j = x := by unfold partLe; rw [List.take_of_length_le hj]
  rwa [this] at h
theorem ownI_step {L : List Le} {A B : AL Int} {x : Le} {j : Nat} (hj : j < x.cs.length) (h : ownI (L ++ [partLe x j]) A) (hB : ∀ q, aLook q B = if q = x.cs[j] then some (.d (I x.t)) else aLook q A) (hv : ∀ e ∈ B, ∃ t : Int, e.2.2 = .d (I t)) : ownI (L ++ [partLe x (j + 1)]) B := by
  have hta : x.cs.take (j + 1) = x.cs.take j ++ [x.cs[j]] := by rw [List.take_add_one, List.getElem?_eq_getElem hj]; rfl
  refine ⟨fun q => ?_, hv⟩
  rw [hB]
  by_cases hq : q = x.cs[j]
  · rw [if_pos hq]
    exact .inr ⟨partLe x (j + 1), by simp, by show q ∈ x.cs.take (j + 1); rw [hta]; exact List.mem_append_right _ (List.mem_singleton.2 hq), rfl⟩
  · rw [if_neg hq]
    rcases h.1 q with ⟨h1, h2⟩ | ⟨y, h1, h2, h3⟩
    · refine .inl ⟨h1, fun y hy => ?_⟩
      rcases List.mem_append.1 hy with hy | hy
      · exact h2 y (List.mem_append_left _ hy)
      · rw [List.mem_singleton] at hy; subst hy
        have := h2 (partLe x j) (by simp)
        simp only [partLe] at this ⊢
        rw [hta, List.mem_append]
        rintro (h4 | h4)
        · exact this h4
        · exact hq (List.mem_singleton.1 h4)
    · rcases List.mem_append.1 h1 with hy | hy
      · exact .inr ⟨y, List.mem_append_left _ hy, h2, h3⟩
      · rw [List.mem_singleton] at hy; subst hy
        refine .inr ⟨partLe x (j + 1), by simp, ?_, h3⟩
        simp only [partLe] at h2 ⊢
        rw [hta]; exact List.mem_append_left _ h2
theorem two_spec (s : Sta) (n : Nd) (hl6 : s.ls.length ≤ 1000000) (hw1 : ∀ x ∈ s.ls, x.cs.length ≤ maxLen) (hr : Rising (s.ls.map (·.t))) : PCall Try.prog 48 [encSt b s, encNd n] (.d (.bool (twiceN s.ls n))) := by
  have hll := small6 hl6
  have hF : (onN n.id s.ls).length ≤ s.ls.length := List.length_filter_le _ _
  refine pcallS (fn := Try.f48) [] [] mixed (bodyOf Try.f48) [.cell 4 4] Try.func48 rfl rfl (by decide) 40 rfl (by kernel_rfl) ?_
  simp -implicitDefEqProofs [↓gd_tt, ↓gd_ff, ↓gd_tf, ↓gd_ft, bodyOf, Try.f48, stripC, stripL, stripM, onsOf, upto, hintOf, freeOf, List.replicate]
  refine on_spec b s n.id _ _ ?_
  simp -implicitDefEqProofs [↓gd_tt, ↓gd_ff, ↓gd_tf, ↓gd_ft]
  refine rangeYl mixed (on_yields b s n.id 5 6 hll) (by simp) (by simp) (by simp) (by simp [constV_nilf]) (by simp) (by intro y hy; obtain ⟨p, _, rfl⟩ := List.mem_map.1 hy; simp)
    (fun k hp => ∃ A : AL Int, ∃ c, hp = [stC b s, .var ((encNd n).flat.map V.d), .var [.d (.bool false)], .map c (encM I A), .var [.map 3], stC b s, .var [.d (I n.id)]] ∧ k ≤ (onN n.id s.ls).length ∧ ownI ((onN n.id s.ls).take k) A ∧ apart ((onN n.id s.ls).take k)) ⟨[], 0, rfl, Nat.zero_le _, ownI_nil, by simp [apart]⟩ (by rintro k hp ⟨A, c, rfl, _, ho, _⟩; have := ownI_lt (m := 7) ho; simp [ltObjs, IObj.lt, V.ltL, V.lt, this]) ?_ ?_
  · rintro k hp ⟨A, c, rfl, hk, ho, hap⟩ hik L0 L1 hL1
    have hk' : k < (onN n.id s.ls).length := by simpa using hik
    have hmem : (onN n.id s.ls)[k] ∈ s.ls := (List.mem_filter.1 (List.getElem_mem hk')).1
    have hcl := hw1 _ hmem
    simp only [List.getElem_map]
    have hL9 : L1.lt 9 = true := IObj.lt_mono (by simp) hL1
    have hsp : (onN n.id s.ls).take (k + 1) = (onN n.id s.ls).take k ++ [(onN n.id s.ls)[k]] := by rw [List.take_add_one, List.getElem?_eq_getElem hk']; rfl
    have htk : ∀ z ∈ (onN n.id s.ls).take k, z.t ≠ (onN n.id s.ls)[k].t := fun z hz e => by
      have hp0 := rising_pair hr
      rw [List.pairwise_map] at hp0
      have hp1 := (hp0.filter fun x => decide (x.n = n.id)).sublist (List.take_sublist (k + 1) _)
      have hsp2 := hsp
      unfold onN at hsp2 hz e
      rw [hsp2, List.pairwise_append] at hp1
      have := hp1.2.2 z hz _ (List.mem_singleton.2 rfl)
      omega
    have htw : ∀ z ∈ (onN n.id s.ls).take k, ∀ c ∈ (onN n.id s.ls)[k].cs, c ∈ z.cs → twiceN s.ls n = true := fun z hz c hc hcz => by
      unfold twiceN
      rw [Bool.not_eq_true', decide_eq_false_iff_not]
      intro h
      have h2 : ((onN n.id s.ls).take (k + 1)).Pairwise (fun y x => ∀ c ∈ x.cs, c ∉ y.cs) := List.Pairwise.sublist (List.take_sublist (k + 1) _) h
      rw [hsp, List.pairwise_append] at h2
      exact h2.2.2 z hz _ (List.mem_singleton.2 rfl) c hc hcz
    have hol : ∀ {L : List Le} {A : AL Int} {m : Nat}, ownI L A → V.ltL m ((encM I A).map fun x => x.2.2) = true := fun h => ownI_lt h
    rw [hsp]
    generalize (onN n.id s.ls)[k] = x at *
    generalize (onN n.id s.ls).take k = L at *
    simp -implicitDefEqProofs [↓gd_tt, ↓gd_ff, ↓gd_tf, ↓gd_ft]
    refine loopA mixed [false, false, false, false, false, false, false, false, true, true, true, false, false, false, false, false, false, false, false, false, true, true, true, true, true, true, true, true, true, true, true, true, true, true, true, true, true, true, true, true, true, true] (fun (y : Nat × AL Int × Nat) => [(20, .d (I y.1))]) (fun (y : Nat × AL Int × Nat) => [stC b s, .var ((encNd n).flat.map V.d), .var [.d (.bool false)], .map y.2.2 (encM I y.2.1), .var [.map 3], stC b s, .var [.d (I n.id)], L1, .var ((encLf b x).flat.map V.d)]) (fun (y : Nat × AL Int × Nat) => y.1 ≤ x.cs.length ∧ ownI (L ++ [partLe x y.1]) y.2.1 ∧ ∀ z ∈ L, ∀ c ∈ x.cs.take y.1, c ∉ z.cs) (fun (y : Nat × AL Int × Nat) => x.cs.length - y.1) ((0, A, c)) (⟨Nat.zero_le _, ownI_zero ho, by simp⟩) (by simp [ltObjs, IObj.lt, V.ltL, V.lt, constV_nilf, hol ho]; exact hL9) ?_
    rintro y hx
    obtain ⟨j, B, d⟩ := y
    obtain ⟨hj, ho2, hap2⟩ := hx
    simp only at hj ho2 hap2 ⊢
    rcases Nat.lt_or_eq_of_le hj with hjl | hjl
    · have hwj := wrap1 hcl hjl
      have hta : x.cs.take (j + 1) = x.cs.take j ++ [x.cs[j]] := by rw [List.take_add_one, List.getElem?_eq_getElem hjl]; rfl
      have hmf := mfind_enc (P := Try.prog) (kt := 3) (enck := I) keyEqI x.cs[j] B 0
      cases hf : aFind x.cs[j] B 0 with
      | none =>
        rw [hf] at hmf
        have hnl := aFind_none.1 hf
        have hst := ownI_step (B := B ++ [(d, x.cs[j], .d (I x.t))]) hjl ho2 (aLook_append hnl) (by
          intro e he
          rcases List.mem_append.1 he with he | he
          · exact ho2.2 e he
          · rw [List.mem_singleton] at he; subst he; exact ⟨_, rfl⟩)
        have hnx : ∀ z ∈ L ++ [partLe x j], x.cs[j] ∉ z.cs := by
          rcases ho2.1 x.cs[j] with ⟨_, h⟩ | ⟨_, _, _, h⟩
          · exact h
          · rw [hnl] at h; cases h
        simp -implicitDefEqProofs [↓gd_tt, ↓gd_ff, ↓gd_tf, ↓gd_ft, hjl, keyOKI, hmf, hwj]
        refine ⟨j + 1, _, ⟨by omega, hst, ?_⟩, by omega, rfl, ⟨ownI_lt hst, hL9⟩, encM_append _ _ _ _⟩
        intro z hz q hq
        rw [hta] at hq
        rcases List.mem_append.1 hq with hq | hq
        · exact hap2 z hz q hq
        · rw [List.mem_singleton.1 hq]; exact hnx z (List.mem_append_left _ hz)
      | some p =>
        obtain ⟨i, v⟩ := p
        rw [hf] at hmf
        have hlk : aLook x.cs[j] B = some v := by unfold aLook; rw [hf]; rfl
        rcases ho2.1 x.cs[j] with ⟨h, _⟩ | ⟨z, hz, hcz, h⟩
        · rw [hlk] at h; cases h
        rw [hlk] at h
        injection h with h; subst h
        rcases List.mem_append.1 hz with hz | hz
        · have ht := htw z hz x.cs[j] (List.getElem_mem hjl) hcz
          have hne := htk z hz
          simp -implicitDefEqProofs [↓gd_tt, ↓gd_ff, ↓gd_tf, ↓gd_ft, hjl, keyOKI, hmf, hwj, ht, hne]
          exact hol ho2
        · rw [List.mem_singleton] at hz; subst hz
          simp -implicitDefEqProofs [↓gd_tt, ↓gd_ff, ↓gd_tf, ↓gd_ft, hjl, keyOKI, hmf, hwj, show (partLe x j).t = x.t from rfl]
          have hst := ownI_step (B := B.modify i fun e => (e.1, e.2.1, .d (I x.t))) hjl ho2 (aLook_modify hf) (by
            intro e he
            obtain ⟨q, hq, rfl⟩ := List.getElem_of_mem he
            rw [List.getElem_modify]
            split
            · exact ⟨_, rfl⟩
            · exact ho2.2 _ (List.getElem_mem _))
          refine ⟨j + 1, _, ⟨by omega, hst, ?_⟩, by omega, rfl, ⟨ownI_lt hst, hL9⟩, encM_modify _ _⟩
          intro w hw q hq
          rw [hta] at hq
          rcases List.mem_append.1 hq with hq | hq
          · exact hap2 w hw q hq
          · rw [List.mem_singleton.1 hq]; exact hap2 w hw _ hcz
    · simp -implicitDefEqProofs [↓gd_tt, ↓gd_ff, ↓gd_tf, ↓gd_ft, hjl]
      rw [hjl] at ho2 hap2
      refine ⟨hol ho2, B, rfl, by omega, ownI_all (Nat.le_refl _) ho2, ?_⟩
      unfold apart at hap ⊢
      rw [List.pairwise_append]
      refine ⟨hap, by simp, fun z hz y hy => ?_⟩
      rw [List.mem_singleton.1 hy]
      intro q hq
      exact hap2 z hz q (by rw [List.take_length]; exact hq)
  · rintro hp ⟨A, c, rfl, hk, ho, hap⟩
    have ht : (onN n.id s.ls).take ((onN n.id s.ls).map fun x => [V.d (encLf b x)]).length = onN n.id s.ls := List.take_of_length_le (by simp)
    rw [ht] at hap
    simp -implicitDefEqProofs [↓gd_tt, ↓gd_ff, ↓gd_tf, ↓gd_ft, twiceN, hap]
end Go.Idl
end
section
namespace Go.Idl
open Go.Proofs
set_option linter.unusedSimpArgs false
set_option linter.unusedVariables false
set_option maxRecDepth 8000
set_option maxHeartbeats 2000000
variable (b : Bool)

/-- the tasks in a map -/
def tasksA (b : Bool) (l : List Tk) : AL Int := l.zipIdx.map fun p => (p.2, p.1.id, .d (encTk b p.1))
theorem tasksA_snoc (l : List Tk) (t : Tk) : tasksA b (l ++ [t]) = tasksA b l ++ [(l.length, t.id, .d (encTk b t))] := by
  unfold tasksA
  rw [List.zipIdx_append, List.map_append]; simp
theorem tasksA_keys (l : List Tk) : (tasksA b l).map (·.2.1) = l.map (·.id) := by
  unfold tasksA
  rw [List.map_map]
  have : ((fun x : Nat × Int × V => x.2.1) ∘ fun p : Tk × Nat => (p.2, p.1.id, V.d (encTk b p.1))) = (fun t : Tk => t.id) ∘ Prod.fst := rfl
  rw [this, ← List.map_map, List.zipIdx_map_fst]
theorem tasksA_lt (m : Nat) (l : List Tk) : V.ltL m ((encM I (tasksA b l)).map fun x => x.2.2) = true := by
  unfold tasksA encM
  rw [List.map_map, List.map_map]
  have : ∀ L : List (Tk × Nat), V.ltL m (L.map (((fun x : Nat × D × V => x.2.2) ∘ fun e : Nat × Int × V => (e.1, I e.2.1, e.2.2)) ∘ fun p => (p.2, p.1.id, V.d (encTk b p.1)))) = true := fun L => by
    induction L with
    | nil => rfl
    | cons a L ih => simp only [List.map_cons, V.ltL, ih]; rfl
  exact this _
theorem take5 (A : List IObj) (a c d e f g : IObj) : (A ++ [a, c, d, e, f, g]).take (A.length + 5) = A ++ [a, c, d, e, f] := by
  rw [show A ++ [a, c, d, e, f, g] = (A ++ [a, c, d, e, f]) ++ [g] by simp]
  exact List.take_left' (by simp)
theorem astray_spec (s : Sta) (hl : s.ts.length ≤ maxLen) (hn : s.ns.length ≤ maxLen) (hr : Rising (s.ts.map (·.id))) (hr2 : Rising (s.ns.map (·.id))) (hp : List IObj) (hlt : ltObjs hp.length hp = true) (K : V → List IObj → Prop) (hk : K (.fn (.func 106) [.ptr (hp.length + 3) 0, .ptr (hp.length + 4) 0]) (hp ++ [stC b s, .map s.ts.length (encM I (tasksA b s.ts)), .map s.ns.length (encM I (numA (fun _ => 1) (s.ns.map (·.id)))), .var [.map (hp.length + 1)], .var [.map (hp.length + 2)]])) : CallK Try.prog 50 [.d (encSt b s)] hp K := by
  refine callS (fn := Try.f50) [] [] mixed (bodyOf Try.f50) [.tmp 2] Try.func50 rfl rfl (by decide) 34 rfl (by kernel_rfl) ?_
  simp -implicitDefEqProofs [↓gd_tt, ↓gd_ff, ↓gd_tf, ↓gd_ft, bodyOf, Try.f50, stripC, stripL, stripM, onsOf, upto, hintOf, freeOf, List.replicate]
  refine loopA mixed [false, false, false, false, false, false, true, false, false, false, false, false, false, false, true, true, true, true, true, true, true, true, true] (fun (j : Nat) => [(14, .d (I j))]) (fun (j : Nat) => hp ++ [stC b s, .map j (encM I (tasksA b (s.ts.take j))), .map 0 [], .var [.map (hp.length + 1)], .var [.map (hp.length + 2)]]) (fun (j : Nat) => j ≤ s.ts.length) (fun (j : Nat) => s.ts.length - j) (0) (Nat.zero_le _) (by simp [ltObjs_append, ltObjs, IObj.lt, V.ltL, V.lt, tasksA, encM, constV_nilf]; exact ⟨ltObjs_mono (by simp) hlt, by rw [List.take_of_length_le (by simp)]⟩) ?_
  rintro j hx
  rcases Nat.lt_or_eq_of_le hx with hjl | hjl
  · have hwj := wrap1 hl hjl
    have hta : s.ts.take (j + 1) = s.ts.take j ++ [s.ts[j]] := by rw [List.take_add_one, List.getElem?_eq_getElem hjl]; rfl
    have hmf := mfind_enc (P := Try.prog) (kt := 3) (enck := I) keyEqI s.ts[j].id (tasksA b (s.ts.take j)) 0
    have hnone : aFind s.ts[j].id (tasksA b (s.ts.take j)) 0 = none := aFind_none.2 (Classical.byContradiction fun h => rising_fresh (fun t : Tk => t.id) hr hjl (by have := aLook_mem.1 h; rwa [tasksA_keys] at this))
    rw [hnone] at hmf
    simp -implicitDefEqProofs [↓gd_tt, ↓gd_ff, ↓gd_tf, ↓gd_ft, hjl, keyOKI, hmf, hwj]
    have hlen : (s.ts.take j).length = j := by simp; omega
    refine ⟨j + 1, by omega, by omega, rfl, by simp [constV_nilf], ?_, ?_⟩
    · rw [ltObjs_append, Bool.and_eq_true]
      exact ⟨ltObjs_mono (by simp) hlt, by simp [ltObjs, IObj.lt, V.ltL, V.lt, tasksA_lt]⟩
    · rw [take5, hta, tasksA_snoc, ← encM_append, hlen]; rfl
  · rw [hjl, List.take_length]
    simp -implicitDefEqProofs [↓gd_tt, ↓gd_ff, ↓gd_tf, ↓gd_ft]
    clear hx hjl
    refine loopA mixed [false, false, false, false, false, false, false, false, true, false, false, false, false, false, false, false, false, false, false, false, false, false, false, false, false, false, true, true, true, true, true, true, true, true] (fun (j : Nat) => [(26, .d (I j))]) (fun (j : Nat) => hp ++ [stC b s, .map s.ts.length (encM I (tasksA b s.ts)), .map j (encM I (numA (fun _ => 1) ((s.ns.map (·.id)).take j))), .var [.map (hp.length + 1)], .var [.map (hp.length + 2)]]) (fun (j : Nat) => j ≤ s.ns.length) (fun (j : Nat) => s.ns.length - j) (0) (Nat.zero_le _) (by simp [ltObjs_append, ltObjs, IObj.lt, V.ltL, V.lt, tasksA_lt, numA, encM, constV_nilf]; exact ⟨⟨ltObjs_mono (by simp) hlt, by have := tasksA_lt b (hp.length + 5) s.ts; simpa [encM] using this⟩, by rw [List.take_of_length_le (by simp)]⟩) ?_
    rintro j hx
    rcases Nat.lt_or_eq_of_le hx with hjl | hjl
    · have hwj := wrap1 hn hjl
      have hta : (s.ns.map (·.id)).take (j + 1) = (s.ns.map (·.id)).take j ++ [s.ns[j].id] := by rw [List.take_add_one, List.getElem?_eq_getElem (by simpa using hjl)]; simp
      rcases numA_find (fun _ => 1) s.ns[j].id ((s.ns.map (·.id)).take j) with ⟨h3, h4⟩ | ⟨h3, q, h4⟩
      · simp -implicitDefEqProofs [↓gd_tt, ↓gd_ff, ↓gd_tf, ↓gd_ft, hjl, keyOKI, h4, hwj]
        have hlen : ((s.ns.map (·.id)).take j).length = j := by simp; omega
        refine ⟨j + 1, by omega, by omega, rfl, by simp [constV_nilf], ?_, ?_⟩
        · rw [ltObjs_append, Bool.and_eq_true]
          exact ⟨ltObjs_mono (by simp) hlt, by simp [ltObjs, IObj.lt, V.ltL, V.lt, tasksA_lt, numA_lt]⟩
        · rw [take5, hta, numA_snoc, ← encM_append, hlen]
      · exact absurd h3 (by rw [← List.map_take]; exact rising_fresh (fun n : Nd => n.id) hr2 hjl)
    · have htj : (s.ns.map (·.id)).take s.ns.length = s.ns.map (·.id) := List.take_of_length_le (by simp)
      simp -implicitDefEqProofs [↓gd_tt, ↓gd_ff, ↓gd_tf, ↓gd_ft, hjl, htj]
      exact hk
end Go.Idl
end
