/- The program's audit: what astray's answer says of a lease.; The program's audit: audit.Check.; What lists of leases are, as data.; What a state is, as data.; The statement AuditStates.; Slices that are held whole: from a held slice to an array of the memory, and back.; Held slices: what is used at regions that are left whole; one array out of a memory. -/
import Derived.Test.YtkfpaffcglijeaaAuditOrderPart19
import Derived.Test.YtkfpaffcglijeaaAuditOrderPart15
import Derived.Test.YtkfpaffcglijeaaAuditOrderPart16
import Derived.Test.YtkfpaffcglijeaaAuditOrderPart18
set_option linter.all false
section
namespace Go.Idl
open Go.Proofs
set_option linter.unusedSimpArgs false
set_option linter.unusedVariables false
set_option maxRecDepth 8000
set_option maxHeartbeats 2000000
variable (b : Bool)

theorem tasksA_find {l : List Tk} {q : Int} {i : Nat} {v : V} (h : aFind q (tasksA b l) 0 = some (i, v)) : ∃ t ∈ l, v = .d (encTk b t) ∧ t.id = q := by
  have : ∀ (A : AL Int) (b0 : Nat), (∀ x ∈ A, ∃ t ∈ l, x.2.2 = .d (encTk b t) ∧ t.id = x.2.1) → ∀ i v, aFind q A b0 = some (i, v) → ∃ t ∈ l, v = .d (encTk b t) ∧ t.id = q := by
    intro A
    induction A with
    | nil => intro b0 _ i v h; cases h
    | cons x A ih =>
      obtain ⟨n, k, w⟩ := x
      intro b0 hA i v h
      simp only [aFind] at h
      split at h
      · rename_i hq
        injection h with h; injection h with _ h2
        obtain ⟨t, ht, e1, e2⟩ := hA (n, k, w) (by simp)
        exact ⟨t, ht, by rw [← h2]; exact e1, by rw [hq]; exact e2⟩
      · exact ih (b0 + 1) (fun x hx => hA x (by simp [hx])) i v h
  exact this _ 0 (fun x hx => by
    unfold tasksA at hx
    obtain ⟨⟨t, j⟩, hm, rfl⟩ := List.mem_map.1 hx
    exact ⟨t, List.fst_mem_of_mem_zipIdx hm, rfl, rfl⟩) i v h
theorem astray1_spec (s : Sta) (x : Le) (ka kb m1 m2 c1 c2 : Nat) (hr : Rising (s.ts.map (·.id))) (hp : List IObj) (K : V → List IObj → Prop) (hl : x.cs.length ≤ maxLen)
    (g1 : hp[ka]? = some (.var [.map m1])) (g2 : hp[kb]? = some (.var [.map m2])) (g3 : hp[m1]? = some (.map c1 (encM I (tasksA b s.ts)))) (g4 : hp[m2]? = some (.map c2 (encM I (numA (fun _ => 1) (s.ns.map (·.id))))))
    (hlo : ltObjs hp.length hp = true) (hk : K (.d (.bool (astrayB s.ns s.ts x))) hp) : CallK Try.prog 106 [.d (encLf b x), .ptr ka 0, .ptr kb 0] hp K := by
  have hka : ka < hp.length := (List.getElem?_eq_some_iff.1 g1).1
  have hkb : kb < hp.length := (List.getElem?_eq_some_iff.1 g2).1
  have h1 : m1 < hp.length := (List.getElem?_eq_some_iff.1 g3).1
  have h2 : m2 < hp.length := (List.getElem?_eq_some_iff.1 g4).1
  have hmf := mfind_enc (P := Try.prog) (kt := 3) (enck := I) keyEqI x.t (tasksA b s.ts) 0
  refine callK_cut ?_
  rcases numA_find (fun _ => 1) x.n (s.ns.map (·.id)) with ⟨h3, h4⟩ | ⟨h3, q, h4⟩
  · cases hf : aFind x.t (tasksA b s.ts) 0 with
    | none =>
      rw [hf] at hmf
      refine callS (fn := Try.f106) [] [] mixed (bodyOf Try.f106) [.tmp 4] Try.func106 rfl rfl (by decide) 54 rfl (by kernel_rfl) ?_
      simp -implicitDefEqProofs [↓gd_tt, ↓gd_ff, ↓gd_tf, ↓gd_ft, bodyOf, Try.f106, stripC, stripL, stripM, onsOf, upto, hintOf, freeOf, List.replicate, g1, g2, g3, g4, hmf, h4, keyOKI, List.getElem?_append_left hka, List.getElem?_append_left hkb, List.getElem?_append_left h1, List.getElem?_append_left h2]
      have ea : astrayB s.ns s.ts x = true := by
        have : (s.ns.any fun n => decide (n.id = x.n)) = false := List.any_eq_false.2 fun n hn => by
          simp only [decide_eq_true_eq]; exact fun e => h3 (List.mem_map.2 ⟨n, hn, e⟩)
        unfold astrayB; rw [this]; rfl
      rw [ea] at hk
      simp -implicitDefEqProofs [↓gd_tt, ↓gd_ff, ↓gd_tf, ↓gd_ft, hlo, hk]
    | some p =>
      obtain ⟨i, v⟩ := p
      obtain ⟨t, ht, hv, hid⟩ := tasksA_find b hf
      subst hv
      rw [hf] at hmf
      have ea : astrayB s.ns s.ts x = true := by
        have : (s.ns.any fun n => decide (n.id = x.n)) = false := List.any_eq_false.2 fun n hn => by
          simp only [decide_eq_true_eq]; exact fun e => h3 (List.mem_map.2 ⟨n, hn, e⟩)
        unfold astrayB; rw [this]; rfl
      rw [ea] at hk
      refine callS (fn := Try.f106) [] [] mixed (bodyOf Try.f106) [.tmp 4] Try.func106 rfl rfl (by decide) 54 rfl (by kernel_rfl) ?_
      simp -implicitDefEqProofs [↓gd_tt, ↓gd_ff, ↓gd_tf, ↓gd_ft, bodyOf, Try.f106, stripC, stripL, stripM, onsOf, upto, hintOf, freeOf, List.replicate, g1, g2, g3, g4, hmf, h4, keyOKI, List.getElem?_append_left hka, List.getElem?_append_left hkb, List.getElem?_append_left h1, List.getElem?_append_left h2]
      simp -implicitDefEqProofs [↓gd_tt, ↓gd_ff, ↓gd_tf, ↓gd_ft, hlo, hk]
  · have hex : (s.ns.any fun n => decide (n.id = x.n)) = true := by
      obtain ⟨n, hn, e⟩ := List.mem_map.1 h3
      exact List.any_eq_true.2 ⟨n, hn, by simpa using e⟩
    cases hf : aFind x.t (tasksA b s.ts) 0 with
    | none =>
      have htn : tkOf s.ts x.t = none := tkOf_none.2 fun t ht e => by
        have := aFind_none.1 hf
        exact absurd this (aLook_mem.2 (by rw [tasksA_keys]; exact List.mem_map.2 ⟨t, ht, e⟩))
      rw [hf] at hmf
      have ea : astrayB s.ns s.ts x = true := by unfold astrayB; rw [htn]; simp
      rw [ea] at hk
      refine callS (fn := Try.f106) [] [] mixed (bodyOf Try.f106) [.tmp 4] Try.func106 rfl rfl (by decide) 54 rfl (by kernel_rfl) ?_
      simp -implicitDefEqProofs [↓gd_tt, ↓gd_ff, ↓gd_tf, ↓gd_ft, bodyOf, Try.f106, stripC, stripL, stripM, onsOf, upto, hintOf, freeOf, List.replicate, g1, g2, g3, g4, hmf, h4, keyOKI, List.getElem?_append_left hka, List.getElem?_append_left hkb, List.getElem?_append_left h1, List.getElem?_append_left h2]
      simp -implicitDefEqProofs [↓gd_tt, ↓gd_ff, ↓gd_tf, ↓gd_ft, hlo, hk]
    | some p =>
      obtain ⟨i, v⟩ := p
      obtain ⟨t, ht, hv, hid⟩ := tasksA_find b hf
      subst hv
      rw [hf] at hmf
      have htn : tkOf s.ts x.t = some t := by
        obtain ⟨j, hj, e⟩ := List.getElem_of_mem ht
        rw [← hid, ← e]; exact tkOf_at hr hj
      have ea : astrayB s.ns s.ts x = !fitT x t := by unfold astrayB; rw [htn, hex]; rfl
      rw [ea] at hk
      unfold fitT at hk
      refine callS (fn := Try.f106) [] [] mixed (bodyOf Try.f106) [.tmp 4] Try.func106 rfl rfl (by decide) 54 rfl (by kernel_rfl) ?_
      simp -implicitDefEqProofs [↓gd_tt, ↓gd_ff, ↓gd_tf, ↓gd_ft, bodyOf, Try.f106, stripC, stripL, stripM, onsOf, upto, hintOf, freeOf, List.replicate, g1, g2, g3, g4, hmf, h4, keyOKI, List.getElem?_append_left hka, List.getElem?_append_left hkb, List.getElem?_append_left h1, List.getElem?_append_left h2]
      by_cases q1 : t.st = 2 <;> by_cases q2 : t.st = 4 <;> by_cases q3 : t.q = x.q <;> by_cases q4 : t.c = (x.cs.length : Int) <;> by_cases q5 : t.m = x.m <;> simp_all
end Go.Idl
end
section
namespace Go.Idl
open Go.Proofs
set_option linter.unusedSimpArgs false
set_option linter.unusedVariables false
set_option maxRecDepth 8000
set_option maxHeartbeats 4000000
variable (b : Bool)

/-- a list of pairs that grows, in a variable -/
def lvP (xs : List (Int × Int)) : V := if xs = [] then .nil 2 else .own 2 (xs.map encV)
theorem lvP_lt (n : Nat) (xs : List (Int × Int)) : V.lt n (lvP xs) = true := by unfold lvP; split <;> rfl
theorem lvP_cases (xs : List (Int × Int)) : (xs = [] ∧ lvP xs = .nil 2) ∨ lvP xs = .own 2 (xs.map encV) := by
  unfold lvP
  split
  · rename_i h; exact .inl ⟨h, rfl⟩
  · exact .inr rfl
abbrev chkHp (b : Bool) (s : Sta) (v : V) : List IObj := [stC b s, .var [v], stC b s, .var (cpuC s), .var (memC s), .var [.ref 3 1 0 s.qs.length s.qs.length], .var [.ref 4 1 0 s.qs.length s.qs.length], stC b s, .var [.d (I 3)], .var [.fn (.func 47) []], stC b s, .var [.d (I 4)], .var [.fn (.func 48) []], stC b s, .map s.ts.length (encM I (tasksA b s.ts)), .map s.ns.length (encM I (numA (fun _ => 1) (s.ns.map (·.id)))), .var [.map 14], .var [.map 15], stC b s, .var [.d (I 5)], .var [.fn (.func 106) [.ptr 16 0, .ptr 17 0]], stC b s, .map s.ls.length (encM I (numA (fun _ => 1) (s.ls.map (·.t)))), .var [.map 22], stC b s, .var [.d (I 7)], .var [.fn (.func 43) [.ptr 0 0]],
  .var [.fn (.func 101) [.ptr 2 0, .ptr 5 0, .ptr 6 0], .fn (.func 103) [.ptr 7 0, .ptr 9 0, .ptr 8 0], .fn (.func 103) [.ptr 10 0, .ptr 12 0, .ptr 11 0], .fn (.func 105) [.ptr 18 0, .ptr 20 0, .ptr 19 0], .fn (.func 107) [.ptr 21 0, .ptr 23 0], .fn (.func 105) [.ptr 24 0, .ptr 26 0, .ptr 25 0]]]
def partsS (s : Sta) : List (List (Int × Int)) := [probQ s, probN s, probT s, probA s, probB s, probL s]
theorem probQ_yields (s : Sta) (hsm : s.small) (hc : check s.qs = 0) : Yields Try.prog 101 [.ptr 2 0, .ptr 5 0, .ptr 6 0] (fun hp => hp[2]? = some (stC b s) ∧ hp[5]? = some (.var [.ref 3 1 0 s.qs.length s.qs.length]) ∧ hp[6]? = some (.var [.ref 4 1 0 s.qs.length s.qs.length]) ∧ hp[3]? = some (.var (cpuC s)) ∧ hp[4]? = some (.var (memC s))) ((probQ s).map fun p => [.d (encV p)]) := by
  unfold probQ; rw [List.map_map]
  exact queues_yields b s 2 5 6 3 4 hsm.qs (small6 hsm.ls) hsm.cs hsm.m
theorem probN_yields (s : Sta) (hsm : s.small) : Yields Try.prog 103 [.ptr 7 0, .ptr 9 0, .ptr 8 0] (fun hp => hp[7]? = some (stC b s) ∧ hp[9]? = some (.var [.fn (.func 47) []]) ∧ hp[8]? = some (.var [.d (I 3)])) ((probN s).map fun p => [.d (encV p)]) := by
  unfold probN; rw [List.map_map]
  exact nodes_yields b s 3 47 (wrongN s.ls) 7 9 8 (small6 hsm.ns) (by simp) fun n hn => over_spec b s n hsm.ls hsm.cs hsm.m
theorem probT_yields (s : Sta) (hsm : s.small) (hr : Rising (s.ls.map (·.t))) : Yields Try.prog 103 [.ptr 10 0, .ptr 12 0, .ptr 11 0] (fun hp => hp[10]? = some (stC b s) ∧ hp[12]? = some (.var [.fn (.func 48) []]) ∧ hp[11]? = some (.var [.d (I 4)])) ((probT s).map fun p => [.d (encV p)]) := by
  unfold probT; rw [List.map_map]
  exact nodes_yields b s 4 48 (twiceN s.ls) 10 12 11 (small6 hsm.ns) (by simp) fun n hn => two_spec b s n hsm.ls hsm.cs hr
theorem probA_yields (s : Sta) (hsm : s.small) (hr : Rising (s.ts.map (·.id))) : Yields Try.prog 105 [.ptr 18 0, .ptr 20 0, .ptr 19 0] (fun hp => hp[18]? = some (stC b s) ∧ hp[20]? = some (.var [.fn (.func 106) [.ptr 16 0, .ptr 17 0]]) ∧ hp[19]? = some (.var [.d (I 5)]) ∧ (hp[16]? = some (.var [.map 14]) ∧ hp[17]? = some (.var [.map 15]) ∧ hp[14]? = some (.map s.ts.length (encM I (tasksA b s.ts))) ∧ hp[15]? = some (.map s.ns.length (encM I (numA (fun _ => 1) (s.ns.map (·.id))))))) ((probA s).map fun p => [.d (encV p)]) := by
  unfold probA; rw [List.map_map]
  refine leases_yields b s 5 106 [.ptr 16 0, .ptr 17 0] (astrayB s.ns s.ts) (fun hp => hp[16]? = some (.var [.map 14]) ∧ hp[17]? = some (.var [.map 15]) ∧ hp[14]? = some (.map s.ts.length (encM I (tasksA b s.ts))) ∧ hp[15]? = some (.map s.ns.length (encM I (numA (fun _ => 1) (s.ns.map (·.id)))))) 18 20 19 (small6 hsm.ls) (by simp) (by simp) (fun hp o h => ?_) (fun hp h => ?_) (fun x hx hp K h hlo hk => ?_)
  · obtain ⟨g1, g2, g3, g4⟩ := h
    have k1 := (List.getElem?_eq_some_iff.1 g2).1
    exact ⟨by rw [List.getElem?_append_left (by omega)]; exact g1, by rw [List.getElem?_append_left (by omega)]; exact g2, by rw [List.getElem?_append_left (by omega)]; exact g3, by rw [List.getElem?_append_left (by omega)]; exact g4⟩
  · have k1 := (List.getElem?_eq_some_iff.1 h.2.1).1
    simp [V.ltL, V.lt]; omega
  · obtain ⟨g1, g2, g3, g4⟩ := h
    exact astray1_spec b s x 16 17 14 15 _ _ hr hp K (hsm.cs x hx) g1 g2 g3 g4 hlo hk
theorem probB_yields (s : Sta) (hsm : s.small) : Yields Try.prog 107 [.ptr 21 0, .ptr 23 0] (fun hp => hp[21]? = some (stC b s) ∧ hp[23]? = some (.var [.map 22]) ∧ hp[22]? = some (.map s.ls.length (encM I (numA (fun _ => 1) (s.ls.map (·.t)))))) ((probB s).map fun p => [.d (encV p)]) := by
  unfold probB; rw [List.map_map]
  exact bare_yields b s 21 23 22 _ _ (small6 hsm.ts) (mark1_numA _)
theorem probL_yields (s : Sta) (hsm : s.small) : Yields Try.prog 105 [.ptr 24 0, .ptr 26 0, .ptr 25 0] (fun hp => hp[24]? = some (stC b s) ∧ hp[26]? = some (.var [.fn (.func 43) [.ptr 0 0]]) ∧ hp[25]? = some (.var [.d (I 7)]) ∧ hp[0]? = some (stC b s)) ((probL s).map fun p => [.d (encV p)]) := by
  unfold probL; rw [List.map_map]
  refine leases_yields b s 7 43 [.ptr 0 0] (timelessB s.now s.long) (fun hp => hp[0]? = some (stC b s)) 24 26 25 (small6 hsm.ls) (by simp) (by simp) (fun hp o h => ?_) (fun hp h => ?_) (fun x hx hp K h hlo hk => ?_)
  · have k1 := (List.getElem?_eq_some_iff.1 h).1
    rw [List.getElem?_append_left k1]; exact h
  · have k1 := (List.getElem?_eq_some_iff.1 h).1
    simp [V.ltL, V.lt]; omega
  · exact timeless_spec b s x hsm.now (hsm.u x hx) hsm.long h hlo hk
theorem cpuC_lt (m : Nat) (s : Sta) : V.ltL m (cpuC s) = true := by rw [← cpuL_full]; exact ltL_lv m _
theorem memC_lt (m : Nat) (s : Sta) : V.ltL m (memC s) = true := by rw [← memL_full]; exact ltL_lv m _
theorem renL_lv (ρ : List Nat) : ∀ C : List (List Int), V.renL ρ (C.map lv) = C.map lv
  | [] => rfl
  | x :: C => by
    have : V.ren ρ (lv x) = lv x := by unfold lv; split <;> rfl
    simp [V.renL, this, renL_lv ρ C]
theorem renL_cpuC (ρ : List Nat) (s : Sta) : V.renL ρ (cpuC s) = cpuC s := by rw [← cpuL_full]; exact renL_lv ρ _
theorem renL_memC (ρ : List Nat) (s : Sta) : V.renL ρ (memC s) = memC s := by rw [← memL_full]; exact renL_lv ρ _
theorem check_spec (s : Sta) (hsm : s.small) : PCall Try.prog 13 [encSt b s] (.d (.sl false 2 ((auditL s).map encV))) := by
  have f1 := formA_spec b s hsm.qs (small6 hsm.ns) (small6 hsm.ts) (small6 hsm.ls) (Nat.le_trans hsm.hs (by decide))
  refine pcallS (fn := Try.f13) [(29, 2)] [(5, 2000000)] mixed (bodyOf Try.f13) [.tmp 2] Try.func13 rfl rfl (by decide) 42 rfl (by kernel_rfl) ?_
  simp -implicitDefEqProofs [↓gd_tt, ↓gd_ff, ↓gd_tf, ↓gd_ft, bodyOf, Try.f13, stripC, stripL, stripM, onsOf, upto, hintOf, freeOf, List.replicate]
  refine callK_pcall f1 rfl rfl ?_
  by_cases hf : formA s
  case neg =>
    simp -implicitDefEqProofs [↓gd_tt, ↓gd_ff, ↓gd_tf, ↓gd_ft, hf, auditL]
  have hau : auditL s = probs s := by unfold auditL; rw [if_pos hf]
  rw [hau]
  obtain ⟨hc, r1, r2, r3, r4⟩ := id hf
  simp -implicitDefEqProofs [↓gd_tt, ↓gd_ff, ↓gd_tf, ↓gd_ft, hf]
  refine regionCh [(29, 2)] [1, 3, 5, 8, 9, 11, 14, 15, 16] [1, 3, 5, 8, 9, 11, 14, 15, 16] mixed (by kernel_rfl) ?_
  simp -implicitDefEqProofs [↓gd_tt, ↓gd_ff, ↓gd_tf, ↓gd_ft, stripL, stripM, onsOf, hintOf]
  refine x_end ?w1 (fun K0 hK0 => ?_) ?_
  case refine_1 =>
    simp -implicitDefEqProofs [↓gd_tt, ↓gd_ff, ↓gd_tf, ↓gd_ft, lx_zero, lx_succ, ll_nil, ll_cons]
    refine callK_frame (queues_spec b s hc hsm.ls (K := fun r hp' => r = .fn (.func 101) [.ptr 0 0, .ptr 3 0, .ptr 4 0] ∧ hp' = [stC b s, .var (cpuC s), .var (memC s), .var [.ref 1 1 0 s.qs.length s.qs.length], .var [.ref 2 1 0 s.qs.length s.qs.length]]) ⟨rfl, rfl⟩) [] ⟨rfl, List.nodup_nil, fun i j o h => by simp at h, rfl⟩ (by simp) (by simp) (by exact LeTm.refl _) ?_
    rintro r hp' ⟨rfl, rfl⟩
    simp -implicitDefEqProofs [↓gd_tt, ↓gd_ff, ↓gd_tf, ↓gd_ft, lx_zero, lx_succ, ll_nil, ll_cons, mergeHp, setObjs, renNew, IObj.ren, V.ren, V.renL, List.range', renL_cpuC, renL_memC]
    refine nodes_spec b s 3 _ _ _ _ (by simp) ?_
    simp -implicitDefEqProofs [↓gd_tt, ↓gd_ff, ↓gd_tf, ↓gd_ft, lx_zero, lx_succ, ll_nil, ll_cons]
    refine nodes_spec b s 4 _ _ _ _ (by simp) ?_
    simp -implicitDefEqProofs [↓gd_tt, ↓gd_ff, ↓gd_tf, ↓gd_ft, lx_zero, lx_succ, ll_nil, ll_cons]
    refine astray_spec b s (small6 hsm.ts) (small6 hsm.ns) r2 r1 _ ?h1 _ ?_
    case h1 => simp [ltObjs, IObj.lt, V.ltL, V.lt, cpuC_lt, memC_lt]
    simp -implicitDefEqProofs [↓gd_tt, ↓gd_ff, ↓gd_tf, ↓gd_ft, lx_zero, lx_succ, ll_nil, ll_cons]
    refine leases_spec b s 5 _ _ _ _ (by simp) ?_
    simp -implicitDefEqProofs [↓gd_tt, ↓gd_ff, ↓gd_tf, ↓gd_ft, lx_zero, lx_succ, ll_nil, ll_cons]
    refine bare_spec b s (small6 hsm.ls) r3 _ ?h2 _ ?_
    case h2 => simp [ltObjs, IObj.lt, V.ltL, V.lt, cpuC_lt, memC_lt, tasksA_lt, numA_lt]
    simp -implicitDefEqProofs [↓gd_tt, ↓gd_ff, ↓gd_tf, ↓gd_ft, lx_zero, lx_succ, ll_nil, ll_cons]
    refine leases_spec b s 7 _ _ _ _ (by simp) ?_
    simp -implicitDefEqProofs [↓gd_tt, ↓gd_ff, ↓gd_tf, ↓gd_ft, lx_zero, lx_succ, ll_nil, ll_cons]
    exact hK0
  refine loopA mixed [false, false, false, false, false, false, true, false, false, false, false, false, false, false, false, false, false, false, false, false, false, false, false, false, false, false, false, false, false, false, false, true, true, true, true, true, false, false, false, false, false, true] (fun (k : Nat × List (Int × Int)) => [(31, .d (I k.1))]) (fun (k : Nat × List (Int × Int)) => chkHp b s (lvP k.2)) (fun (k : Nat × List (Int × Int)) => k.1 ≤ 6 ∧ k.2 ++ ((partsS s).drop k.1).flatten = probs s) (fun (k : Nat × List (Int × Int)) => 6 - k.1) ((0, [])) (⟨Nat.zero_le _, by simp [partsS, probs]⟩) (by simp [ltObjs, IObj.lt, V.ltL, V.lt, cpuC_lt, memC_lt, tasksA_lt, numA_lt, lvP, constV_nilf]) ?_
  rintro k hx
  obtain ⟨k, X⟩ := k
  obtain ⟨hk, hX⟩ := hx
  simp only at hk hX ⊢
  have hlen := probs_len hsm hc
  have hXl : X.length + ((partsS s).drop k).flatten.length ≤ 6000000 := by
    have := congrArg List.length hX
    rw [List.length_append] at this
    rw [this]; simp [probs]; omega
  have hk7 : k = 0 ∨ k = 1 ∨ k = 2 ∨ k = 3 ∨ k = 4 ∨ k = 5 ∨ k = 6 := by omega
  rcases hk7 with rfl | rfl | rfl | rfl | rfl | rfl | rfl
  · have hXl2 : X.length + (probQ s).length ≤ 6000000 := by simp [partsS] at hXl; omega
    simp -implicitDefEqProofs [↓gd_tt, ↓gd_ff, ↓gd_tf, ↓gd_ft]
    refine rangeY mixed (probQ_yields b s hsm hc) (by simp) (by simp) (by simp) (by simp [V.ltL, V.lt, constV_nilf]) (by simp) (by intro y hy; obtain ⟨p, _, rfl⟩ := List.mem_map.1 hy; simp)
      (fun i hp => hp = chkHp b s (lvP (X ++ (probQ s).take i)) ∧ i ≤ (probQ s).length) ⟨by simp, Nat.zero_le _⟩ (by rintro i hp ⟨rfl, _⟩; refine ⟨by simp, by simp [ltObjs, IObj.lt, V.ltL, V.lt, cpuC_lt, memC_lt, tasksA_lt, numA_lt, lvP_lt], fun L => by simp⟩) ?_ ?_
    · rintro i hp ⟨rfl, hi⟩ hik L0 L1
      have hi' : i < (probQ s).length := by simpa using hik
      have hst : X ++ (probQ s).take (i + 1) = (X ++ (probQ s).take i) ++ [(probQ s)[i]] := by rw [List.take_add_one, List.getElem?_eq_getElem hi']; simp
      have hYl : (X ++ (probQ s).take i).length ≤ 6000000 := by simp; omega
      rw [hst]
      simp only [List.getElem_map]
      generalize (probQ s)[i] = p at *
      generalize X ++ (probQ s).take i = Y at *
      have bY : (Y.length + 1) * 16 ≤ 140737488355328 := by omega
      have hYp : lvP (Y ++ [p]) = .own 2 ((Y ++ [p]).map encV) := by unfold lvP; rw [if_neg (by simp)]
      rw [hYp]
      rcases lvP_cases Y with ⟨hye, hyv⟩ | hyv
      · subst hye
        rw [hyv]
        simp -implicitDefEqProofs [↓gd_tt, ↓gd_ff, ↓gd_tf, ↓gd_ft]
        exact ⟨⟨cpuC_lt _ s, memC_lt _ s, tasksA_lt b _ _, numA_lt _ _ _, numA_lt _ _ _⟩, hi'⟩
      · rw [hyv]
        simp -implicitDefEqProofs [↓gd_tt, ↓gd_ff, ↓gd_tf, ↓gd_ft, bY]
        exact ⟨⟨cpuC_lt _ s, memC_lt _ s, tasksA_lt b _ _, numA_lt _ _ _, numA_lt _ _ _⟩, hi'⟩
    · rintro hp ⟨rfl, hi⟩
      rw [List.take_of_length_le (by simp)]
      simp -implicitDefEqProofs [↓gd_tt, ↓gd_ff, ↓gd_tf, ↓gd_ft]
      refine ⟨1, X ++ (probQ s), ⟨by omega, by rw [← hX]; simp [partsS]⟩, by omega, rfl, ⟨lvP_lt _ _, cpuC_lt _ s, memC_lt _ s, tasksA_lt b _ _, numA_lt _ _ _, numA_lt _ _ _⟩, ?_⟩
      rfl
  · have hXl2 : X.length + (probN s).length ≤ 6000000 := by simp [partsS] at hXl; omega
    simp -implicitDefEqProofs [↓gd_tt, ↓gd_ff, ↓gd_tf, ↓gd_ft]
    refine rangeY mixed (probN_yields b s hsm) (by simp) (by simp) (by simp) (by simp [V.ltL, V.lt, constV_nilf]) (by simp) (by intro y hy; obtain ⟨p, _, rfl⟩ := List.mem_map.1 hy; simp)
      (fun i hp => hp = chkHp b s (lvP (X ++ (probN s).take i)) ∧ i ≤ (probN s).length) ⟨by simp, Nat.zero_le _⟩ (by rintro i hp ⟨rfl, _⟩; refine ⟨by simp, by simp [ltObjs, IObj.lt, V.ltL, V.lt, cpuC_lt, memC_lt, tasksA_lt, numA_lt, lvP_lt], fun L => by simp⟩) ?_ ?_
    · rintro i hp ⟨rfl, hi⟩ hik L0 L1
      have hi' : i < (probN s).length := by simpa using hik
      have hst : X ++ (probN s).take (i + 1) = (X ++ (probN s).take i) ++ [(probN s)[i]] := by rw [List.take_add_one, List.getElem?_eq_getElem hi']; simp
      have hYl : (X ++ (probN s).take i).length ≤ 6000000 := by simp; omega
      rw [hst]
      simp only [List.getElem_map]
      generalize (probN s)[i] = p at *
      generalize X ++ (probN s).take i = Y at *
      have bY : (Y.length + 1) * 16 ≤ 140737488355328 := by omega
      have hYp : lvP (Y ++ [p]) = .own 2 ((Y ++ [p]).map encV) := by unfold lvP; rw [if_neg (by simp)]
      rw [hYp]
      rcases lvP_cases Y with ⟨hye, hyv⟩ | hyv
      · subst hye
        rw [hyv]
        simp -implicitDefEqProofs [↓gd_tt, ↓gd_ff, ↓gd_tf, ↓gd_ft]
        exact ⟨⟨cpuC_lt _ s, memC_lt _ s, tasksA_lt b _ _, numA_lt _ _ _, numA_lt _ _ _⟩, hi'⟩
      · rw [hyv]
        simp -implicitDefEqProofs [↓gd_tt, ↓gd_ff, ↓gd_tf, ↓gd_ft, bY]
        exact ⟨⟨cpuC_lt _ s, memC_lt _ s, tasksA_lt b _ _, numA_lt _ _ _, numA_lt _ _ _⟩, hi'⟩
    · rintro hp ⟨rfl, hi⟩
      rw [List.take_of_length_le (by simp)]
      simp -implicitDefEqProofs [↓gd_tt, ↓gd_ff, ↓gd_tf, ↓gd_ft]
      refine ⟨2, X ++ (probN s), ⟨by omega, by rw [← hX]; simp [partsS]⟩, by omega, rfl, ⟨lvP_lt _ _, cpuC_lt _ s, memC_lt _ s, tasksA_lt b _ _, numA_lt _ _ _, numA_lt _ _ _⟩, ?_⟩
      rfl
  · have hXl2 : X.length + (probT s).length ≤ 6000000 := by simp [partsS] at hXl; omega
    simp -implicitDefEqProofs [↓gd_tt, ↓gd_ff, ↓gd_tf, ↓gd_ft]
    refine rangeY mixed (probT_yields b s hsm r3) (by simp) (by simp) (by simp) (by simp [V.ltL, V.lt, constV_nilf]) (by simp) (by intro y hy; obtain ⟨p, _, rfl⟩ := List.mem_map.1 hy; simp)
      (fun i hp => hp = chkHp b s (lvP (X ++ (probT s).take i)) ∧ i ≤ (probT s).length) ⟨by simp, Nat.zero_le _⟩ (by rintro i hp ⟨rfl, _⟩; refine ⟨by simp, by simp [ltObjs, IObj.lt, V.ltL, V.lt, cpuC_lt, memC_lt, tasksA_lt, numA_lt, lvP_lt], fun L => by simp⟩) ?_ ?_
    · rintro i hp ⟨rfl, hi⟩ hik L0 L1
      have hi' : i < (probT s).length := by simpa using hik
      have hst : X ++ (probT s).take (i + 1) = (X ++ (probT s).take i) ++ [(probT s)[i]] := by rw [List.take_add_one, List.getElem?_eq_getElem hi']; simp
      have hYl : (X ++ (probT s).take i).length ≤ 6000000 := by simp; omega
      rw [hst]
      simp only [List.getElem_map]
      generalize (probT s)[i] = p at *
      generalize X ++ (probT s).take i = Y at *
      have bY : (Y.length + 1) * 16 ≤ 140737488355328 := by omega
      have hYp : lvP (Y ++ [p]) = .own 2 ((Y ++ [p]).map encV) := by unfold lvP; rw [if_neg (by simp)]
      rw [hYp]
      rcases lvP_cases Y with ⟨hye, hyv⟩ | hyv
      · subst hye
        rw [hyv]
        simp -implicitDefEqProofs [↓gd_tt, ↓gd_ff, ↓gd_tf, ↓gd_ft]
        exact ⟨⟨cpuC_lt _ s, memC_lt _ s, tasksA_lt b _ _, numA_lt _ _ _, numA_lt _ _ _⟩, hi'⟩
      · rw [hyv]
        simp -implicitDefEqProofs [↓gd_tt, ↓gd_ff, ↓gd_tf, ↓gd_ft, bY]
        exact ⟨⟨cpuC_lt _ s, memC_lt _ s, tasksA_lt b _ _, numA_lt _ _ _, numA_lt _ _ _⟩, hi'⟩
    · rintro hp ⟨rfl, hi⟩
      rw [List.take_of_length_le (by simp)]
      simp -implicitDefEqProofs [↓gd_tt, ↓gd_ff, ↓gd_tf, ↓gd_ft]
      refine ⟨3, X ++ (probT s), ⟨by omega, by rw [← hX]; simp [partsS]⟩, by omega, rfl, ⟨lvP_lt _ _, cpuC_lt _ s, memC_lt _ s, tasksA_lt b _ _, numA_lt _ _ _, numA_lt _ _ _⟩, ?_⟩
      rfl
  · have hXl2 : X.length + (probA s).length ≤ 6000000 := by simp [partsS] at hXl; omega
    simp -implicitDefEqProofs [↓gd_tt, ↓gd_ff, ↓gd_tf, ↓gd_ft]
    refine rangeY mixed (probA_yields b s hsm r2) (by simp) (by simp) (by simp) (by simp [V.ltL, V.lt, constV_nilf]) (by simp) (by intro y hy; obtain ⟨p, _, rfl⟩ := List.mem_map.1 hy; simp)
      (fun i hp => hp = chkHp b s (lvP (X ++ (probA s).take i)) ∧ i ≤ (probA s).length) ⟨by simp, Nat.zero_le _⟩ (by rintro i hp ⟨rfl, _⟩; refine ⟨by simp, by simp [ltObjs, IObj.lt, V.ltL, V.lt, cpuC_lt, memC_lt, tasksA_lt, numA_lt, lvP_lt], fun L => by simp⟩) ?_ ?_
    · rintro i hp ⟨rfl, hi⟩ hik L0 L1
      have hi' : i < (probA s).length := by simpa using hik
      have hst : X ++ (probA s).take (i + 1) = (X ++ (probA s).take i) ++ [(probA s)[i]] := by rw [List.take_add_one, List.getElem?_eq_getElem hi']; simp
      have hYl : (X ++ (probA s).take i).length ≤ 6000000 := by simp; omega
      rw [hst]
      simp only [List.getElem_map]
      generalize (probA s)[i] = p at *
      generalize X ++ (probA s).take i = Y at *
      have bY : (Y.length + 1) * 16 ≤ 140737488355328 := by omega
      have hYp : lvP (Y ++ [p]) = .own 2 ((Y ++ [p]).map encV) := by unfold lvP; rw [if_neg (by simp)]
      rw [hYp]
      rcases lvP_cases Y with ⟨hye, hyv⟩ | hyv
      · subst hye
        rw [hyv]
        simp -implicitDefEqProofs [↓gd_tt, ↓gd_ff, ↓gd_tf, ↓gd_ft]
        exact ⟨⟨cpuC_lt _ s, memC_lt _ s, tasksA_lt b _ _, numA_lt _ _ _, numA_lt _ _ _⟩, hi'⟩
      · rw [hyv]
        simp -implicitDefEqProofs [↓gd_tt, ↓gd_ff, ↓gd_tf, ↓gd_ft, bY]
        exact ⟨⟨cpuC_lt _ s, memC_lt _ s, tasksA_lt b _ _, numA_lt _ _ _, numA_lt _ _ _⟩, hi'⟩
    · rintro hp ⟨rfl, hi⟩
      rw [List.take_of_length_le (by simp)]
      simp -implicitDefEqProofs [↓gd_tt, ↓gd_ff, ↓gd_tf, ↓gd_ft]
      refine ⟨4, X ++ (probA s), ⟨by omega, by rw [← hX]; simp [partsS]⟩, by omega, rfl, ⟨lvP_lt _ _, cpuC_lt _ s, memC_lt _ s, tasksA_lt b _ _, numA_lt _ _ _, numA_lt _ _ _⟩, ?_⟩
      rfl
  · have hXl2 : X.length + (probB s).length ≤ 6000000 := by simp [partsS] at hXl; omega
    simp -implicitDefEqProofs [↓gd_tt, ↓gd_ff, ↓gd_tf, ↓gd_ft]
    refine rangeY mixed (probB_yields b s hsm) (by simp) (by simp) (by simp) (by simp [V.ltL, V.lt, constV_nilf]) (by simp) (by intro y hy; obtain ⟨p, _, rfl⟩ := List.mem_map.1 hy; simp)
      (fun i hp => hp = chkHp b s (lvP (X ++ (probB s).take i)) ∧ i ≤ (probB s).length) ⟨by simp, Nat.zero_le _⟩ (by rintro i hp ⟨rfl, _⟩; refine ⟨by simp, by simp [ltObjs, IObj.lt, V.ltL, V.lt, cpuC_lt, memC_lt, tasksA_lt, numA_lt, lvP_lt], fun L => by simp⟩) ?_ ?_
    · rintro i hp ⟨rfl, hi⟩ hik L0 L1
      have hi' : i < (probB s).length := by simpa using hik
      have hst : X ++ (probB s).take (i + 1) = (X ++ (probB s).take i) ++ [(probB s)[i]] := by rw [List.take_add_one, List.getElem?_eq_getElem hi']; simp
      have hYl : (X ++ (probB s).take i).length ≤ 6000000 := by simp; omega
      rw [hst]
      simp only [List.getElem_map]
      generalize (probB s)[i] = p at *
      generalize X ++ (probB s).take i = Y at *
      have bY : (Y.length + 1) * 16 ≤ 140737488355328 := by omega
      have hYp : lvP (Y ++ [p]) = .own 2 ((Y ++ [p]).map encV) := by unfold lvP; rw [if_neg (by simp)]
      rw [hYp]
      rcases lvP_cases Y with ⟨hye, hyv⟩ | hyv
      · subst hye
        rw [hyv]
        simp -implicitDefEqProofs [↓gd_tt, ↓gd_ff, ↓gd_tf, ↓gd_ft]
        exact ⟨⟨cpuC_lt _ s, memC_lt _ s, tasksA_lt b _ _, numA_lt _ _ _, numA_lt _ _ _⟩, hi'⟩
      · rw [hyv]
        simp -implicitDefEqProofs [↓gd_tt, ↓gd_ff, ↓gd_tf, ↓gd_ft, bY]
        exact ⟨⟨cpuC_lt _ s, memC_lt _ s, tasksA_lt b _ _, numA_lt _ _ _, numA_lt _ _ _⟩, hi'⟩
    · rintro hp ⟨rfl, hi⟩
      rw [List.take_of_length_le (by simp)]
      simp -implicitDefEqProofs [↓gd_tt, ↓gd_ff, ↓gd_tf, ↓gd_ft]
      refine ⟨5, X ++ (probB s), ⟨by omega, by rw [← hX]; simp [partsS]⟩, by omega, rfl, ⟨lvP_lt _ _, cpuC_lt _ s, memC_lt _ s, tasksA_lt b _ _, numA_lt _ _ _, numA_lt _ _ _⟩, ?_⟩
      rfl
  · have hXl2 : X.length + (probL s).length ≤ 6000000 := by simp [partsS] at hXl; omega
    simp -implicitDefEqProofs [↓gd_tt, ↓gd_ff, ↓gd_tf, ↓gd_ft]
    refine rangeY mixed (probL_yields b s hsm) (by simp) (by simp) (by simp) (by simp [V.ltL, V.lt, constV_nilf]) (by simp) (by intro y hy; obtain ⟨p, _, rfl⟩ := List.mem_map.1 hy; simp)
      (fun i hp => hp = chkHp b s (lvP (X ++ (probL s).take i)) ∧ i ≤ (probL s).length) ⟨by simp, Nat.zero_le _⟩ (by rintro i hp ⟨rfl, _⟩; refine ⟨by simp, by simp [ltObjs, IObj.lt, V.ltL, V.lt, cpuC_lt, memC_lt, tasksA_lt, numA_lt, lvP_lt], fun L => by simp⟩) ?_ ?_
    · rintro i hp ⟨rfl, hi⟩ hik L0 L1
      have hi' : i < (probL s).length := by simpa using hik
      have hst : X ++ (probL s).take (i + 1) = (X ++ (probL s).take i) ++ [(probL s)[i]] := by rw [List.take_add_one, List.getElem?_eq_getElem hi']; simp
      have hYl : (X ++ (probL s).take i).length ≤ 6000000 := by simp; omega
      rw [hst]
      simp only [List.getElem_map]
      generalize (probL s)[i] = p at *
      generalize X ++ (probL s).take i = Y at *
      have bY : (Y.length + 1) * 16 ≤ 140737488355328 := by omega
      have hYp : lvP (Y ++ [p]) = .own 2 ((Y ++ [p]).map encV) := by unfold lvP; rw [if_neg (by simp)]
      rw [hYp]
      rcases lvP_cases Y with ⟨hye, hyv⟩ | hyv
      · subst hye
        rw [hyv]
        simp -implicitDefEqProofs [↓gd_tt, ↓gd_ff, ↓gd_tf, ↓gd_ft]
        exact ⟨⟨cpuC_lt _ s, memC_lt _ s, tasksA_lt b _ _, numA_lt _ _ _, numA_lt _ _ _⟩, hi'⟩
      · rw [hyv]
        simp -implicitDefEqProofs [↓gd_tt, ↓gd_ff, ↓gd_tf, ↓gd_ft, bY]
        exact ⟨⟨cpuC_lt _ s, memC_lt _ s, tasksA_lt b _ _, numA_lt _ _ _, numA_lt _ _ _⟩, hi'⟩
    · rintro hp ⟨rfl, hi⟩
      rw [List.take_of_length_le (by simp)]
      simp -implicitDefEqProofs [↓gd_tt, ↓gd_ff, ↓gd_tf, ↓gd_ft]
      refine ⟨6, X ++ (probL s), ⟨by omega, by rw [← hX]; simp [partsS]⟩, by omega, rfl, ⟨lvP_lt _ _, cpuC_lt _ s, memC_lt _ s, tasksA_lt b _ _, numA_lt _ _ _, numA_lt _ _ _⟩, ?_⟩
      rfl
  · simp [partsS] at hX
    subst hX
    rcases lvP_cases (probs s) with ⟨e1, e2⟩ | e2
    · rw [e1]
      simp -implicitDefEqProofs [↓gd_tt, ↓gd_ff, ↓gd_tf, ↓gd_ft, lvP]
    · rw [e2]
      simp -implicitDefEqProofs [↓gd_tt, ↓gd_ff, ↓gd_tf, ↓gd_ft]
end Go.Idl
end
section
namespace Go.Idl
open Go.Proofs
set_option linter.unusedSimpArgs false
set_option linter.unusedVariables false
set_option maxRecDepth 8000
theorem list8 {α : Type} {l : List α} (h : l.length = 8) : ∃ a b c d e f g i, l = [a, b, c, d, e, f, g, i] := by
  match l, h with
  | [a, b, c, d, e, f, g, i], _ => exact ⟨a, b, c, d, e, f, g, i, rfl⟩
theorem c4 : Try.prog.cellsOf 4 = 1 := by kernel_rfl
theorem c48 : Try.prog.cellsOf 48 = 1 := by kernel_rfl
theorem c86 : Try.prog.cellsOf 89 = 8 := by kernel_rfl
theorem b86 : Try.prog.bytesOf 89 = 80 := by kernel_rfl
structure Le.ok (x : Le) : Prop where
  t : In64 x.t
  q : In64 x.q
  n : In64 x.n
  m : In64 x.m
  s : In64 x.s
  u : In64 x.u
  len : x.cs.length ≤ maxLen
  bytes : x.cs.length * 8 ≤ reachBytes
  cs : ∀ c ∈ x.cs, In64 c
theorem tyd_ints {n : Nat} {ds : List D} (h : TyD Try.prog (n + 2) 48 ds) : ∃ l : List Int, ds = [.sl false 1 (l.map fun n => .int .i64 n)] ∧ l.length ≤ maxLen ∧ l.length * 8 ≤ reachBytes ∧ ∀ c ∈ l, In64 c := by
  unfold TyD at h; rw [Try.underlying48] at h
  obtain ⟨xs, rfl, h1, h2, h3⟩ := h
  rw [c3, b3] at *
  obtain ⟨l, rfl, hl⟩ := all_enc (enc := fun n : Int => (.int .i64 n : D)) (p := In64) (T := fun y => TyV Try.prog (n + 1) 3 y) (fun x hx => by
    obtain ⟨m, e, w⟩ := ty_int Try.underlying3 hx
    exact ⟨m, e, wf_in w⟩) xs (fun y hy => by
    obtain ⟨_, a, b, c⟩ := h3 y hy
    exact ⟨a, b, c⟩)
  exact ⟨l, rfl, by simpa using h1, by simpa using h2, hl⟩
theorem ty_l {n : Nat} {x : D} (h : TyV Try.prog (n + 3) 89 x) : ∃ y : Le, x = encLe y ∧ y.ok := by
  obtain ⟨cs, rfl, h1, h2⟩ := ty_agg Try.underlying89 h
  rw [c86] at h1
  obtain ⟨x1, x2, x3, x4, x5, x6, x7, x8, rfl⟩ := list8 h1
  simp [c2, c3, c4, c48] at h2
  obtain ⟨k1, k2, k3, k4, k5, k6, k7, k8⟩ := h2
  obtain ⟨a1, e1, w1⟩ := tyd_int Try.underlying3 k1
  obtain ⟨a2, e2, w2⟩ := tyd_int Try.underlying3 k2
  obtain ⟨a3, e3, w3⟩ := tyd_int Try.underlying3 k3
  obtain ⟨l, e4, w4, w5, w6⟩ := tyd_ints k4
  obtain ⟨a5, e5, w7⟩ := tyd_int Try.underlying2 k5
  obtain ⟨a6, e6, w8⟩ := tyd_int Try.underlying2 k6
  obtain ⟨a7, e7, w9⟩ := tyd_int Try.underlying2 k7
  obtain ⟨a8, e8⟩ := tyd_bool Try.underlying4 k8
  simp at e1 e2 e3 e4 e5 e6 e7 e8
  subst e1; subst e2; subst e3; subst e4; subst e5; subst e6; subst e7; subst e8
  exact ⟨⟨a1, a2, a3, l, a5, a6, a7, a8⟩, rfl, ⟨wf_in w1, wf_in w2, wf_in w3, wf_in w7, wf_in w8, wf_in w9, w4, w5, w6⟩⟩
end Go.Idl
end
section
namespace Go.Idl
open Go.Proofs
set_option linter.unusedSimpArgs false
set_option linter.unusedVariables false
set_option maxRecDepth 8000
theorem list5 {α : Type} {l : List α} (h : l.length = 5) : ∃ a b c d e, l = [a, b, c, d, e] := by
  match l, h with
  | [a, b, c, d, e], _ => exact ⟨a, b, c, d, e, rfl⟩
theorem c87 : Try.prog.cellsOf 87 = 5 := by kernel_rfl
theorem c91 : Try.prog.cellsOf 91 = 7 := by kernel_rfl
theorem c109 : Try.prog.cellsOf 109 = 2 := by kernel_rfl
theorem c28 : Try.prog.cellsOf 28 = 8 := by kernel_rfl
theorem b87 : Try.prog.bytesOf 87 = 40 := by kernel_rfl
theorem b91 : Try.prog.bytesOf 91 = 72 := by kernel_rfl
theorem b109 : Try.prog.bytesOf 109 = 16 := by kernel_rfl
theorem cqs : Try.prog.cellsOf 22 = 1 := by kernel_rfl
theorem cns : Try.prog.cellsOf 23 = 1 := by kernel_rfl
theorem cts : Try.prog.cellsOf 24 = 1 := by kernel_rfl
theorem cls : Try.prog.cellsOf 25 = 1 := by kernel_rfl
theorem chs : Try.prog.cellsOf 26 = 1 := by kernel_rfl
theorem ty_nd {n : Nat} {x : D} (h : TyV Try.prog (n + 3) 87 x) : ∃ y : Nd, x = encNd y ∧ y.ok := by
  obtain ⟨cs, rfl, h1, h2⟩ := ty_agg Try.underlying87 h
  rw [c87] at h1
  obtain ⟨x1, x2, x3, x4, x5, rfl⟩ := list5 h1
  simp [c2, c3] at h2
  obtain ⟨k1, k2, k3, k4, k5⟩ := h2
  obtain ⟨a1, e1, w1⟩ := tyd_int Try.underlying3 k1
  obtain ⟨a2, e2, w2⟩ := tyd_int Try.underlying3 k2
  obtain ⟨a3, e3, w3⟩ := tyd_int Try.underlying2 k3
  obtain ⟨a4, e4, w4⟩ := tyd_int Try.underlying3 k4
  obtain ⟨a5, e5, w5⟩ := tyd_int Try.underlying3 k5
  simp at e1 e2 e3 e4 e5
  subst e1; subst e2; subst e3; subst e4; subst e5
  exact ⟨⟨a1, a2, a3, a4, a5⟩, rfl, ⟨wf_in w1, wf_in w2, wf_in w3, wf_in w4, wf_in w5⟩⟩
theorem ty_hu {n : Nat} {x : D} (h : TyV Try.prog (n + 3) 109 x) : ∃ y : Hu, x = encHu y ∧ True := by
  obtain ⟨cs, rfl, h1, h2⟩ := ty_agg Try.underlying109 h
  rw [c109] at h1
  obtain ⟨x1, x2, rfl⟩ := list2 h1
  simp [c2, c3] at h2
  obtain ⟨k1, k2⟩ := h2
  obtain ⟨a1, e1, w1⟩ := tyd_int Try.underlying3 k1
  obtain ⟨a2, e2, w2⟩ := tyd_int Try.underlying2 k2
  simp at e1 e2
  subst e1; subst e2
  exact ⟨⟨a1, a2⟩, rfl, trivial⟩
theorem ty_tk {n : Nat} {x : D} (h : TyV Try.prog (n + 3) 91 x) : ∃ y : Tk, x = encTk false y ∧ y.ok := by
  obtain ⟨cs, rfl, h1, h2⟩ := ty_agg Try.underlying91 h
  rw [c91] at h1
  obtain ⟨x1, x2, x3, x4, x5, x6, x7, rfl⟩ := list7 h1
  simp [c2, c3, c41, c48] at h2
  obtain ⟨k1, k2, k3, k4, k5, k6⟩ := h2
  obtain ⟨a1, e1, w1⟩ := tyd_int Try.underlying3 k1
  obtain ⟨a2, e2, w2⟩ := tyd_int Try.underlying3 k2
  obtain ⟨a3, a4, e3, w3, w4⟩ := tyd_vec k3
  obtain ⟨a5, e5, w5⟩ := tyd_int Try.underlying3 k4
  obtain ⟨l, e6, w6, w7, w8⟩ := tyd_ints k5
  obtain ⟨a7, e7, w9⟩ := tyd_int Try.underlying3 k6
  simp at e1 e2 e3 e5 e6 e7
  obtain ⟨rfl, rfl⟩ := e3
  subst e1; subst e2; subst e5; subst e6; subst e7
  exact ⟨⟨a1, a2, a3, a4, a5, l, a7⟩, rfl, ⟨wf_in w1, wf_in w2, w3, w4, wf_in w5, wf_in w9, w6, w7, w8⟩⟩
theorem tyd_list {P : Program} {α : Type} {n : Nat} {t e : TypeId} {ds : List D} {enc : α → D} {p : α → Prop} (hu : P.underlying t = some (.slice e)) (hT : ∀ x, TyV P n e x → ∃ a, x = enc a ∧ p a) (h : TyD P (n + 1) t ds) :
    ∃ l : List α, ds = [.sl false (P.cellsOf e) (l.map enc)] ∧ l.length ≤ maxLen ∧ l.length * P.bytesOf e ≤ reachBytes ∧ ∀ a ∈ l, p a := by
  unfold TyD at h; rw [hu] at h
  obtain ⟨xs, rfl, h1, h2, h3⟩ := h
  obtain ⟨l, rfl, hl⟩ := all_enc (enc := enc) (p := p) (T := fun y => TyV P n e y) hT xs (fun y hy => by
    obtain ⟨_, a, b, c⟩ := h3 y hy
    exact ⟨a, b, c⟩)
  exact ⟨l, rfl, by simpa using h1, by simpa using h2, hl⟩
/-- what the type says of a state -/
structure Sta.ok (s : Sta) : Prop where
  long : In64 s.long
  now : In64 s.now
  pat : In64 s.pat
  qs : s.qs.length ≤ maxLen ∧ s.qs.length * 56 ≤ reachBytes ∧ ∀ q ∈ s.qs, q.ok
  ns : s.ns.length ≤ maxLen ∧ s.ns.length * 40 ≤ reachBytes ∧ ∀ n ∈ s.ns, n.ok
  ts : s.ts.length ≤ maxLen ∧ s.ts.length * 72 ≤ reachBytes ∧ ∀ t ∈ s.ts, t.ok
  ls : s.ls.length ≤ maxLen ∧ s.ls.length * 80 ≤ reachBytes ∧ ∀ x ∈ s.ls, x.ok
  hs : s.hs.length ≤ maxLen ∧ s.hs.length * 16 ≤ reachBytes
theorem ty_st {n : Nat} {x : D} (h : TyV Try.prog (n + 5) 28 x) : ∃ s : Sta, x = encSt false s ∧ s.ok := by
  obtain ⟨cs, rfl, h1, h2⟩ := ty_agg Try.underlying28 h
  rw [c28] at h1
  obtain ⟨x1, x2, x3, x4, x5, x6, x7, x8, rfl⟩ := list8 h1
  simp [c2, c3, cqs, cns, cts, cls, chs] at h2
  obtain ⟨k1, k2, k3, k4, k5, k6, k7, k8⟩ := h2
  obtain ⟨a1, e1, w1⟩ := tyd_int Try.underlying2 k1
  obtain ⟨a2, e2, w2⟩ := tyd_int Try.underlying2 k2
  obtain ⟨a3, e3, w3⟩ := tyd_int Try.underlying2 k3
  obtain ⟨l4, e4, w4⟩ := tyd_list Try.underlying22 (fun x hx => ty_q hx) k4
  obtain ⟨l5, e5, w5⟩ := tyd_list Try.underlying23 (fun x hx => ty_nd hx) k5
  obtain ⟨l6, e6, w6⟩ := tyd_list Try.underlying24 (fun x hx => ty_tk hx) k6
  obtain ⟨l7, e7, w7⟩ := tyd_list Try.underlying25 (fun x hx => ty_l hx) k7
  obtain ⟨l8, e8, w8⟩ := tyd_list Try.underlying26 (fun x hx => ty_hu hx) k8
  rw [c43, b43] at *
  rw [c87, b87] at *
  rw [c91, b91] at *
  rw [c86, b86] at *
  rw [c109, b109] at *
  simp only [List.cons.injEq, and_true] at e1 e2 e3 e4 e5 e6 e7 e8
  subst e1; subst e2; subst e3; subst e4; subst e5; subst e6; subst e7; subst e8
  exact ⟨⟨a1, a2, a3, l4, l5, l6, l7, l8⟩, rfl, ⟨wf_in w1, wf_in w3, wf_in w2, w4, w5, w6, w7, w8.1, w8.2.1⟩⟩
end Go.Idl
end
section
namespace Go.Idl
open Go.Proofs
set_option linter.unusedSimpArgs false
set_option linter.unusedVariables false
set_option maxRecDepth 8000
set_option maxHeartbeats 2000000

def sta0 : Sta := ⟨9, 0, 0, [⟨0, -1, 1, 9, 9, 0, 0⟩], [⟨1, 2, 5, 0, 0⟩], [], [⟨7, 0, 1, [0], 1, 0, 9, false⟩], []⟩
def staZ : Sta := ⟨0, 0, 0, [], [], [], [], []⟩
theorem sta0_small : sta0.small := by
  constructor <;> simp [sta0, In64] <;> decide
theorem staZ_small : staZ.small := by
  constructor <;> simp [staZ, In64] <;> decide
theorem audit0 : auditL sta0 = [(5, 7)] := by
  have hf : formA sta0 := ⟨by decide, fun j hj => by simp [sta0] at hj, fun j hj => by simp [sta0] at hj, fun j hj => by simp [sta0] at hj, fun j hj => by simp [sta0] at hj⟩
  unfold auditL; rw [if_pos hf]
  decide
theorem auditZ : auditL staZ = [(1, 0)] := by
  have hf : ¬ formA staZ := fun h => absurd h.1 (by decide)
  unfold auditL; rw [if_neg hf]
theorem awake12_spec : PCall Try.prog 11 [] (.d (.bool true)) := by
  have h1 := check_spec false sta0 sta0_small
  have h2 := check_spec false staZ staZ_small
  rw [audit0] at h1
  rw [auditZ] at h2
  refine pcallS (fn := Try.f11) [] [] mixed (bodyOf Try.f11) [.tmp 0] Try.func11 rfl rfl (by decide) 32 rfl (by kernel_rfl) ?_
  simp -implicitDefEqProofs [↓gd_tt, ↓gd_ff, ↓gd_tf, ↓gd_ft, bodyOf, Try.f11, stripC, stripL, stripM, onsOf, upto, hintOf, freeOf, List.replicate]
  refine callK_pcall h1 (by simp [sta0]) rfl ?_
  simp -implicitDefEqProofs [↓gd_tt, ↓gd_ff, ↓gd_tf, ↓gd_ft, eqAt]
  refine callK_pcall h2 (by simp [staZ]) rfl ?_
  simp -implicitDefEqProofs [↓gd_tt, ↓gd_ff, ↓gd_tf, ↓gd_ft]
theorem ok_small {s : Sta} (h : s.ok) (h1 : s.ts.length ≤ 200) (h2 : s.ls.length ≤ 200) (h3 : s.ns.length ≤ 200) : s.small := by
  have hr : reachBytes = 140737488351232 := rfl
  obtain ⟨q1, q2, q3⟩ := h.qs
  obtain ⟨n1, n2, n3⟩ := h.ns
  obtain ⟨l1, l2, l3⟩ := h.ls
  obtain ⟨g1, g2⟩ := h.hs
  exact ⟨q1, by omega, by omega, by omega, by omega, fun x hx => (l3 x hx).len, fun x hx => (l3 x hx).m, fun x hx => (l3 x hx).u, h.now, h.long, fun q hq => ⟨(q3 q hq).QC, (q3 q hq).QM⟩, fun n hn => (n3 n hn).m⟩
end Go.Idl
end
section
namespace Go.Idl
set_option linter.unusedSimpArgs false
set_option linter.unusedVariables false

theorem atom_rep {Φ Ψ : CM} {d : D} {v : Value} (h : RepD Φ d v) (ha : d.atom = true) : RepD Ψ d v := by
  cases h with
  | int k n => exact .int k n
  | bool b => exact .bool b
  | str s => exact .str s
  | con v hv => exact .con v hv
  | agg _ => simp [D.atom] at ha
  | sl0 => simp [D.atom] at ha
  | sl _ _ _ => simp [D.atom] at ha

section
variable {P : Program}

/-- **A held slice becomes an array of the memory.** -/
theorem SemC.thawCell {c : Code} {Q : Ex → St → Prop} {s : St} {id j z : Nat} {xs : List D} {cs : List V} (h1 : s.hp[id]? = some (.var cs)) (h2 : cs[j]? = some (.hold z xs))
    (h : ∀ cap rest, xs.length + rest.length = cap → (∀ x ∈ rest, x.plain = true) → SemC P c Q ⟨s.tm, s.hp.set id (.var (cs.set j (.ref s.hp.length z 0 xs.length cap))) ++ [.arr z (xs ++ rest)], s.nb⟩) : SemC P c Q s := by
  intro κ a w hr
  obtain ⟨Φ, B, au, hi⟩ := hr
  have hid : id < s.hp.length := (List.getElem?_eq_some_iff.1 h1).1
  have hidB : id < B.length := by rw [← hi.hl]; exact hid
  obtain ⟨b, c0, el, hb, q1, q2, q3, q4⟩ := hi.varAt h1
  obtain ⟨v, m1, m2, m3, m4⟩ := q4 j _ h2
  have hj : j < cs.length := (List.getElem?_eq_some_iff.1 h2).1
  obtain ⟨ad, cap, rfl, hcap, hold⟩ := m4
  rcases hold with h0 | ⟨b0, c1, el1, rest, rfl, k1, k2, k3, k4, k5⟩
  · subst h0
    have hx0 : xs = [] := List.length_eq_zero_iff.1 (by omega)
    subst hx0
    refine h 0 [] rfl (by simp) κ a w ⟨Φ, B ++ [0], au, ?_⟩
    have hB : ∀ (i b : Nat), B[i]? = some b → (B ++ [0])[i]? = some b := fun i b e => by
      rw [List.getElem?_append_left (List.getElem?_eq_some_iff.1 e).1]; exact e
    refine { hi with pre := hi.pre.trans (List.prefix_append _ _), tm := fun i V v hV hv => ⟨(hi.tm i V v hV hv).1.mono (CM.le_refl _) hB, (hi.tm i V v hV hv).2⟩, hl := by simp [hi.hl], nb := ⟨hi.nb.1, by have := hi.nb.2; simp; omega⟩, hp := fun id' o b' ho hb' => ?_ }
    by_cases hn : id' < s.hp.length
    · rw [List.getElem?_append_left (by simpa using hn), List.getElem?_set] at ho
      rw [List.getElem?_append_left (by rw [← hi.hl]; exact hn)] at hb'
      by_cases e : id = id'
      · subst e
        rw [if_pos rfl, if_pos hid] at ho
        injection ho with ho; subst ho
        rw [hb] at hb'; injection hb' with hb'; subst hb'
        refine ⟨q1, c0, el, q2, by simpa using q3, fun k V hk => ?_⟩
        rw [List.getElem?_set] at hk
        by_cases e2 : j = k
        · subst e2
          rw [if_pos rfl, if_pos hj] at hk
          injection hk with hk; subst hk
          exact ⟨_, m1, fun _ => trivial, .ref0, trivial⟩
        · rw [if_neg e2] at hk
          obtain ⟨x, g1, g2, g3, g4⟩ := q4 k V hk
          exact ⟨x, g1, g2, g3.mono (CM.le_refl _) hB, g4⟩
      · rw [if_neg e] at ho
        exact (hi.hp id' o b' ho hb').mono (CM.le_refl _) hB (fun e => ⟨e, rfl⟩) (fun j b st e => ⟨e, rfl⟩)
    · have hn1 : id' = s.hp.length := by
        have := (List.getElem?_eq_some_iff.1 ho).1; simp at this; omega
      subst hn1
      rw [List.getElem?_append_right (by simp)] at ho
      simp at ho
      subst ho
      exact fun hne => absurd rfl hne
  · have hplain : ∀ x ∈ rest, x.plain = true := fun x hx => by
      obtain ⟨i, hi2, rfl⟩ := List.getElem_of_mem hx
      exact (k5 (xs.length + i) _ (by rw [List.getElem?_append_right (by omega)]; simp [hi2])).2.1
    refine h cap rest k4 hplain κ a w ⟨Φ, B ++ [b0], fun b => if b = b0 then some (.obj s.hp.length, 0) else au b, ?_⟩
    have hB : ∀ (i b : Nat), B[i]? = some b → (B ++ [b0])[i]? = some b := fun i b e => by
      rw [List.getElem?_append_left (List.getElem?_eq_some_iff.1 e).1]; exact e
    have hau : ∀ b h0 st, au b = some (h0, st) → h0 ≠ .cell id j → (if b = b0 then some (Holder.obj s.hp.length, 0) else au b) = some (h0, st) := fun b h0 st e hn => by
      rw [if_neg]; exact e
      rintro rfl
      rw [k1] at e; injection e with e; injection e with e _; exact hn e.symm
    have hlast : (B ++ [b0])[s.hp.length]? = some b0 := by
      rw [hi.hl, List.getElem?_append_right (Nat.le_refl _)]; simp
    refine { hi with phia := fun lb b' o v h0 st hp ha => ?_, auw := fun b' h0 st ha => ?_, pre := hi.pre.trans (List.prefix_append _ _), tm := fun i V v hV hv => ?_, hl := by simp [hi.hl], nb := ⟨hi.nb.1, by have := hi.nb.2; simp; omega⟩, hp := fun id' o b' ho hb' => ?_, df := ?_ }
    · split at ha
      · rename_i e; subst e
        have := hi.phia _ _ _ _ _ _ hp k1
        omega
      · exact hi.phia _ _ _ _ _ _ hp ha
    · split at ha
      · rename_i e; subst e
        exact hi.auw _ _ _ k1
      · exact hi.auw _ _ _ ha
    · obtain ⟨g1, g2⟩ := hi.tm i V v hV hv
      exact ⟨g1.mono (CM.le_refl _) hB, g2.mono fun j b st e => ⟨hau b _ st e (by simp), rfl⟩⟩
    · by_cases hn : id' < s.hp.length
      · rw [List.getElem?_append_left (by simpa using hn), List.getElem?_set] at ho
        rw [List.getElem?_append_left (by rw [← hi.hl]; exact hn)] at hb'
        by_cases e : id = id'
        · subst e
          rw [if_pos rfl, if_pos hid] at ho
          injection ho with ho; subst ho
          rw [hb] at hb'; injection hb' with hb'; subst hb'
          refine ⟨hau _ _ _ q1 (by simp), c0, el, q2, by simpa using q3, fun k V hk => ?_⟩
          rw [List.getElem?_set] at hk
          by_cases e2 : j = k
          · subst e2
            rw [if_pos rfl, if_pos hj] at hk
            injection hk with hk; subst hk
            exact ⟨_, m1, fun _ => trivial, .ref hlast hcap fun _ => by rw [Nat.zero_mul], trivial⟩
          · rw [if_neg e2] at hk
            obtain ⟨x, g1, g2, g3, g4⟩ := q4 k V hk
            exact ⟨x, g1, g2, g3.mono (CM.le_refl _) hB, g4.mono fun _ b st e => ⟨hau b _ st e (by intro hh; injection hh with _ hh; exact e2 hh.symm), rfl⟩⟩
        · rw [if_neg e] at ho
          exact (hi.hp id' o b' ho hb').mono (CM.le_refl _) hB (fun e => ⟨hau _ _ _ e (by simp), rfl⟩) (fun j' b st e' => ⟨hau b _ st e' (by intro hh; injection hh with hh _; exact e hh.symm), rfl⟩)
      · have hn1 : id' = s.hp.length := by
          have := (List.getElem?_eq_some_iff.1 ho).1; simp at this; omega
        subst hn1
        rw [List.getElem?_append_right (by simp)] at ho
        simp at ho
        subst ho
        rw [hlast] at hb'; injection hb' with hb'; subst hb'
        intro _
        refine ⟨if_pos rfl, c1, el1, k2, by rw [k3, List.length_append, k4], fun i x hx => ?_⟩
        obtain ⟨g1, g2, g3⟩ := k5 i x hx
        refine ⟨g1, fun j d hd => ?_⟩
        obtain ⟨v, r1, r2, r3⟩ := g3 j d hd
        exact ⟨v, r1, r2, r3.mono fun _ _ _ _ e => by cases e⟩
    · obtain ⟨rs, g1, g2, g3⟩ := hi.df
      refine ⟨rs, g1, g2, fun r hr => ?_⟩
      obtain ⟨x, y, z⟩ := g3 r hr
      refine ⟨x, ?_, z⟩
      rw [if_neg]; exact y
      rintro rfl
      rw [k1] at y; cases y

/-- **An array that a variable alone names is held by it.** What lies behind it in the memory is forgotten. -/
theorem St.le_foldCell {s : St} {id j m z len cap : Nat} {cs : List V} {ys : List D} {tm : List V} (h1 : s.hp[id]? = some (.var cs)) (h2 : cs[j]? = some (.ref m z 0 len cap)) (h3 : s.hp[m]? = some (.arr z ys)) (hid : id < m) (hc : ys.length = cap) (hl : len ≤ cap)
    (hpl : ∀ y ∈ ys, y.plain = true) (ht : LeTm s.tm tm) (hlt : V.ltL m tm = true) (hlo : ltObjs m ((s.hp.set id (.var (cs.set j (.hold z (ys.take len))))).take m) = true) (hnb : s.nb ≤ m) :
    s.le ⟨tm, (s.hp.set id (.var (cs.set j (.hold z (ys.take len))))).take m, s.nb⟩ := by
  intro κ a w hr
  have hm : m < s.hp.length := (List.getElem?_eq_some_iff.1 h3).1
  -- first the array's holder is turned, then what is behind it is cut off
  suffices hs : Rel κ ⟨s.tm, s.hp.set id (.var (cs.set j (.hold z (ys.take len)))) |>.set m .free, s.nb⟩ a w by
    have := St.le_cut (s := ⟨s.tm, s.hp.set id (.var (cs.set j (.hold z (ys.take len)))) |>.set m .free, s.nb⟩) (tm := tm) m ht hlt (by
      rw [List.take_set_of_le (Nat.le_refl _)]; exact hlo) hnb (by simp; omega) κ a w hs
    simpa [List.take_set_of_le (Nat.le_refl m)] using this
  obtain ⟨Φ, B, au, hi⟩ := hr
  have hidl : id < s.hp.length := by omega
  obtain ⟨b, c0, el, hb, q1, q2, q3, q4⟩ := hi.varAt h1
  obtain ⟨v, m1, m2, m3, m4⟩ := q4 j _ h2
  have hj : j < cs.length := (List.getElem?_eq_some_iff.1 h2).1
  have hmB : m < B.length := by rw [← hi.hl]; exact hm
  have hbm : B[m]? = some B[m] := List.getElem?_eq_getElem hmB
  generalize B[m] = b0 at hbm
  have harr := hi.hp m _ b0 h3 hbm
  obtain ⟨ad, rfl⟩ : ∃ ad, v = .slice ad len cap := by cases m3 <;> exact ⟨_, rfl⟩
  have hlen : (ys.take len).length = len := by simp; omega
  by_cases hy : ys = []
  · subst hy
    have hc0 : cap = 0 := by simpa using hc.symm
    subst hc0
    have hl0 : len = 0 := by omega
    subst hl0
    refine ⟨Φ, B, au, { hi with hl := by simpa using hi.hl, nb := by simpa using hi.nb, hp := fun id' o b' ho hb' => ?_ }⟩
    rw [List.getElem?_set] at ho
    split at ho
    · split at ho
      · injection ho with ho; subst ho; trivial
      · cases ho
    · rename_i hne
      rw [List.getElem?_set] at ho
      by_cases e : id = id'
      · subst e
        rw [if_pos rfl, if_pos hidl] at ho
        injection ho with ho; subst ho
        rw [hb] at hb'; injection hb' with hb'; subst hb'
        refine ⟨q1, c0, el, q2, by simpa using q3, fun k V hk => ?_⟩
        rw [List.getElem?_set] at hk
        by_cases e2 : j = k
        · subst e2
          rw [if_pos rfl, if_pos hj] at hk
          injection hk with hk; subst hk
          exact ⟨_, m1, fun _ => trivial, .hold (xs := []) (fun h => absurd rfl h) (Nat.le_refl _), _, _, rfl, Nat.le_refl _, .inl rfl⟩
        · rw [if_neg e2] at hk
          exact q4 k V hk
      · rw [if_neg e] at ho
        exact hi.hp id' o b' ho hb'
  obtain ⟨p1, c1, el1, p2, p3, p4⟩ := harr hy
  have hpos : 0 < cap := by rw [← hc]; exact List.length_pos_iff.2 hy
  have had : ad = some ⟨b0, 0, none⟩ := by
    cases m3 with
    | ref0 => omega
    | ref hb' hle hh => rw [hbm] at hb'; injection hb' with hb'; subst hb'; rw [hh hpos, Nat.zero_mul]
  subst had
  have hau : ∀ b h0 st, au b = some (h0, st) → h0 ≠ .obj m → (if b = b0 then some (Holder.cell id j, 0) else au b) = some (h0, st) := fun b h0 st e hn => by
    rw [if_neg]; exact e
    rintro rfl
    rw [p1] at e; injection e with e; injection e with e _; exact hn e.symm
  refine ⟨Φ, B, fun b => if b = b0 then some (.cell id j, 0) else au b, { hi with phia := fun lb b' o v h0 st hp ha => ?_, auw := fun b' h0 st ha => ?_, tm := fun i V v hV hv => ?_, hl := by simpa using hi.hl, nb := by simpa using hi.nb, hp := fun id' o b' ho hb' => ?_, df := ?_ }⟩
  · split at ha
    · rename_i e; subst e
      have := hi.phia _ _ _ _ _ _ hp p1
      omega
    · exact hi.phia _ _ _ _ _ _ hp ha
  · split at ha
    · rename_i e; subst e
      exact hi.auw _ _ _ p1
    · exact hi.auw _ _ _ ha
  · obtain ⟨g1, g2⟩ := hi.tm i V v hV hv
    exact ⟨g1, g2.mono fun j b st e => ⟨hau b _ st e (by simp), rfl⟩⟩
  · rw [List.getElem?_set] at ho
    split at ho
    · split at ho
      · injection ho with ho; subst ho; trivial
      · cases ho
    · rename_i hne
      rw [List.getElem?_set] at ho
      by_cases e : id = id'
      · subst e
        rw [if_pos rfl, if_pos hidl] at ho
        injection ho with ho; subst ho
        rw [hb] at hb'; injection hb' with hb'; subst hb'
        refine ⟨hau _ _ _ q1 (by intro hh; injection hh with hh; omega), c0, el, q2, by simpa using q3, fun k V hk => ?_⟩
        rw [List.getElem?_set] at hk
        by_cases e2 : j = k
        · subst e2
          rw [if_pos rfl, if_pos hj] at hk
          injection hk with hk; subst hk
          refine ⟨_, m1, fun _ => trivial, by have := RepS.hold (Φ := Φ) (B := B) (z := z) (xs := ys.take len) (a := some ⟨b0, 0, none⟩) (cap := cap) (fun _ => ⟨_, rfl⟩) (by omega); rwa [hlen] at this, ?_⟩
          refine ⟨_, cap, by rw [hlen], by omega, .inr ⟨b0, c1, el1, ys.drop len, rfl, if_pos rfl, p2, by rw [p3, hc], by simp; omega, fun i x hx => ?_⟩⟩
          rw [List.take_append_drop] at hx
          obtain ⟨g1, g2⟩ := p4 i x hx
          have hxp := hpl x (List.mem_of_getElem? hx)
          refine ⟨g1, hxp, fun k d hd => ?_⟩
          obtain ⟨v, r1, r2, r3⟩ := g2 k d hd
          refine ⟨v, r1, r2, atom_rep r3 ?_⟩
          unfold D.plain at hxp
          rw [List.all_eq_true] at hxp
          exact hxp d (List.mem_of_getElem? hd)
        · rw [if_neg e2] at hk
          obtain ⟨x, g1, g2, g3, g4⟩ := q4 k V hk
          exact ⟨x, g1, g2, g3, g4.mono fun _ b st e => ⟨hau b _ st e (by simp), rfl⟩⟩
      · rw [if_neg e] at ho
        exact (hi.hp id' o b' ho hb').mono (CM.le_refl _) (fun _ _ h => h) (fun e' => ⟨hau _ _ _ e' (by intro hh; injection hh with hh; exact hne hh.symm), rfl⟩) (fun j' b st e' => ⟨hau b _ st e' (by simp), rfl⟩)
  · obtain ⟨rs, g1, g2, g3⟩ := hi.df
    refine ⟨rs, g1, g2, fun r hr => ?_⟩
    obtain ⟨x, y, z⟩ := g3 r hr
    refine ⟨x, ?_, z⟩
    rw [if_neg]; exact y
    rintro rfl
    rw [p1] at y; cases y
end
end Go.Idl
end
section
namespace Go.Idl
set_option linter.unusedSimpArgs false
set_option linter.unusedVariables false

/-- some slots forgotten -/
def blankS (is : List Nat) (tm : List V) : List V := is.foldl (fun t i => t.set i V.un) tm
theorem LeTm.of_un : ∀ {vs us : List V}, vs.length = us.length → (∀ (i : Nat) (u : V), us[i]? = some u → u = V.un ∨ vs[i]? = some u) → LeTm vs us
  | [], [], _, _ => .nil
  | v :: vs, u :: us, hl, h => by
    have ih := LeTm.of_un (vs := vs) (us := us) (by simpa using hl) fun i u hu => by
      have := h (i + 1) u (by simpa using hu); simpa using this
    rcases h 0 u rfl with rfl | e
    · exact .un ih
    · simp at e; subst e; exact .same ih
  | [], _ :: _, hl, _ => by simp at hl
  | _ :: _, [], hl, _ => by simp at hl
theorem blankS_len : ∀ (is : List Nat) (tm : List V), (blankS is tm).length = tm.length
  | [], _ => rfl
  | i :: is, tm => by
    show (blankS is (tm.set i .un)).length = _
    rw [blankS_len is]; simp
theorem blankS_get : ∀ (is : List Nat) (tm : List V) (i : Nat) (u : V), (blankS is tm)[i]? = some u → u = .un ∨ tm[i]? = some u
  | [], _, _, _, h => .inr h
  | k :: is, tm, i, u, h => by
    rcases blankS_get is (tm.set k .un) i u h with e | e
    · exact .inl e
    · rw [List.getElem?_set] at e
      split at e
      · split at e
        · injection e with e; exact .inl e.symm
        · cases e
      · exact .inr e
theorem blankS_le (is : List Nat) (tm : List V) : LeTm tm (blankS is tm) := LeTm.of_un (blankS_len is tm).symm (blankS_get is tm)
/-- an array that a variable alone names is held by it; some slots are forgotten -/
theorem St.le_fold {s : St} (is : List Nat) (id j m : Nat) {z len cap : Nat} {cs : List V} {ys : List D} (h1 : s.hp[id]? = some (.var cs)) (h2 : cs[j]? = some (.ref m z 0 len cap)) (h3 : s.hp[m]? = some (.arr z ys)) (hid : id < m) (hc : ys.length = cap) (hl : len ≤ cap)
    (hpl : ∀ y ∈ ys, y.plain = true) (hlt : V.ltL m (blankS is s.tm) = true) (hlo : ltObjs m ((s.hp.set id (.var (cs.set j (.hold z (ys.take len))))).take m) = true) (hnb : s.nb ≤ m) :
    s.le ⟨blankS is s.tm, (s.hp.set id (.var (cs.set j (.hold z (ys.take len))))).take m, s.nb⟩ := St.le_foldCell h1 h2 h3 hid hc hl hpl (blankS_le is s.tm) hlt hlo hnb
/-- a variable that is nil holds nothing -/
theorem St.le_nilHold {s : St} {id j z : Nat} {cs : List V} (h1 : s.hp[id]? = some (.var cs)) (h2 : cs[j]? = some (.nil z)) : s.le ⟨s.tm, s.hp.set id (.var (cs.set j (.hold z []))), s.nb⟩ := by
  rintro κ a w ⟨Φ, B, au, hi⟩
  have hid : id < s.hp.length := (List.getElem?_eq_some_iff.1 h1).1
  have hj : j < cs.length := (List.getElem?_eq_some_iff.1 h2).1
  refine ⟨Φ, B, au, { hi with hl := by simpa using hi.hl, nb := by simpa using hi.nb, hp := fun id' o b' ho hb' => ?_ }⟩
  rw [List.getElem?_set] at ho
  by_cases e : id = id'
  · subst e
    rw [if_pos rfl, if_pos hid] at ho
    injection ho with ho; subst ho
    obtain ⟨q1, c0, el, q2, q3, q4⟩ := hi.hp id _ b' h1 hb'
    refine ⟨q1, c0, el, q2, by simpa using q3, fun k V hk => ?_⟩
    rw [List.getElem?_set] at hk
    by_cases e2 : j = k
    · subst e2
      rw [if_pos rfl, if_pos hj] at hk
      injection hk with hk; subst hk
      obtain ⟨v, m1, m2, m3, _⟩ := q4 j _ h2
      obtain ⟨g1, g2⟩ := NilLe.rep (au := au) (w := w) (hd := fun _ => .cell id j) NilLe.hold m3
      exact ⟨v, m1, fun _ => m2 rfl, g1, g2⟩
    · rw [if_neg e2] at hk
      exact q4 k V hk
  · rw [if_neg e] at ho
    exact hi.hp id' o b' ho hb'
/-- of a memory that is all new, one array is kept, and the slot that names it -/
theorem St.le_pick {s : St} (d m : Nat) {z off len cap : Nat} {xs : List D} (h1 : s.hp[m]? = some (.arr z xs)) (h2 : s.tm[d]? = some (.ref m z off len cap)) (hn : s.nb = 0) :
    s.le ⟨(List.replicate s.tm.length .un).set d (.ref 0 z off len cap), [.arr z xs], 0⟩ := by
  rintro κ a w ⟨Φ, B, au, hi⟩
  have hm : m < s.hp.length := (List.getElem?_eq_some_iff.1 h1).1
  have hd : d < s.tm.length := (List.getElem?_eq_some_iff.1 h2).1
  have hmB : m < B.length := by rw [← hi.hl]; exact hm
  have hbm : B[m]? = some B[m] := List.getElem?_eq_getElem hmB
  generalize B[m] = b0 at hbm
  have harr := hi.hp m _ b0 h1 hbm
  have hκ : κ.B = [] := List.length_eq_zero_iff.1 (by have := hi.nb.1; omega)
  refine ⟨Φ, [b0], fun b => if b = b0 then (au b).map (fun p => (.obj 0, p.2)) else none, { hi with phia := fun lb b' o v h0 st hp ha => ?_, auw := fun b' h0 st ha => ?_, pre := by rw [hκ]; exact List.nil_prefix, tl := by simpa using hi.tl, tm := fun i V v hV hv => ?_, hl := rfl, nb := ⟨by rw [hκ]; exact Nat.le_refl _, Nat.zero_le _⟩, hp := fun id' o b' ho hb' => ?_, df := ?_ }⟩
  · split at ha
    · rename_i e; subst e
      simp only [Option.map_eq_some_iff] at ha
      obtain ⟨⟨h', st'⟩, e1, e2⟩ := ha
      injection e2 with e2 e3; subst e3
      exact hi.phia _ _ _ _ _ _ hp e1
    · cases ha
  · split at ha
    · rename_i e; subst e
      simp only [Option.map_eq_some_iff] at ha
      obtain ⟨⟨h', st'⟩, e1, e2⟩ := ha
      exact hi.auw _ _ _ e1
    · cases ha
  · simp only at hV
    rw [List.getElem?_set] at hV
    split at hV
    · rename_i e; subst e
      split at hV
      · injection hV with hV; subst hV
        have hr := (hi.tm d _ v h2 hv).1
        refine ⟨?_, trivial⟩
        cases hr with
        | ref0 => exact .ref0
        | ref hb' hle hh => rw [hbm] at hb'; injection hb' with hb'; subst hb'; exact .ref rfl hle hh
      · cases hV
    · have : V = .un := by
        rw [List.getElem?_replicate] at hV
        split at hV
        · injection hV with hV; exact hV.symm
        · cases hV
      subst this
      exact ⟨.un _, trivial⟩
  · cases id' with
    | succ k => simp at ho
    | zero =>
      simp at ho hb'; subst ho; subst hb'
      intro hne
      obtain ⟨p1, c1, el1, p2, p3, p4⟩ := harr hne
      exact ⟨by simp [p1], c1, el1, p2, p3, p4⟩
  · obtain ⟨rs, g1, g2, g3⟩ := hi.df
    refine ⟨rs, g1, g2, fun r hr => ?_⟩
    obtain ⟨x, y, z⟩ := g3 r hr
    refine ⟨x, ?_, z⟩
    split
    · simp [y]
    · rfl
end Go.Idl
end
