/- The program's audit: leases that are astray.; The program's audit: what astray's answer says of a lease.; The program's audit: audit.Check.; What lists of leases are, as data.; What a state is, as data.; The statement AuditStates.; Closed facts on the seat's program that every row asks, printed by genjc.py (a program of mine). -/
import Derived.Test.YtkfpaffcglijeaaRows
import Derived.JoinedOf
import Derived.KernelRfl
import Derived.Test.YtkfpaffcglijeaaPart17
import Derived.Test.YtkfpaffcglijeaaPart16
import Derived.Test.YtkfpaffcglijeaaPart13
import Derived.Test.YtkfpaffcglijeaaPart14
set_option linter.all false
section
namespace Go.Idl
open Go.Proofs
set_option linter.unusedSimpArgs false
set_option linter.unusedVariables false
set_option maxRecDepth 8000
set_option maxHeartbeats 2000000
variable (b : Bool)

/-- the tasks in a map -/
def tasksA (b : Bool) (l : List Tk) : AL Int := l.zipIdx.map fun p => (p.2, p.1.id, .d (encTk b p.1))
theorem tasksA_snoc (l : List Tk) (t : Tk) : tasksA b (l ++ [t]) = tasksA b l ++ [(l.length, t.id, .d (encTk b t))] := by
  unfold tasksA
  rw [List.zipIdx_append, List.map_append]; simp
theorem tasksA_keys (l : List Tk) : (tasksA b l).map (·.2.1) = l.map (·.id) := by
  unfold tasksA
  rw [List.map_map]
  have : ((fun x : Nat × Int × V => x.2.1) ∘ fun p : Tk × Nat => (p.2, p.1.id, V.d (encTk b p.1))) = (fun t : Tk => t.id) ∘ Prod.fst := rfl
  rw [this, ← List.map_map, List.zipIdx_map_fst]
theorem tasksA_lt (m : Nat) (l : List Tk) : V.ltL m ((encM I (tasksA b l)).map fun x => x.2.2) = true := by
  unfold tasksA encM
  rw [List.map_map, List.map_map]
  have : ∀ L : List (Tk × Nat), V.ltL m (L.map (((fun x : Nat × D × V => x.2.2) ∘ fun e : Nat × Int × V => (e.1, I e.2.1, e.2.2)) ∘ fun p => (p.2, p.1.id, V.d (encTk b p.1)))) = true := fun L => by
    induction L with
    | nil => rfl
    | cons a L ih => simp only [List.map_cons, V.ltL, ih]; rfl
  exact this _
theorem take5 (A : List IObj) (a c d e f g : IObj) : (A ++ [a, c, d, e, f, g]).take (A.length + 5) = A ++ [a, c, d, e, f] := by
  rw [show A ++ [a, c, d, e, f, g] = (A ++ [a, c, d, e, f]) ++ [g] by simp]
  exact List.take_left' (by simp)
theorem astray_spec (s : Sta) (hl : s.ts.length ≤ maxLen) (hn : s.ns.length ≤ maxLen) (hr : Rising (s.ts.map (·.id))) (hr2 : Rising (s.ns.map (·.id))) (hp : List IObj) (hlt : ltObjs hp.length hp = true) (K : V → List IObj → Prop) (hk : K (.fn (.func 106) [.ptr (hp.length + 3) 0, .ptr (hp.length + 4) 0]) (hp ++ [stC b s, .map s.ts.length (encM I (tasksA b s.ts)), .map s.ns.length (encM I (numA (fun _ => 1) (s.ns.map (·.id)))), .var [.map (hp.length + 1)], .var [.map (hp.length + 2)]])) : CallK Try.prog 50 [.d (encSt b s)] hp K := by
  refine callS (fn := Try.f50) [] [] mixed (bodyOf Try.f50) [.tmp 2] Try.func50 rfl rfl (by decide) 34 rfl (by kernel_rfl) ?_
  simp -implicitDefEqProofs [↓gd_tt, ↓gd_ff, ↓gd_tf, ↓gd_ft, bodyOf, Try.f50, stripC, stripL, stripM, onsOf, upto, hintOf, freeOf, List.replicate]
  refine loopA mixed [false, false, false, false, false, false, true, false, false, false, false, false, false, false, true, true, true, true, true, true, true, true, true] (fun (j : Nat) => [(14, .d (I j))]) (fun (j : Nat) => hp ++ [stC b s, .map j (encM I (tasksA b (s.ts.take j))), .map 0 [], .var [.map (hp.length + 1)], .var [.map (hp.length + 2)]]) (fun (j : Nat) => j ≤ s.ts.length) (fun (j : Nat) => s.ts.length - j) (0) (Nat.zero_le _) (by simp [ltObjs_append, ltObjs, IObj.lt, V.ltL, V.lt, tasksA, encM, constV_nilf]; exact ⟨ltObjs_mono (by simp) hlt, by rw [List.take_of_length_le (by simp)]⟩) ?_
  rintro j hx
  rcases Nat.lt_or_eq_of_le hx with hjl | hjl
  · have hwj := wrap1 hl hjl
    have hta : s.ts.take (j + 1) = s.ts.take j ++ [s.ts[j]] := by rw [List.take_add_one, List.getElem?_eq_getElem hjl]; rfl
    have hmf := mfind_enc (P := Try.prog) (kt := 3) (enck := I) keyEqI s.ts[j].id (tasksA b (s.ts.take j)) 0
    have hnone : aFind s.ts[j].id (tasksA b (s.ts.take j)) 0 = none := aFind_none.2 (Classical.byContradiction fun h => rising_fresh (fun t : Tk => t.id) hr hjl (by have := aLook_mem.1 h; rwa [tasksA_keys] at this))
    rw [hnone] at hmf
    simp -implicitDefEqProofs [↓gd_tt, ↓gd_ff, ↓gd_tf, ↓gd_ft, hjl, keyOKI, hmf, hwj]
    have hlen : (s.ts.take j).length = j := by simp; omega
    refine ⟨j + 1, by omega, by omega, rfl, by simp [constV_nilf], ?_, ?_⟩
    · rw [ltObjs_append, Bool.and_eq_true]
      exact ⟨ltObjs_mono (by simp) hlt, by simp [ltObjs, IObj.lt, V.ltL, V.lt, tasksA_lt]⟩
    · rw [take5, hta, tasksA_snoc, ← encM_append, hlen]; rfl
  · rw [hjl, List.take_length]
    simp -implicitDefEqProofs [↓gd_tt, ↓gd_ff, ↓gd_tf, ↓gd_ft]
    clear hx hjl
    refine loopA mixed [false, false, false, false, false, false, false, false, true, false, false, false, false, false, false, false, false, false, false, false, false, false, false, false, false, false, true, true, true, true, true, true, true, true] (fun (j : Nat) => [(26, .d (I j))]) (fun (j : Nat) => hp ++ [stC b s, .map s.ts.length (encM I (tasksA b s.ts)), .map j (encM I (numA (fun _ => 1) ((s.ns.map (·.id)).take j))), .var [.map (hp.length + 1)], .var [.map (hp.length + 2)]]) (fun (j : Nat) => j ≤ s.ns.length) (fun (j : Nat) => s.ns.length - j) (0) (Nat.zero_le _) (by simp [ltObjs_append, ltObjs, IObj.lt, V.ltL, V.lt, tasksA_lt, numA, encM, constV_nilf]; exact ⟨⟨ltObjs_mono (by simp) hlt, by have := tasksA_lt b (hp.length + 5) s.ts; simpa [encM] using this⟩, by rw [List.take_of_length_le (by simp)]⟩) ?_
    rintro j hx
    rcases Nat.lt_or_eq_of_le hx with hjl | hjl
    · have hwj := wrap1 hn hjl
      have hta : (s.ns.map (·.id)).take (j + 1) = (s.ns.map (·.id)).take j ++ [s.ns[j].id] := by rw [List.take_add_one, List.getElem?_eq_getElem (by simpa using hjl)]; simp
      rcases numA_find (fun _ => 1) s.ns[j].id ((s.ns.map (·.id)).take j) with ⟨h3, h4⟩ | ⟨h3, q, h4⟩
      · simp -implicitDefEqProofs [↓gd_tt, ↓gd_ff, ↓gd_tf, ↓gd_ft, hjl, keyOKI, h4, hwj]
        have hlen : ((s.ns.map (·.id)).take j).length = j := by simp; omega
        refine ⟨j + 1, by omega, by omega, rfl, by simp [constV_nilf], ?_, ?_⟩
        · rw [ltObjs_append, Bool.and_eq_true]
          exact ⟨ltObjs_mono (by simp) hlt, by simp [ltObjs, IObj.lt, V.ltL, V.lt, tasksA_lt, numA_lt]⟩
        · rw [take5, hta, numA_snoc, ← encM_append, hlen]
      · exact absurd h3 (by rw [← List.map_take]; exact rising_fresh (fun n : Nd => n.id) hr2 hjl)
    · have htj : (s.ns.map (·.id)).take s.ns.length = s.ns.map (·.id) := List.take_of_length_le (by simp)
      simp -implicitDefEqProofs [↓gd_tt, ↓gd_ff, ↓gd_tf, ↓gd_ft, hjl, htj]
      exact hk
end Go.Idl
end
section
namespace Go.Idl
open Go.Proofs
set_option linter.unusedSimpArgs false
set_option linter.unusedVariables false
set_option maxRecDepth 8000
set_option maxHeartbeats 2000000
variable (b : Bool)

theorem tasksA_find {l : List Tk} {q : Int} {i : Nat} {v : V} (h : aFind q (tasksA b l) 0 = some (i, v)) : ∃ t ∈ l, v = .d (encTk b t) ∧ t.id = q := by
  have : ∀ (A : AL Int) (b0 : Nat), (∀ x ∈ A, ∃ t ∈ l, x.2.2 = .d (encTk b t) ∧ t.id = x.2.1) → ∀ i v, aFind q A b0 = some (i, v) → ∃ t ∈ l, v = .d (encTk b t) ∧ t.id = q := by
    intro A
    induction A with
    | nil => intro b0 _ i v h; cases h
    | cons x A ih =>
      obtain ⟨n, k, w⟩ := x
      intro b0 hA i v h
      simp only [aFind] at h
      split at h
      · rename_i hq
        injection h with h; injection h with _ h2
        obtain ⟨t, ht, e1, e2⟩ := hA (n, k, w) (by simp)
        exact ⟨t, ht, by rw [← h2]; exact e1, by rw [hq]; exact e2⟩
      · exact ih (b0 + 1) (fun x hx => hA x (by simp [hx])) i v h
  exact this _ 0 (fun x hx => by
    unfold tasksA at hx
    obtain ⟨⟨t, j⟩, hm, rfl⟩ := List.mem_map.1 hx
    exact ⟨t, List.fst_mem_of_mem_zipIdx hm, rfl, rfl⟩) i v h
theorem astray1_spec (s : Sta) (x : Le) (ka kb m1 m2 c1 c2 : Nat) (hr : Rising (s.ts.map (·.id))) (hp : List IObj) (K : V → List IObj → Prop) (hl : x.cs.length ≤ maxLen)
    (g1 : hp[ka]? = some (.var [.map m1])) (g2 : hp[kb]? = some (.var [.map m2])) (g3 : hp[m1]? = some (.map c1 (encM I (tasksA b s.ts)))) (g4 : hp[m2]? = some (.map c2 (encM I (numA (fun _ => 1) (s.ns.map (·.id))))))
    (hlo : ltObjs hp.length hp = true) (hk : K (.d (.bool (astrayB s.ns s.ts x))) hp) : CallK Try.prog 106 [.d (encLf b x), .ptr ka 0, .ptr kb 0] hp K := by
  have hka : ka < hp.length := (List.getElem?_eq_some_iff.1 g1).1
  have hkb : kb < hp.length := (List.getElem?_eq_some_iff.1 g2).1
  have h1 : m1 < hp.length := (List.getElem?_eq_some_iff.1 g3).1
  have h2 : m2 < hp.length := (List.getElem?_eq_some_iff.1 g4).1
  have hmf := mfind_enc (P := Try.prog) (kt := 3) (enck := I) keyEqI x.t (tasksA b s.ts) 0
  refine callK_cut ?_
  rcases numA_find (fun _ => 1) x.n (s.ns.map (·.id)) with ⟨h3, h4⟩ | ⟨h3, q, h4⟩
  · cases hf : aFind x.t (tasksA b s.ts) 0 with
    | none =>
      rw [hf] at hmf
      refine callS (fn := Try.f106) [] [] mixed (bodyOf Try.f106) [.tmp 4] Try.func106 rfl rfl (by decide) 54 rfl (by kernel_rfl) ?_
      simp -implicitDefEqProofs [↓gd_tt, ↓gd_ff, ↓gd_tf, ↓gd_ft, bodyOf, Try.f106, stripC, stripL, stripM, onsOf, upto, hintOf, freeOf, List.replicate, g1, g2, g3, g4, hmf, h4, keyOKI, List.getElem?_append_left hka, List.getElem?_append_left hkb, List.getElem?_append_left h1, List.getElem?_append_left h2]
      have ea : astrayB s.ns s.ts x = true := by
        have : (s.ns.any fun n => decide (n.id = x.n)) = false := List.any_eq_false.2 fun n hn => by
          simp only [decide_eq_true_eq]; exact fun e => h3 (List.mem_map.2 ⟨n, hn, e⟩)
        unfold astrayB; rw [this]; rfl
      rw [ea] at hk
      simp -implicitDefEqProofs [↓gd_tt, ↓gd_ff, ↓gd_tf, ↓gd_ft, hlo, hk]
    | some p =>
      obtain ⟨i, v⟩ := p
      obtain ⟨t, ht, hv, hid⟩ := tasksA_find b hf
      subst hv
      rw [hf] at hmf
      have ea : astrayB s.ns s.ts x = true := by
        have : (s.ns.any fun n => decide (n.id = x.n)) = false := List.any_eq_false.2 fun n hn => by
          simp only [decide_eq_true_eq]; exact fun e => h3 (List.mem_map.2 ⟨n, hn, e⟩)
        unfold astrayB; rw [this]; rfl
      rw [ea] at hk
      refine callS (fn := Try.f106) [] [] mixed (bodyOf Try.f106) [.tmp 4] Try.func106 rfl rfl (by decide) 54 rfl (by kernel_rfl) ?_
      simp -implicitDefEqProofs [↓gd_tt, ↓gd_ff, ↓gd_tf, ↓gd_ft, bodyOf, Try.f106, stripC, stripL, stripM, onsOf, upto, hintOf, freeOf, List.replicate, g1, g2, g3, g4, hmf, h4, keyOKI, List.getElem?_append_left hka, List.getElem?_append_left hkb, List.getElem?_append_left h1, List.getElem?_append_left h2]
      simp -implicitDefEqProofs [↓gd_tt, ↓gd_ff, ↓gd_tf, ↓gd_ft, hlo, hk]
  · have hex : (s.ns.any fun n => decide (n.id = x.n)) = true := by
      obtain ⟨n, hn, e⟩ := List.mem_map.1 h3
      exact List.any_eq_true.2 ⟨n, hn, by simpa using e⟩
    cases hf : aFind x.t (tasksA b s.ts) 0 with
    | none =>
      have htn : tkOf s.ts x.t = none := tkOf_none.2 fun t ht e => by
        have := aFind_none.1 hf
        exact absurd this (aLook_mem.2 (by rw [tasksA_keys]; exact List.mem_map.2 ⟨t, ht, e⟩))
      rw [hf] at hmf
      have ea : astrayB s.ns s.ts x = true := by unfold astrayB; rw [htn]; simp
      rw [ea] at hk
      refine callS (fn := Try.f106) [] [] mixed (bodyOf Try.f106) [.tmp 4] Try.func106 rfl rfl (by decide) 54 rfl (by kernel_rfl) ?_
      simp -implicitDefEqProofs [↓gd_tt, ↓gd_ff, ↓gd_tf, ↓gd_ft, bodyOf, Try.f106, stripC, stripL, stripM, onsOf, upto, hintOf, freeOf, List.replicate, g1, g2, g3, g4, hmf, h4, keyOKI, List.getElem?_append_left hka, List.getElem?_append_left hkb, List.getElem?_append_left h1, List.getElem?_append_left h2]
      simp -implicitDefEqProofs [↓gd_tt, ↓gd_ff, ↓gd_tf, ↓gd_ft, hlo, hk]
    | some p =>
      obtain ⟨i, v⟩ := p
      obtain ⟨t, ht, hv, hid⟩ := tasksA_find b hf
      subst hv
      rw [hf] at hmf
      have htn : tkOf s.ts x.t = some t := by
        obtain ⟨j, hj, e⟩ := List.getElem_of_mem ht
        rw [← hid, ← e]; exact tkOf_at hr hj
      have ea : astrayB s.ns s.ts x = !fitT x t := by unfold astrayB; rw [htn, hex]; rfl
      rw [ea] at hk
      unfold fitT at hk
      refine callS (fn := Try.f106) [] [] mixed (bodyOf Try.f106) [.tmp 4] Try.func106 rfl rfl (by decide) 54 rfl (by kernel_rfl) ?_
      simp -implicitDefEqProofs [↓gd_tt, ↓gd_ff, ↓gd_tf, ↓gd_ft, bodyOf, Try.f106, stripC, stripL, stripM, onsOf, upto, hintOf, freeOf, List.replicate, g1, g2, g3, g4, hmf, h4, keyOKI, List.getElem?_append_left hka, List.getElem?_append_left hkb, List.getElem?_append_left h1, List.getElem?_append_left h2]
      by_cases q1 : t.st = 2 <;> by_cases q2 : t.st = 4 <;> by_cases q3 : t.q = x.q <;> by_cases q4 : t.c = (x.cs.length : Int) <;> by_cases q5 : t.m = x.m <;> simp_all
end Go.Idl
end
section
namespace Go.Idl
open Go.Proofs
set_option linter.unusedSimpArgs false
set_option linter.unusedVariables false
set_option maxRecDepth 8000
set_option maxHeartbeats 4000000
variable (b : Bool)

/-- a list of pairs that grows, in a variable -/
def lvP (xs : List (Int × Int)) : V := if xs = [] then .nil 2 else .own 2 (xs.map encV)
theorem lvP_lt (n : Nat) (xs : List (Int × Int)) : V.lt n (lvP xs) = true := by unfold lvP; split <;> rfl
theorem lvP_cases (xs : List (Int × Int)) : (xs = [] ∧ lvP xs = .nil 2) ∨ lvP xs = .own 2 (xs.map encV) := by
  unfold lvP
  split
  · rename_i h; exact .inl ⟨h, rfl⟩
  · exact .inr rfl
abbrev chkHp (b : Bool) (s : Sta) (v : V) : List IObj := [stC b s, .var [v], stC b s, .var (cpuC s), .var (memC s), .var [.ref 3 1 0 s.qs.length s.qs.length], .var [.ref 4 1 0 s.qs.length s.qs.length], stC b s, .var [.d (I 3)], .var [.fn (.func 47) []], stC b s, .var [.d (I 4)], .var [.fn (.func 48) []], stC b s, .map s.ts.length (encM I (tasksA b s.ts)), .map s.ns.length (encM I (numA (fun _ => 1) (s.ns.map (·.id)))), .var [.map 14], .var [.map 15], stC b s, .var [.d (I 5)], .var [.fn (.func 106) [.ptr 16 0, .ptr 17 0]], stC b s, .map s.ls.length (encM I (numA (fun _ => 1) (s.ls.map (·.t)))), .var [.map 22], stC b s, .var [.d (I 7)], .var [.fn (.func 43) [.ptr 0 0]],
  .var [.fn (.func 101) [.ptr 2 0, .ptr 5 0, .ptr 6 0], .fn (.func 103) [.ptr 7 0, .ptr 9 0, .ptr 8 0], .fn (.func 103) [.ptr 10 0, .ptr 12 0, .ptr 11 0], .fn (.func 105) [.ptr 18 0, .ptr 20 0, .ptr 19 0], .fn (.func 107) [.ptr 21 0, .ptr 23 0], .fn (.func 105) [.ptr 24 0, .ptr 26 0, .ptr 25 0]]]
def partsS (s : Sta) : List (List (Int × Int)) := [probQ s, probN s, probT s, probA s, probB s, probL s]
theorem probQ_yields (s : Sta) (hsm : s.small) (hc : check s.qs = 0) : Yields Try.prog 101 [.ptr 2 0, .ptr 5 0, .ptr 6 0] (fun hp => hp[2]? = some (stC b s) ∧ hp[5]? = some (.var [.ref 3 1 0 s.qs.length s.qs.length]) ∧ hp[6]? = some (.var [.ref 4 1 0 s.qs.length s.qs.length]) ∧ hp[3]? = some (.var (cpuC s)) ∧ hp[4]? = some (.var (memC s))) ((probQ s).map fun p => [.d (encV p)]) := by
  unfold probQ; rw [List.map_map]
  exact queues_yields b s 2 5 6 3 4 hsm.qs (small6 hsm.ls) hsm.cs hsm.m
theorem probN_yields (s : Sta) (hsm : s.small) : Yields Try.prog 103 [.ptr 7 0, .ptr 9 0, .ptr 8 0] (fun hp => hp[7]? = some (stC b s) ∧ hp[9]? = some (.var [.fn (.func 47) []]) ∧ hp[8]? = some (.var [.d (I 3)])) ((probN s).map fun p => [.d (encV p)]) := by
  unfold probN; rw [List.map_map]
  exact nodes_yields b s 3 47 (wrongN s.ls) 7 9 8 (small6 hsm.ns) (by simp) fun n hn => over_spec b s n hsm.ls hsm.cs hsm.m
theorem probT_yields (s : Sta) (hsm : s.small) (hr : Rising (s.ls.map (·.t))) : Yields Try.prog 103 [.ptr 10 0, .ptr 12 0, .ptr 11 0] (fun hp => hp[10]? = some (stC b s) ∧ hp[12]? = some (.var [.fn (.func 48) []]) ∧ hp[11]? = some (.var [.d (I 4)])) ((probT s).map fun p => [.d (encV p)]) := by
  unfold probT; rw [List.map_map]
  exact nodes_yields b s 4 48 (twiceN s.ls) 10 12 11 (small6 hsm.ns) (by simp) fun n hn => two_spec b s n hsm.ls hsm.cs hr
theorem probA_yields (s : Sta) (hsm : s.small) (hr : Rising (s.ts.map (·.id))) : Yields Try.prog 105 [.ptr 18 0, .ptr 20 0, .ptr 19 0] (fun hp => hp[18]? = some (stC b s) ∧ hp[20]? = some (.var [.fn (.func 106) [.ptr 16 0, .ptr 17 0]]) ∧ hp[19]? = some (.var [.d (I 5)]) ∧ (hp[16]? = some (.var [.map 14]) ∧ hp[17]? = some (.var [.map 15]) ∧ hp[14]? = some (.map s.ts.length (encM I (tasksA b s.ts))) ∧ hp[15]? = some (.map s.ns.length (encM I (numA (fun _ => 1) (s.ns.map (·.id))))))) ((probA s).map fun p => [.d (encV p)]) := by
  unfold probA; rw [List.map_map]
  refine leases_yields b s 5 106 [.ptr 16 0, .ptr 17 0] (astrayB s.ns s.ts) (fun hp => hp[16]? = some (.var [.map 14]) ∧ hp[17]? = some (.var [.map 15]) ∧ hp[14]? = some (.map s.ts.length (encM I (tasksA b s.ts))) ∧ hp[15]? = some (.map s.ns.length (encM I (numA (fun _ => 1) (s.ns.map (·.id)))))) 18 20 19 (small6 hsm.ls) (by simp) (by simp) (fun hp o h => ?_) (fun hp h => ?_) (fun x hx hp K h hlo hk => ?_)
  · obtain ⟨g1, g2, g3, g4⟩ := h
    have k1 := (List.getElem?_eq_some_iff.1 g2).1
    exact ⟨by rw [List.getElem?_append_left (by omega)]; exact g1, by rw [List.getElem?_append_left (by omega)]; exact g2, by rw [List.getElem?_append_left (by omega)]; exact g3, by rw [List.getElem?_append_left (by omega)]; exact g4⟩
  · have k1 := (List.getElem?_eq_some_iff.1 h.2.1).1
    simp [V.ltL, V.lt]; omega
  · obtain ⟨g1, g2, g3, g4⟩ := h
    exact astray1_spec b s x 16 17 14 15 _ _ hr hp K (hsm.cs x hx) g1 g2 g3 g4 hlo hk
theorem probB_yields (s : Sta) (hsm : s.small) : Yields Try.prog 107 [.ptr 21 0, .ptr 23 0] (fun hp => hp[21]? = some (stC b s) ∧ hp[23]? = some (.var [.map 22]) ∧ hp[22]? = some (.map s.ls.length (encM I (numA (fun _ => 1) (s.ls.map (·.t)))))) ((probB s).map fun p => [.d (encV p)]) := by
  unfold probB; rw [List.map_map]
  exact bare_yields b s 21 23 22 _ _ (small6 hsm.ts) (mark1_numA _)
theorem probL_yields (s : Sta) (hsm : s.small) : Yields Try.prog 105 [.ptr 24 0, .ptr 26 0, .ptr 25 0] (fun hp => hp[24]? = some (stC b s) ∧ hp[26]? = some (.var [.fn (.func 43) [.ptr 0 0]]) ∧ hp[25]? = some (.var [.d (I 7)]) ∧ hp[0]? = some (stC b s)) ((probL s).map fun p => [.d (encV p)]) := by
  unfold probL; rw [List.map_map]
  refine leases_yields b s 7 43 [.ptr 0 0] (timelessB s.now s.long) (fun hp => hp[0]? = some (stC b s)) 24 26 25 (small6 hsm.ls) (by simp) (by simp) (fun hp o h => ?_) (fun hp h => ?_) (fun x hx hp K h hlo hk => ?_)
  · have k1 := (List.getElem?_eq_some_iff.1 h).1
    rw [List.getElem?_append_left k1]; exact h
  · have k1 := (List.getElem?_eq_some_iff.1 h).1
    simp [V.ltL, V.lt]; omega
  · exact timeless_spec b s x hsm.now (hsm.u x hx) hsm.long h hlo hk
theorem cpuC_lt (m : Nat) (s : Sta) : V.ltL m (cpuC s) = true := by rw [← cpuL_full]; exact ltL_lv m _
theorem memC_lt (m : Nat) (s : Sta) : V.ltL m (memC s) = true := by rw [← memL_full]; exact ltL_lv m _
theorem renL_lv (ρ : List Nat) : ∀ C : List (List Int), V.renL ρ (C.map lv) = C.map lv
  | [] => rfl
  | x :: C => by
    have : V.ren ρ (lv x) = lv x := by unfold lv; split <;> rfl
    simp [V.renL, this, renL_lv ρ C]
theorem renL_cpuC (ρ : List Nat) (s : Sta) : V.renL ρ (cpuC s) = cpuC s := by rw [← cpuL_full]; exact renL_lv ρ _
theorem renL_memC (ρ : List Nat) (s : Sta) : V.renL ρ (memC s) = memC s := by rw [← memL_full]; exact renL_lv ρ _
theorem check_spec (s : Sta) (hsm : s.small) : PCall Try.prog 13 [encSt b s] (.d (.sl false 2 ((auditL s).map encV))) := by
  have f1 := formA_spec b s hsm.qs (small6 hsm.ns) (small6 hsm.ts) (small6 hsm.ls) (Nat.le_trans hsm.hs (by decide))
  refine pcallS (fn := Try.f13) [(29, 2)] [(5, 2000000)] mixed (bodyOf Try.f13) [.tmp 2] Try.func13 rfl rfl (by decide) 42 rfl (by kernel_rfl) ?_
  simp -implicitDefEqProofs [↓gd_tt, ↓gd_ff, ↓gd_tf, ↓gd_ft, bodyOf, Try.f13, stripC, stripL, stripM, onsOf, upto, hintOf, freeOf, List.replicate]
  refine callK_pcall f1 rfl rfl ?_
  by_cases hf : formA s
  case neg =>
    simp -implicitDefEqProofs [↓gd_tt, ↓gd_ff, ↓gd_tf, ↓gd_ft, hf, auditL]
  have hau : auditL s = probs s := by unfold auditL; rw [if_pos hf]
  rw [hau]
  obtain ⟨hc, r1, r2, r3, r4⟩ := id hf
  simp -implicitDefEqProofs [↓gd_tt, ↓gd_ff, ↓gd_tf, ↓gd_ft, hf]
  refine regionCh [(29, 2)] [1, 3, 5, 8, 9, 11, 14, 15, 16] [1, 3, 5, 8, 9, 11, 14, 15, 16] mixed (by kernel_rfl) ?_
  simp -implicitDefEqProofs [↓gd_tt, ↓gd_ff, ↓gd_tf, ↓gd_ft, stripL, stripM, onsOf, hintOf]
  refine x_end ?w1 (fun K0 hK0 => ?_) ?_
  case refine_1 =>
    simp -implicitDefEqProofs [↓gd_tt, ↓gd_ff, ↓gd_tf, ↓gd_ft, lx_zero, lx_succ, ll_nil, ll_cons]
    refine callK_frame (queues_spec b s hc hsm.ls (K := fun r hp' => r = .fn (.func 101) [.ptr 0 0, .ptr 3 0, .ptr 4 0] ∧ hp' = [stC b s, .var (cpuC s), .var (memC s), .var [.ref 1 1 0 s.qs.length s.qs.length], .var [.ref 2 1 0 s.qs.length s.qs.length]]) ⟨rfl, rfl⟩) [] ⟨rfl, List.nodup_nil, fun i j o h => by simp at h, rfl⟩ (by simp) (by simp) (by exact LeTm.refl _) ?_
    rintro r hp' ⟨rfl, rfl⟩
    simp -implicitDefEqProofs [↓gd_tt, ↓gd_ff, ↓gd_tf, ↓gd_ft, lx_zero, lx_succ, ll_nil, ll_cons, mergeHp, setObjs, renNew, IObj.ren, V.ren, V.renL, List.range', renL_cpuC, renL_memC]
    refine nodes_spec b s 3 _ _ _ _ (by simp) ?_
    simp -implicitDefEqProofs [↓gd_tt, ↓gd_ff, ↓gd_tf, ↓gd_ft, lx_zero, lx_succ, ll_nil, ll_cons]
    refine nodes_spec b s 4 _ _ _ _ (by simp) ?_
    simp -implicitDefEqProofs [↓gd_tt, ↓gd_ff, ↓gd_tf, ↓gd_ft, lx_zero, lx_succ, ll_nil, ll_cons]
    refine astray_spec b s (small6 hsm.ts) (small6 hsm.ns) r2 r1 _ ?h1 _ ?_
    case h1 => simp [ltObjs, IObj.lt, V.ltL, V.lt, cpuC_lt, memC_lt]
    simp -implicitDefEqProofs [↓gd_tt, ↓gd_ff, ↓gd_tf, ↓gd_ft, lx_zero, lx_succ, ll_nil, ll_cons]
    refine leases_spec b s 5 _ _ _ _ (by simp) ?_
    simp -implicitDefEqProofs [↓gd_tt, ↓gd_ff, ↓gd_tf, ↓gd_ft, lx_zero, lx_succ, ll_nil, ll_cons]
    refine bare_spec b s (small6 hsm.ls) r3 _ ?h2 _ ?_
    case h2 => simp [ltObjs, IObj.lt, V.ltL, V.lt, cpuC_lt, memC_lt, tasksA_lt, numA_lt]
    simp -implicitDefEqProofs [↓gd_tt, ↓gd_ff, ↓gd_tf, ↓gd_ft, lx_zero, lx_succ, ll_nil, ll_cons]
    refine leases_spec b s 7 _ _ _ _ (by simp) ?_
    simp -implicitDefEqProofs [↓gd_tt, ↓gd_ff, ↓gd_tf, ↓gd_ft, lx_zero, lx_succ, ll_nil, ll_cons]
    exact hK0
  refine loopA mixed [false, false, false, false, false, false, true, false, false, false, false, false, false, false, false, false, false, false, false, false, false, false, false, false, false, false, false, false, false, false, false, true, true, true, true, true, false, false, false, false, false, true] (fun (k : Nat × List (Int × Int)) => [(31, .d (I k.1))]) (fun (k : Nat × List (Int × Int)) => chkHp b s (lvP k.2)) (fun (k : Nat × List (Int × Int)) => k.1 ≤ 6 ∧ k.2 ++ ((partsS s).drop k.1).flatten = probs s) (fun (k : Nat × List (Int × Int)) => 6 - k.1) ((0, [])) (⟨Nat.zero_le _, by simp [partsS, probs]⟩) (by simp [ltObjs, IObj.lt, V.ltL, V.lt, cpuC_lt, memC_lt, tasksA_lt, numA_lt, lvP, constV_nilf]) ?_
  rintro k hx
  obtain ⟨k, X⟩ := k
  obtain ⟨hk, hX⟩ := hx
  simp only at hk hX ⊢
  have hlen := probs_len hsm hc
  have hXl : X.length + ((partsS s).drop k).flatten.length ≤ 6000000 := by
    have := congrArg List.length hX
    rw [List.length_append] at this
    rw [this]; simp [probs]; omega
  have hk7 : k = 0 ∨ k = 1 ∨ k = 2 ∨ k = 3 ∨ k = 4 ∨ k = 5 ∨ k = 6 := by omega
  rcases hk7 with rfl | rfl | rfl | rfl | rfl | rfl | rfl
  · have hXl2 : X.length + (probQ s).length ≤ 6000000 := by simp [partsS] at hXl; omega
    simp -implicitDefEqProofs [↓gd_tt, ↓gd_ff, ↓gd_tf, ↓gd_ft]
    refine rangeY mixed (probQ_yields b s hsm hc) (by simp) (by simp) (by simp) (by simp [V.ltL, V.lt, constV_nilf]) (by simp) (by intro y hy; obtain ⟨p, _, rfl⟩ := List.mem_map.1 hy; simp)
      (fun i hp => hp = chkHp b s (lvP (X ++ (probQ s).take i)) ∧ i ≤ (probQ s).length) ⟨by simp, Nat.zero_le _⟩ (by rintro i hp ⟨rfl, _⟩; refine ⟨by simp, by simp [ltObjs, IObj.lt, V.ltL, V.lt, cpuC_lt, memC_lt, tasksA_lt, numA_lt, lvP_lt], fun L => by simp⟩) ?_ ?_
    · rintro i hp ⟨rfl, hi⟩ hik L0 L1
      have hi' : i < (probQ s).length := by simpa using hik
      have hst : X ++ (probQ s).take (i + 1) = (X ++ (probQ s).take i) ++ [(probQ s)[i]] := by rw [List.take_add_one, List.getElem?_eq_getElem hi']; simp
      have hYl : (X ++ (probQ s).take i).length ≤ 6000000 := by simp; omega
      rw [hst]
      simp only [List.getElem_map]
      generalize (probQ s)[i] = p at *
      generalize X ++ (probQ s).take i = Y at *
      have bY : (Y.length + 1) * 16 ≤ 140737488355328 := by omega
      have hYp : lvP (Y ++ [p]) = .own 2 ((Y ++ [p]).map encV) := by unfold lvP; rw [if_neg (by simp)]
      rw [hYp]
      rcases lvP_cases Y with ⟨hye, hyv⟩ | hyv
      · subst hye
        rw [hyv]
        simp -implicitDefEqProofs [↓gd_tt, ↓gd_ff, ↓gd_tf, ↓gd_ft]
        exact ⟨⟨cpuC_lt _ s, memC_lt _ s, tasksA_lt b _ _, numA_lt _ _ _, numA_lt _ _ _⟩, hi'⟩
      · rw [hyv]
        simp -implicitDefEqProofs [↓gd_tt, ↓gd_ff, ↓gd_tf, ↓gd_ft, bY]
        exact ⟨⟨cpuC_lt _ s, memC_lt _ s, tasksA_lt b _ _, numA_lt _ _ _, numA_lt _ _ _⟩, hi'⟩
    · rintro hp ⟨rfl, hi⟩
      rw [List.take_of_length_le (by simp)]
      simp -implicitDefEqProofs [↓gd_tt, ↓gd_ff, ↓gd_tf, ↓gd_ft]
      refine ⟨1, X ++ (probQ s), ⟨by omega, by rw [← hX]; simp [partsS]⟩, by omega, rfl, ⟨lvP_lt _ _, cpuC_lt _ s, memC_lt _ s, tasksA_lt b _ _, numA_lt _ _ _, numA_lt _ _ _⟩, ?_⟩
      rfl
  · have hXl2 : X.length + (probN s).length ≤ 6000000 := by simp [partsS] at hXl; omega
    simp -implicitDefEqProofs [↓gd_tt, ↓gd_ff, ↓gd_tf, ↓gd_ft]
    refine rangeY mixed (probN_yields b s hsm) (by simp) (by simp) (by simp) (by simp [V.ltL, V.lt, constV_nilf]) (by simp) (by intro y hy; obtain ⟨p, _, rfl⟩ := List.mem_map.1 hy; simp)
      (fun i hp => hp = chkHp b s (lvP (X ++ (probN s).take i)) ∧ i ≤ (probN s).length) ⟨by simp, Nat.zero_le _⟩ (by rintro i hp ⟨rfl, _⟩; refine ⟨by simp, by simp [ltObjs, IObj.lt, V.ltL, V.lt, cpuC_lt, memC_lt, tasksA_lt, numA_lt, lvP_lt], fun L => by simp⟩) ?_ ?_
    · rintro i hp ⟨rfl, hi⟩ hik L0 L1
      have hi' : i < (probN s).length := by simpa using hik
      have hst : X ++ (probN s).take (i + 1) = (X ++ (probN s).take i) ++ [(probN s)[i]] := by rw [List.take_add_one, List.getElem?_eq_getElem hi']; simp
      have hYl : (X ++ (probN s).take i).length ≤ 6000000 := by simp; omega
      rw [hst]
      simp only [List.getElem_map]
      generalize (probN s)[i] = p at *
      generalize X ++ (probN s).take i = Y at *
      have bY : (Y.length + 1) * 16 ≤ 140737488355328 := by omega
      have hYp : lvP (Y ++ [p]) = .own 2 ((Y ++ [p]).map encV) := by unfold lvP; rw [if_neg (by simp)]
      rw [hYp]
      rcases lvP_cases Y with ⟨hye, hyv⟩ | hyv
      · subst hye
        rw [hyv]
        simp -implicitDefEqProofs [↓gd_tt, ↓gd_ff, ↓gd_tf, ↓gd_ft]
        exact ⟨⟨cpuC_lt _ s, memC_lt _ s, tasksA_lt b _ _, numA_lt _ _ _, numA_lt _ _ _⟩, hi'⟩
      · rw [hyv]
        simp -implicitDefEqProofs [↓gd_tt, ↓gd_ff, ↓gd_tf, ↓gd_ft, bY]
        exact ⟨⟨cpuC_lt _ s, memC_lt _ s, tasksA_lt b _ _, numA_lt _ _ _, numA_lt _ _ _⟩, hi'⟩
    · rintro hp ⟨rfl, hi⟩
      rw [List.take_of_length_le (by simp)]
      simp -implicitDefEqProofs [↓gd_tt, ↓gd_ff, ↓gd_tf, ↓gd_ft]
      refine ⟨2, X ++ (probN s), ⟨by omega, by rw [← hX]; simp [partsS]⟩, by omega, rfl, ⟨lvP_lt _ _, cpuC_lt _ s, memC_lt _ s, tasksA_lt b _ _, numA_lt _ _ _, numA_lt _ _ _⟩, ?_⟩
      rfl
  · have hXl2 : X.length + (probT s).length ≤ 6000000 := by simp [partsS] at hXl; omega
    simp -implicitDefEqProofs [↓gd_tt, ↓gd_ff, ↓gd_tf, ↓gd_ft]
    refine rangeY mixed (probT_yields b s hsm r3) (by simp) (by simp) (by simp) (by simp [V.ltL, V.lt, constV_nilf]) (by simp) (by intro y hy; obtain ⟨p, _, rfl⟩ := List.mem_map.1 hy; simp)
      (fun i hp => hp = chkHp b s (lvP (X ++ (probT s).take i)) ∧ i ≤ (probT s).length) ⟨by simp, Nat.zero_le _⟩ (by rintro i hp ⟨rfl, _⟩; refine ⟨by simp, by simp [ltObjs, IObj.lt, V.ltL, V.lt, cpuC_lt, memC_lt, tasksA_lt, numA_lt, lvP_lt], fun L => by simp⟩) ?_ ?_
    · rintro i hp ⟨rfl, hi⟩ hik L0 L1
      have hi' : i < (probT s).length := by simpa using hik
      have hst : X ++ (probT s).take (i + 1) = (X ++ (probT s).take i) ++ [(probT s)[i]] := by rw [List.take_add_one, List.getElem?_eq_getElem hi']; simp
      have hYl : (X ++ (probT s).take i).length ≤ 6000000 := by simp; omega
      rw [hst]
      simp only [List.getElem_map]
      generalize (probT s)[i] = p at *
      generalize X ++ (probT s).take i = Y at *
      have bY : (Y.length + 1) * 16 ≤ 140737488355328 := by omega
      have hYp : lvP (Y ++ [p]) = .own 2 ((Y ++ [p]).map encV) := by unfold lvP; rw [if_neg (by simp)]
      rw [hYp]
      rcases lvP_cases Y with ⟨hye, hyv⟩ | hyv
      · subst hye
        rw [hyv]
        simp -implicitDefEqProofs [↓gd_tt, ↓gd_ff, ↓gd_tf, ↓gd_ft]
        exact ⟨⟨cpuC_lt _ s, memC_lt _ s, tasksA_lt b _ _, numA_lt _ _ _, numA_lt _ _ _⟩, hi'⟩
      · rw [hyv]
        simp -implicitDefEqProofs [↓gd_tt, ↓gd_ff, ↓gd_tf, ↓gd_ft, bY]
        exact ⟨⟨cpuC_lt _ s, memC_lt _ s, tasksA_lt b _ _, numA_lt _ _ _, numA_lt _ _ _⟩, hi'⟩
    · rintro hp ⟨rfl, hi⟩
      rw [List.take_of_length_le (by simp)]
      simp -implicitDefEqProofs [↓gd_tt, ↓gd_ff, ↓gd_tf, ↓gd_ft]
      refine ⟨3, X ++ (probT s), ⟨by omega, by rw [← hX]; simp [partsS]⟩, by omega, rfl, ⟨lvP_lt _ _, cpuC_lt _ s, memC_lt _ s, tasksA_lt b _ _, numA_lt _ _ _, numA_lt _ _ _⟩, ?_⟩
      rfl
  · have hXl2 : X.length + (probA s).length ≤ 6000000 := by simp [partsS] at hXl; omega
    simp -implicitDefEqProofs [↓gd_tt, ↓gd_ff, ↓gd_tf, ↓gd_ft]
    refine rangeY mixed (probA_yields b s hsm r2) (by simp) (by simp) (by simp) (by simp [V.ltL, V.lt, constV_nilf]) (by simp) (by intro y hy; obtain ⟨p, _, rfl⟩ := List.mem_map.1 hy; simp)
      (fun i hp => hp = chkHp b s (lvP (X ++ (probA s).take i)) ∧ i ≤ (probA s).length) ⟨by simp, Nat.zero_le _⟩ (by rintro i hp ⟨rfl, _⟩; refine ⟨by simp, by simp [ltObjs, IObj.lt, V.ltL, V.lt, cpuC_lt, memC_lt, tasksA_lt, numA_lt, lvP_lt], fun L => by simp⟩) ?_ ?_
    · rintro i hp ⟨rfl, hi⟩ hik L0 L1
      have hi' : i < (probA s).length := by simpa using hik
      have hst : X ++ (probA s).take (i + 1) = (X ++ (probA s).take i) ++ [(probA s)[i]] := by rw [List.take_add_one, List.getElem?_eq_getElem hi']; simp
      have hYl : (X ++ (probA s).take i).length ≤ 6000000 := by simp; omega
      rw [hst]
      simp only [List.getElem_map]
      generalize (probA s)[i] = p at *
      generalize X ++ (probA s).take i = Y at *
      have bY : (Y.length + 1) * 16 ≤ 140737488355328 := by omega
      have hYp : lvP (Y ++ [p]) = .own 2 ((Y ++ [p]).map encV) := by unfold lvP; rw [if_neg (by simp)]
      rw [hYp]
      rcases lvP_cases Y with ⟨hye, hyv⟩ | hyv
      · subst hye
        rw [hyv]
        simp -implicitDefEqProofs [↓gd_tt, ↓gd_ff, ↓gd_tf, ↓gd_ft]
        exact ⟨⟨cpuC_lt _ s, memC_lt _ s, tasksA_lt b _ _, numA_lt _ _ _, numA_lt _ _ _⟩, hi'⟩
      · rw [hyv]
        simp -implicitDefEqProofs [↓gd_tt, ↓gd_ff, ↓gd_tf, ↓gd_ft, bY]
        exact ⟨⟨cpuC_lt _ s, memC_lt _ s, tasksA_lt b _ _, numA_lt _ _ _, numA_lt _ _ _⟩, hi'⟩
    · rintro hp ⟨rfl, hi⟩
      rw [List.take_of_length_le (by simp)]
      simp -implicitDefEqProofs [↓gd_tt, ↓gd_ff, ↓gd_tf, ↓gd_ft]
      refine ⟨4, X ++ (probA s), ⟨by omega, by rw [← hX]; simp [partsS]⟩, by omega, rfl, ⟨lvP_lt _ _, cpuC_lt _ s, memC_lt _ s, tasksA_lt b _ _, numA_lt _ _ _, numA_lt _ _ _⟩, ?_⟩
      rfl
  · have hXl2 : X.length + (probB s).length ≤ 6000000 := by simp [partsS] at hXl; omega
    simp -implicitDefEqProofs [↓gd_tt, ↓gd_ff, ↓gd_tf, ↓gd_ft]
    refine rangeY mixed (probB_yields b s hsm) (by simp) (by simp) (by simp) (by simp [V.ltL, V.lt, constV_nilf]) (by simp) (by intro y hy; obtain ⟨p, _, rfl⟩ := List.mem_map.1 hy; simp)
      (fun i hp => hp = chkHp b s (lvP (X ++ (probB s).take i)) ∧ i ≤ (probB s).length) ⟨by simp, Nat.zero_le _⟩ (by rintro i hp ⟨rfl, _⟩; refine ⟨by simp, by simp [ltObjs, IObj.lt, V.ltL, V.lt, cpuC_lt, memC_lt, tasksA_lt, numA_lt, lvP_lt], fun L => by simp⟩) ?_ ?_
    · rintro i hp ⟨rfl, hi⟩ hik L0 L1
      have hi' : i < (probB s).length := by simpa using hik
      have hst : X ++ (probB s).take (i + 1) = (X ++ (probB s).take i) ++ [(probB s)[i]] := by rw [List.take_add_one, List.getElem?_eq_getElem hi']; simp
      have hYl : (X ++ (probB s).take i).length ≤ 6000000 := by simp; omega
      rw [hst]
      simp only [List.getElem_map]
      generalize (probB s)[i] = p at *
      generalize X ++ (probB s).take i = Y at *
      have bY : (Y.length + 1) * 16 ≤ 140737488355328 := by omega
      have hYp : lvP (Y ++ [p]) = .own 2 ((Y ++ [p]).map encV) := by unfold lvP; rw [if_neg (by simp)]
      rw [hYp]
      rcases lvP_cases Y with ⟨hye, hyv⟩ | hyv
      · subst hye
        rw [hyv]
        simp -implicitDefEqProofs [↓gd_tt, ↓gd_ff, ↓gd_tf, ↓gd_ft]
        exact ⟨⟨cpuC_lt _ s, memC_lt _ s, tasksA_lt b _ _, numA_lt _ _ _, numA_lt _ _ _⟩, hi'⟩
      · rw [hyv]
        simp -implicitDefEqProofs [↓gd_tt, ↓gd_ff, ↓gd_tf, ↓gd_ft, bY]
        exact ⟨⟨cpuC_lt _ s, memC_lt _ s, tasksA_lt b _ _, numA_lt _ _ _, numA_lt _ _ _⟩, hi'⟩
    · rintro hp ⟨rfl, hi⟩
      rw [List.take_of_length_le (by simp)]
      simp -implicitDefEqProofs [↓gd_tt, ↓gd_ff, ↓gd_tf, ↓gd_ft]
      refine ⟨5, X ++ (probB s), ⟨by omega, by rw [← hX]; simp [partsS]⟩, by omega, rfl, ⟨lvP_lt _ _, cpuC_lt _ s, memC_lt _ s, tasksA_lt b _ _, numA_lt _ _ _, numA_lt _ _ _⟩, ?_⟩
      rfl
  · have hXl2 : X.length + (probL s).length ≤ 6000000 := by simp [partsS] at hXl; omega
    simp -implicitDefEqProofs [↓gd_tt, ↓gd_ff, ↓gd_tf, ↓gd_ft]
    refine rangeY mixed (probL_yields b s hsm) (by simp) (by simp) (by simp) (by simp [V.ltL, V.lt, constV_nilf]) (by simp) (by intro y hy; obtain ⟨p, _, rfl⟩ := List.mem_map.1 hy; simp)
      (fun i hp => hp = chkHp b s (lvP (X ++ (probL s).take i)) ∧ i ≤ (probL s).length) ⟨by simp, Nat.zero_le _⟩ (by rintro i hp ⟨rfl, _⟩; refine ⟨by simp, by simp [ltObjs, IObj.lt, V.ltL, V.lt, cpuC_lt, memC_lt, tasksA_lt, numA_lt, lvP_lt], fun L => by simp⟩) ?_ ?_
    · rintro i hp ⟨rfl, hi⟩ hik L0 L1
      have hi' : i < (probL s).length := by simpa using hik
      have hst : X ++ (probL s).take (i + 1) = (X ++ (probL s).take i) ++ [(probL s)[i]] := by rw [List.take_add_one, List.getElem?_eq_getElem hi']; simp
      have hYl : (X ++ (probL s).take i).length ≤ 6000000 := by simp; omega
      rw [hst]
      simp only [List.getElem_map]
      generalize (probL s)[i] = p at *
      generalize X ++ (probL s).take i = Y at *
      have bY : (Y.length + 1) * 16 ≤ 140737488355328 := by omega
      have hYp : lvP (Y ++ [p]) = .own 2 ((Y ++ [p]).map encV) := by unfold lvP; rw [if_neg (by simp)]
      rw [hYp]
      rcases lvP_cases Y with ⟨hye, hyv⟩ | hyv
      · subst hye
        rw [hyv]
        simp -implicitDefEqProofs [↓gd_tt, ↓gd_ff, ↓gd_tf, ↓gd_ft]
        exact ⟨⟨cpuC_lt _ s, memC_lt _ s, tasksA_lt b _ _, numA_lt _ _ _, numA_lt _ _ _⟩, hi'⟩
      · rw [hyv]
        simp -implicitDefEqProofs [↓gd_tt, ↓gd_ff, ↓gd_tf, ↓gd_ft, bY]
        exact ⟨⟨cpuC_lt _ s, memC_lt _ s, tasksA_lt b _ _, numA_lt _ _ _, numA_lt _ _ _⟩, hi'⟩
    · rintro hp ⟨rfl, hi⟩
      rw [List.take_of_length_le (by simp)]
      simp -implicitDefEqProofs [↓gd_tt, ↓gd_ff, ↓gd_tf, ↓gd_ft]
      refine ⟨6, X ++ (probL s), ⟨by omega, by rw [← hX]; simp [partsS]⟩, by omega, rfl, ⟨lvP_lt _ _, cpuC_lt _ s, memC_lt _ s, tasksA_lt b _ _, numA_lt _ _ _, numA_lt _ _ _⟩, ?_⟩
      rfl
  · simp [partsS] at hX
    subst hX
    rcases lvP_cases (probs s) with ⟨e1, e2⟩ | e2
    · rw [e1]
      simp -implicitDefEqProofs [↓gd_tt, ↓gd_ff, ↓gd_tf, ↓gd_ft, lvP]
    · rw [e2]
      simp -implicitDefEqProofs [↓gd_tt, ↓gd_ff, ↓gd_tf, ↓gd_ft]
end Go.Idl
end
section
namespace Go.Idl
open Go.Proofs
set_option linter.unusedSimpArgs false
set_option linter.unusedVariables false
set_option maxRecDepth 8000
theorem list8 {α : Type} {l : List α} (h : l.length = 8) : ∃ a b c d e f g i, l = [a, b, c, d, e, f, g, i] := by
  match l, h with
  | [a, b, c, d, e, f, g, i], _ => exact ⟨a, b, c, d, e, f, g, i, rfl⟩
theorem c4 : Try.prog.cellsOf 4 = 1 := by kernel_rfl
theorem c48 : Try.prog.cellsOf 48 = 1 := by kernel_rfl
theorem c86 : Try.prog.cellsOf 89 = 8 := by kernel_rfl
theorem b86 : Try.prog.bytesOf 89 = 80 := by kernel_rfl
structure Le.ok (x : Le) : Prop where
  t : In64 x.t
  q : In64 x.q
  n : In64 x.n
  m : In64 x.m
  s : In64 x.s
  u : In64 x.u
  len : x.cs.length ≤ maxLen
  bytes : x.cs.length * 8 ≤ reachBytes
  cs : ∀ c ∈ x.cs, In64 c
theorem tyd_ints {n : Nat} {ds : List D} (h : TyD Try.prog (n + 2) 48 ds) : ∃ l : List Int, ds = [.sl false 1 (l.map fun n => .int .i64 n)] ∧ l.length ≤ maxLen ∧ l.length * 8 ≤ reachBytes ∧ ∀ c ∈ l, In64 c := by
  unfold TyD at h; rw [Try.underlying48] at h
  obtain ⟨xs, rfl, h1, h2, h3⟩ := h
  rw [c3, b3] at *
  obtain ⟨l, rfl, hl⟩ := all_enc (enc := fun n : Int => (.int .i64 n : D)) (p := In64) (T := fun y => TyV Try.prog (n + 1) 3 y) (fun x hx => by
    obtain ⟨m, e, w⟩ := ty_int Try.underlying3 hx
    exact ⟨m, e, wf_in w⟩) xs (fun y hy => by
    obtain ⟨_, a, b, c⟩ := h3 y hy
    exact ⟨a, b, c⟩)
  exact ⟨l, rfl, by simpa using h1, by simpa using h2, hl⟩
theorem ty_l {n : Nat} {x : D} (h : TyV Try.prog (n + 3) 89 x) : ∃ y : Le, x = encLe y ∧ y.ok := by
  obtain ⟨cs, rfl, h1, h2⟩ := ty_agg Try.underlying89 h
  rw [c86] at h1
  obtain ⟨x1, x2, x3, x4, x5, x6, x7, x8, rfl⟩ := list8 h1
  simp [c2, c3, c4, c48] at h2
  obtain ⟨k1, k2, k3, k4, k5, k6, k7, k8⟩ := h2
  obtain ⟨a1, e1, w1⟩ := tyd_int Try.underlying3 k1
  obtain ⟨a2, e2, w2⟩ := tyd_int Try.underlying3 k2
  obtain ⟨a3, e3, w3⟩ := tyd_int Try.underlying3 k3
  obtain ⟨l, e4, w4, w5, w6⟩ := tyd_ints k4
  obtain ⟨a5, e5, w7⟩ := tyd_int Try.underlying2 k5
  obtain ⟨a6, e6, w8⟩ := tyd_int Try.underlying2 k6
  obtain ⟨a7, e7, w9⟩ := tyd_int Try.underlying2 k7
  obtain ⟨a8, e8⟩ := tyd_bool Try.underlying4 k8
  simp at e1 e2 e3 e4 e5 e6 e7 e8
  subst e1; subst e2; subst e3; subst e4; subst e5; subst e6; subst e7; subst e8
  exact ⟨⟨a1, a2, a3, l, a5, a6, a7, a8⟩, rfl, ⟨wf_in w1, wf_in w2, wf_in w3, wf_in w7, wf_in w8, wf_in w9, w4, w5, w6⟩⟩
end Go.Idl
end
section
namespace Go.Idl
open Go.Proofs
set_option linter.unusedSimpArgs false
set_option linter.unusedVariables false
set_option maxRecDepth 8000
theorem list5 {α : Type} {l : List α} (h : l.length = 5) : ∃ a b c d e, l = [a, b, c, d, e] := by
  match l, h with
  | [a, b, c, d, e], _ => exact ⟨a, b, c, d, e, rfl⟩
theorem c87 : Try.prog.cellsOf 87 = 5 := by kernel_rfl
theorem c91 : Try.prog.cellsOf 91 = 7 := by kernel_rfl
theorem c109 : Try.prog.cellsOf 109 = 2 := by kernel_rfl
theorem c28 : Try.prog.cellsOf 28 = 8 := by kernel_rfl
theorem b87 : Try.prog.bytesOf 87 = 40 := by kernel_rfl
theorem b91 : Try.prog.bytesOf 91 = 72 := by kernel_rfl
theorem b109 : Try.prog.bytesOf 109 = 16 := by kernel_rfl
theorem cqs : Try.prog.cellsOf 22 = 1 := by kernel_rfl
theorem cns : Try.prog.cellsOf 23 = 1 := by kernel_rfl
theorem cts : Try.prog.cellsOf 24 = 1 := by kernel_rfl
theorem cls : Try.prog.cellsOf 25 = 1 := by kernel_rfl
theorem chs : Try.prog.cellsOf 26 = 1 := by kernel_rfl
theorem ty_nd {n : Nat} {x : D} (h : TyV Try.prog (n + 3) 87 x) : ∃ y : Nd, x = encNd y ∧ y.ok := by
  obtain ⟨cs, rfl, h1, h2⟩ := ty_agg Try.underlying87 h
  rw [c87] at h1
  obtain ⟨x1, x2, x3, x4, x5, rfl⟩ := list5 h1
  simp [c2, c3] at h2
  obtain ⟨k1, k2, k3, k4, k5⟩ := h2
  obtain ⟨a1, e1, w1⟩ := tyd_int Try.underlying3 k1
  obtain ⟨a2, e2, w2⟩ := tyd_int Try.underlying3 k2
  obtain ⟨a3, e3, w3⟩ := tyd_int Try.underlying2 k3
  obtain ⟨a4, e4, w4⟩ := tyd_int Try.underlying3 k4
  obtain ⟨a5, e5, w5⟩ := tyd_int Try.underlying3 k5
  simp at e1 e2 e3 e4 e5
  subst e1; subst e2; subst e3; subst e4; subst e5
  exact ⟨⟨a1, a2, a3, a4, a5⟩, rfl, ⟨wf_in w1, wf_in w2, wf_in w3, wf_in w4, wf_in w5⟩⟩
theorem ty_hu {n : Nat} {x : D} (h : TyV Try.prog (n + 3) 109 x) : ∃ y : Hu, x = encHu y ∧ True := by
  obtain ⟨cs, rfl, h1, h2⟩ := ty_agg Try.underlying109 h
  rw [c109] at h1
  obtain ⟨x1, x2, rfl⟩ := list2 h1
  simp [c2, c3] at h2
  obtain ⟨k1, k2⟩ := h2
  obtain ⟨a1, e1, w1⟩ := tyd_int Try.underlying3 k1
  obtain ⟨a2, e2, w2⟩ := tyd_int Try.underlying2 k2
  simp at e1 e2
  subst e1; subst e2
  exact ⟨⟨a1, a2⟩, rfl, trivial⟩
theorem ty_tk {n : Nat} {x : D} (h : TyV Try.prog (n + 3) 91 x) : ∃ y : Tk, x = encTk false y ∧ y.ok := by
  obtain ⟨cs, rfl, h1, h2⟩ := ty_agg Try.underlying91 h
  rw [c91] at h1
  obtain ⟨x1, x2, x3, x4, x5, x6, x7, rfl⟩ := list7 h1
  simp [c2, c3, c41, c48] at h2
  obtain ⟨k1, k2, k3, k4, k5, k6⟩ := h2
  obtain ⟨a1, e1, w1⟩ := tyd_int Try.underlying3 k1
  obtain ⟨a2, e2, w2⟩ := tyd_int Try.underlying3 k2
  obtain ⟨a3, a4, e3, w3, w4⟩ := tyd_vec k3
  obtain ⟨a5, e5, w5⟩ := tyd_int Try.underlying3 k4
  obtain ⟨l, e6, w6, w7, w8⟩ := tyd_ints k5
  obtain ⟨a7, e7, w9⟩ := tyd_int Try.underlying3 k6
  simp at e1 e2 e3 e5 e6 e7
  obtain ⟨rfl, rfl⟩ := e3
  subst e1; subst e2; subst e5; subst e6; subst e7
  exact ⟨⟨a1, a2, a3, a4, a5, l, a7⟩, rfl, ⟨wf_in w1, wf_in w2, w3, w4, wf_in w5, wf_in w9, w6, w7, w8⟩⟩
theorem tyd_list {P : Program} {α : Type} {n : Nat} {t e : TypeId} {ds : List D} {enc : α → D} {p : α → Prop} (hu : P.underlying t = some (.slice e)) (hT : ∀ x, TyV P n e x → ∃ a, x = enc a ∧ p a) (h : TyD P (n + 1) t ds) :
    ∃ l : List α, ds = [.sl false (P.cellsOf e) (l.map enc)] ∧ l.length ≤ maxLen ∧ l.length * P.bytesOf e ≤ reachBytes ∧ ∀ a ∈ l, p a := by
  unfold TyD at h; rw [hu] at h
  obtain ⟨xs, rfl, h1, h2, h3⟩ := h
  obtain ⟨l, rfl, hl⟩ := all_enc (enc := enc) (p := p) (T := fun y => TyV P n e y) hT xs (fun y hy => by
    obtain ⟨_, a, b, c⟩ := h3 y hy
    exact ⟨a, b, c⟩)
  exact ⟨l, rfl, by simpa using h1, by simpa using h2, hl⟩
/-- what the type says of a state -/
structure Sta.ok (s : Sta) : Prop where
  long : In64 s.long
  now : In64 s.now
  pat : In64 s.pat
  qs : s.qs.length ≤ maxLen ∧ s.qs.length * 56 ≤ reachBytes ∧ ∀ q ∈ s.qs, q.ok
  ns : s.ns.length ≤ maxLen ∧ s.ns.length * 40 ≤ reachBytes ∧ ∀ n ∈ s.ns, n.ok
  ts : s.ts.length ≤ maxLen ∧ s.ts.length * 72 ≤ reachBytes ∧ ∀ t ∈ s.ts, t.ok
  ls : s.ls.length ≤ maxLen ∧ s.ls.length * 80 ≤ reachBytes ∧ ∀ x ∈ s.ls, x.ok
  hs : s.hs.length ≤ maxLen ∧ s.hs.length * 16 ≤ reachBytes
theorem ty_st {n : Nat} {x : D} (h : TyV Try.prog (n + 5) 28 x) : ∃ s : Sta, x = encSt false s ∧ s.ok := by
  obtain ⟨cs, rfl, h1, h2⟩ := ty_agg Try.underlying28 h
  rw [c28] at h1
  obtain ⟨x1, x2, x3, x4, x5, x6, x7, x8, rfl⟩ := list8 h1
  simp [c2, c3, cqs, cns, cts, cls, chs] at h2
  obtain ⟨k1, k2, k3, k4, k5, k6, k7, k8⟩ := h2
  obtain ⟨a1, e1, w1⟩ := tyd_int Try.underlying2 k1
  obtain ⟨a2, e2, w2⟩ := tyd_int Try.underlying2 k2
  obtain ⟨a3, e3, w3⟩ := tyd_int Try.underlying2 k3
  obtain ⟨l4, e4, w4⟩ := tyd_list Try.underlying22 (fun x hx => ty_q hx) k4
  obtain ⟨l5, e5, w5⟩ := tyd_list Try.underlying23 (fun x hx => ty_nd hx) k5
  obtain ⟨l6, e6, w6⟩ := tyd_list Try.underlying24 (fun x hx => ty_tk hx) k6
  obtain ⟨l7, e7, w7⟩ := tyd_list Try.underlying25 (fun x hx => ty_l hx) k7
  obtain ⟨l8, e8, w8⟩ := tyd_list Try.underlying26 (fun x hx => ty_hu hx) k8
  rw [c43, b43] at *
  rw [c87, b87] at *
  rw [c91, b91] at *
  rw [c86, b86] at *
  rw [c109, b109] at *
  simp only [List.cons.injEq, and_true] at e1 e2 e3 e4 e5 e6 e7 e8
  subst e1; subst e2; subst e3; subst e4; subst e5; subst e6; subst e7; subst e8
  exact ⟨⟨a1, a2, a3, l4, l5, l6, l7, l8⟩, rfl, ⟨wf_in w1, wf_in w3, wf_in w2, w4, w5, w6, w7, w8.1, w8.2.1⟩⟩
end Go.Idl
end
section
namespace Go.Idl
open Go.Proofs
set_option linter.unusedSimpArgs false
set_option linter.unusedVariables false
set_option maxRecDepth 8000
set_option maxHeartbeats 2000000

def sta0 : Sta := ⟨9, 0, 0, [⟨0, -1, 1, 9, 9, 0, 0⟩], [⟨1, 2, 5, 0, 0⟩], [], [⟨7, 0, 1, [0], 1, 0, 9, false⟩], []⟩
def staZ : Sta := ⟨0, 0, 0, [], [], [], [], []⟩
theorem sta0_small : sta0.small := by
  constructor <;> simp [sta0, In64] <;> decide
theorem staZ_small : staZ.small := by
  constructor <;> simp [staZ, In64] <;> decide
theorem audit0 : auditL sta0 = [(5, 7)] := by
  have hf : formA sta0 := ⟨by decide, fun j hj => by simp [sta0] at hj, fun j hj => by simp [sta0] at hj, fun j hj => by simp [sta0] at hj, fun j hj => by simp [sta0] at hj⟩
  unfold auditL; rw [if_pos hf]
  decide
theorem auditZ : auditL staZ = [(1, 0)] := by
  have hf : ¬ formA staZ := fun h => absurd h.1 (by decide)
  unfold auditL; rw [if_neg hf]
theorem awake12_spec : PCall Try.prog 11 [] (.d (.bool true)) := by
  have h1 := check_spec false sta0 sta0_small
  have h2 := check_spec false staZ staZ_small
  rw [audit0] at h1
  rw [auditZ] at h2
  refine pcallS (fn := Try.f11) [] [] mixed (bodyOf Try.f11) [.tmp 0] Try.func11 rfl rfl (by decide) 32 rfl (by kernel_rfl) ?_
  simp -implicitDefEqProofs [↓gd_tt, ↓gd_ff, ↓gd_tf, ↓gd_ft, bodyOf, Try.f11, stripC, stripL, stripM, onsOf, upto, hintOf, freeOf, List.replicate]
  refine callK_pcall h1 (by simp [sta0]) rfl ?_
  simp -implicitDefEqProofs [↓gd_tt, ↓gd_ff, ↓gd_tf, ↓gd_ft, eqAt]
  refine callK_pcall h2 (by simp [staZ]) rfl ?_
  simp -implicitDefEqProofs [↓gd_tt, ↓gd_ff, ↓gd_tf, ↓gd_ft]
theorem ok_small {s : Sta} (h : s.ok) (h1 : s.ts.length ≤ 200) (h2 : s.ls.length ≤ 200) (h3 : s.ns.length ≤ 200) : s.small := by
  have hr : reachBytes = 140737488351232 := rfl
  obtain ⟨q1, q2, q3⟩ := h.qs
  obtain ⟨n1, n2, n3⟩ := h.ns
  obtain ⟨l1, l2, l3⟩ := h.ls
  obtain ⟨g1, g2⟩ := h.hs
  exact ⟨q1, by omega, by omega, by omega, by omega, fun x hx => (l3 x hx).len, fun x hx => (l3 x hx).m, fun x hx => (l3 x hx).u, h.now, h.long, fun q hq => ⟨(q3 q hq).QC, (q3 q hq).QM⟩, fun n hn => (n3 n hn).m⟩
theorem auditStates_spec (s : Sta) (h : s.ok) : PCall Try.prog 3 [encSt false s] (.d (.bool true)) := by
  refine pcallS (fn := Try.f3) [] [] mixed (bodyOf Try.f3) [.tmp 2] Try.func3 rfl rfl (by decide) 35 rfl (by kernel_rfl) ?_
  simp -implicitDefEqProofs [↓gd_tt, ↓gd_ff, ↓gd_tf, ↓gd_ft, bodyOf, Try.f3, stripC, stripL, stripM, onsOf, upto, hintOf, freeOf, List.replicate]
  refine callK_pcall awake12_spec rfl rfl ?_
  simp -implicitDefEqProofs [↓gd_tt, ↓gd_ff, ↓gd_tf, ↓gd_ft]
  intro h1 h2 h3
  have hsm := ok_small h (by omega) (by omega) (by omega)
  obtain ⟨q1, q2, q3⟩ := h.qs
  obtain ⟨n1, n2, n3⟩ := h.ns
  obtain ⟨t1, t2, t3⟩ := h.ts
  obtain ⟨l1, l2, l3⟩ := h.ls
  obtain ⟨g1, g2⟩ := h.hs
  refine callK_pcall (twinState_spec false s q2 n2 g2 hsm.ts (fun x hx => (t3 x hx).bytes) hsm.ls fun x hx => (l3 x hx).bytes) rfl rfl ?_
  simp -implicitDefEqProofs [↓gd_tt, ↓gd_ff, ↓gd_tf, ↓gd_ft]
  refine callK_pcall (check_spec false s hsm) rfl rfl ?_
  simp -implicitDefEqProofs [↓gd_tt, ↓gd_ff, ↓gd_tf, ↓gd_ft]
  refine callK_pcall (rcheckA_spec false s hsm) rfl rfl ?_
  simp -implicitDefEqProofs [↓gd_tt, ↓gd_ff, ↓gd_tf, ↓gd_ft]
  refine callK_pcall (samePr_spec false false (auditL s) ?_) rfl rfl ?_
  · by_cases hf : formA s
    · have := probs_len hsm hf.1
      unfold auditL; rw [if_pos hf]
      have h2 : (probs s).length ≤ 6000000 := by simp [probs]; omega
      exact Nat.le_trans h2 (by decide)
    · unfold auditL; rw [if_neg hf]; decide
  simp -implicitDefEqProofs [↓gd_tt, ↓gd_ff, ↓gd_tf, ↓gd_ft]
  refine callK_pcall (sameState_spec false false s q1 n1 t1 l1 g1 (fun x hx => (t3 x hx).len) fun x hx => (l3 x hx).len) rfl rfl ?_
  simp -implicitDefEqProofs [↓gd_tt, ↓gd_ff, ↓gd_tf, ↓gd_ft]
end Go.Idl
end
section
namespace Go.Proofs.Ytkfpaffcglijeaa
set_option maxRecDepth 100000
def ioL : List Char := [Char.ofNat 104, Char.ofNat 97, Char.ofNat 114, Char.ofNat 110, Char.ofNat 101, Char.ofNat 115, Char.ofNat 115, Char.ofNat 32, Char.ofNat 57, Char.ofNat 99, Char.ofNat 51, Char.ofNat 57, Char.ofNat 53, Char.ofNat 50, Char.ofNat 50, Char.ofNat 98, Char.ofNat 53, Char.ofNat 98, Char.ofNat 102, Char.ofNat 97, Char.ofNat 55, Char.ofNat 101, Char.ofNat 57, Char.ofNat 97, Char.ofNat 50, Char.ofNat 48, Char.ofNat 56, Char.ofNat 98, Char.ofNat 98, Char.ofNat 57, Char.ofNat 98, Char.ofNat 97, Char.ofNat 56, Char.ofNat 99, Char.ofNat 49, Char.ofNat 102, Char.ofNat 52, Char.ofNat 49, Char.ofNat 57, Char.ofNat 102, Char.ofNat 100, Char.ofNat 53, Char.ofNat 50, Char.ofNat 52, Char.ofNat 100, Char.ofNat 101, Char.ofNat 98, Char.ofNat 102, Char.ofNat 100, Char.ofNat 98, Char.ofNat 99, Char.ofNat 98, Char.ofNat 99, Char.ofNat 57, Char.ofNat 100, Char.ofNat 53, Char.ofNat 57, Char.ofNat 97, Char.ofNat 56, Char.ofNat 48, Char.ofNat 52, Char.ofNat 50, Char.ofNat 99, Char.ofNat 100, Char.ofNat 99, Char.ofNat 98, Char.ofNat 49, Char.ofNat 55, Char.ofNat 97, Char.ofNat 56, Char.ofNat 100, Char.ofNat 97, Char.ofNat 32, Char.ofNat 99, Char.ofNat 117, Char.ofNat 116, Char.ofNat 32, Char.ofNat 97, Char.ofNat 116, Char.ofNat 32, Char.ofNat 102, Char.ofNat 117, Char.ofNat 114, Char.ofNat 108, Char.ofNat 111, Char.ofNat 110, Char.ofNat 103, Char.ofNat 47, Char.ofNat 102, Char.ofNat 117, Char.ofNat 114, Char.ofNat 108, Char.ofNat 111, Char.ofNat 110, Char.ofNat 103, Char.ofNat 108, Char.ofNat 97, Char.ofNat 119, Char.ofNat 49, Char.ofNat 50, Char.ofNat 46, Char.ofNat 65, Char.ofNat 117, Char.ofNat 100, Char.ofNat 105, Char.ofNat 116, Char.ofNat 83, Char.ofNat 116, Char.ofNat 97, Char.ofNat 116, Char.ofNat 101, Char.ofNat 115, Char.ofNat 32, Char.ofNat 102, Char.ofNat 117, Char.ofNat 114, Char.ofNat 108, Char.ofNat 111, Char.ofNat 110, Char.ofNat 103, Char.ofNat 47, Char.ofNat 102, Char.ofNat 117, Char.ofNat 114, Char.ofNat 108, Char.ofNat 111, Char.ofNat 110, Char.ofNat 103, Char.ofNat 108, Char.ofNat 97, Char.ofNat 119, Char.ofNat 49, Char.ofNat 50, Char.ofNat 46, Char.ofNat 65, Char.ofNat 117, Char.ofNat 100, Char.ofNat 105, Char.ofNat 116, Char.ofNat 79, Char.ofNat 114, Char.ofNat 100, Char.ofNat 101, Char.ofNat 114, Char.ofNat 32, Char.ofNat 102, Char.ofNat 117, Char.ofNat 114, Char.ofNat 108, Char.ofNat 111, Char.ofNat 110, Char.ofNat 103, Char.ofNat 47, Char.ofNat 102, Char.ofNat 117, Char.ofNat 114, Char.ofNat 108, Char.ofNat 111, Char.ofNat 110, Char.ofNat 103, Char.ofNat 108, Char.ofNat 97, Char.ofNat 119, Char.ofNat 48, Char.ofNat 53, Char.ofNat 46, Char.ofNat 81, Char.ofNat 117, Char.ofNat 101, Char.ofNat 117, Char.ofNat 101, Char.ofNat 65, Char.ofNat 112, Char.ofNat 97, Char.ofNat 114, Char.ofNat 116, Char.ofNat 32, Char.ofNat 102, Char.ofNat 117, Char.ofNat 114, Char.ofNat 108, Char.ofNat 111, Char.ofNat 110, Char.ofNat 103, Char.ofNat 47, Char.ofNat 102, Char.ofNat 117, Char.ofNat 114, Char.ofNat 108, Char.ofNat 111, Char.ofNat 110, Char.ofNat 103, Char.ofNat 108, Char.ofNat 97, Char.ofNat 119, Char.ofNat 49, Char.ofNat 55, Char.ofNat 46, Char.ofNat 80, Char.ofNat 111, Char.ofNat 115, Char.ofNat 116, Char.ofNat 83, Char.ofNat 99, Char.ofNat 114, Char.ofNat 105, Char.ofNat 112, Char.ofNat 116, Char.ofNat 115, Char.ofNat 32, Char.ofNat 102, Char.ofNat 117, Char.ofNat 114, Char.ofNat 108, Char.ofNat 111, Char.ofNat 110, Char.ofNat 103, Char.ofNat 47, Char.ofNat 102, Char.ofNat 117, Char.ofNat 114, Char.ofNat 108, Char.ofNat 111, Char.ofNat 110, Char.ofNat 103, Char.ofNat 108, Char.ofNat 97, Char.ofNat 119, Char.ofNat 49, Char.ofNat 55, Char.ofNat 46, Char.ofNat 80, Char.ofNat 111, Char.ofNat 115, Char.ofNat 116, Char.ofNat 84, Char.ofNat 105, Char.ofNat 99, Char.ofNat 107, Char.ofNat 101, Char.ofNat 116, Char.ofNat 115, Char.ofNat 32, Char.ofNat 102, Char.ofNat 117, Char.ofNat 114, Char.ofNat 108, Char.ofNat 111, Char.ofNat 110, Char.ofNat 103, Char.ofNat 47, Char.ofNat 102, Char.ofNat 117, Char.ofNat 114, Char.ofNat 108, Char.ofNat 111, Char.ofNat 110, Char.ofNat 103, Char.ofNat 108, Char.ofNat 97, Char.ofNat 119, Char.ofNat 49, Char.ofNat 55, Char.ofNat 46, Char.ofNat 80, Char.ofNat 111, Char.ofNat 115, Char.ofNat 116, Char.ofNat 76, Char.ofNat 105, Char.ofNat 110, Char.ofNat 101, Char.ofNat 115, Char.ofNat 32, Char.ofNat 102, Char.ofNat 117, Char.ofNat 114, Char.ofNat 108, Char.ofNat 111, Char.ofNat 110, Char.ofNat 103, Char.ofNat 47, Char.ofNat 102, Char.ofNat 117, Char.ofNat 114, Char.ofNat 108, Char.ofNat 111, Char.ofNat 110, Char.ofNat 103, Char.ofNat 108, Char.ofNat 97, Char.ofNat 119, Char.ofNat 49, Char.ofNat 55, Char.ofNat 46, Char.ofNat 80, Char.ofNat 111, Char.ofNat 115, Char.ofNat 116, Char.ofNat 70, Char.ofNat 117, Char.ofNat 108, Char.ofNat 108, Char.ofNat 32, Char.ofNat 102, Char.ofNat 117, Char.ofNat 114, Char.ofNat 108, Char.ofNat 111, Char.ofNat 110, Char.ofNat 103, Char.ofNat 47, Char.ofNat 102, Char.ofNat 117, Char.ofNat 114, Char.ofNat 108, Char.ofNat 111, Char.ofNat 110, Char.ofNat 103, Char.ofNat 108, Char.ofNat 97, Char.ofNat 119, Char.ofNat 49, Char.ofNat 55, Char.ofNat 46, Char.ofNat 80, Char.ofNat 111, Char.ofNat 115, Char.ofNat 116, Char.ofNat 78, Char.ofNat 105, Char.ofNat 108]
def wsL : List (List Char) := [[Char.ofNat 99, Char.ofNat 117, Char.ofNat 116],
  [Char.ofNat 97, Char.ofNat 116],
  [Char.ofNat 102, Char.ofNat 117, Char.ofNat 114, Char.ofNat 108, Char.ofNat 111, Char.ofNat 110, Char.ofNat 103, Char.ofNat 47, Char.ofNat 102, Char.ofNat 117, Char.ofNat 114, Char.ofNat 108, Char.ofNat 111, Char.ofNat 110, Char.ofNat 103, Char.ofNat 108, Char.ofNat 97, Char.ofNat 119, Char.ofNat 49, Char.ofNat 50, Char.ofNat 46, Char.ofNat 65, Char.ofNat 117, Char.ofNat 100, Char.ofNat 105, Char.ofNat 116, Char.ofNat 83, Char.ofNat 116, Char.ofNat 97, Char.ofNat 116, Char.ofNat 101, Char.ofNat 115],
  [Char.ofNat 102, Char.ofNat 117, Char.ofNat 114, Char.ofNat 108, Char.ofNat 111, Char.ofNat 110, Char.ofNat 103, Char.ofNat 47, Char.ofNat 102, Char.ofNat 117, Char.ofNat 114, Char.ofNat 108, Char.ofNat 111, Char.ofNat 110, Char.ofNat 103, Char.ofNat 108, Char.ofNat 97, Char.ofNat 119, Char.ofNat 49, Char.ofNat 50, Char.ofNat 46, Char.ofNat 65, Char.ofNat 117, Char.ofNat 100, Char.ofNat 105, Char.ofNat 116, Char.ofNat 79, Char.ofNat 114, Char.ofNat 100, Char.ofNat 101, Char.ofNat 114],
  [Char.ofNat 102, Char.ofNat 117, Char.ofNat 114, Char.ofNat 108, Char.ofNat 111, Char.ofNat 110, Char.ofNat 103, Char.ofNat 47, Char.ofNat 102, Char.ofNat 117, Char.ofNat 114, Char.ofNat 108, Char.ofNat 111, Char.ofNat 110, Char.ofNat 103, Char.ofNat 108, Char.ofNat 97, Char.ofNat 119, Char.ofNat 48, Char.ofNat 53, Char.ofNat 46, Char.ofNat 81, Char.ofNat 117, Char.ofNat 101, Char.ofNat 117, Char.ofNat 101, Char.ofNat 65, Char.ofNat 112, Char.ofNat 97, Char.ofNat 114, Char.ofNat 116],
  [Char.ofNat 102, Char.ofNat 117, Char.ofNat 114, Char.ofNat 108, Char.ofNat 111, Char.ofNat 110, Char.ofNat 103, Char.ofNat 47, Char.ofNat 102, Char.ofNat 117, Char.ofNat 114, Char.ofNat 108, Char.ofNat 111, Char.ofNat 110, Char.ofNat 103, Char.ofNat 108, Char.ofNat 97, Char.ofNat 119, Char.ofNat 49, Char.ofNat 55, Char.ofNat 46, Char.ofNat 80, Char.ofNat 111, Char.ofNat 115, Char.ofNat 116, Char.ofNat 83, Char.ofNat 99, Char.ofNat 114, Char.ofNat 105, Char.ofNat 112, Char.ofNat 116, Char.ofNat 115],
  [Char.ofNat 102, Char.ofNat 117, Char.ofNat 114, Char.ofNat 108, Char.ofNat 111, Char.ofNat 110, Char.ofNat 103, Char.ofNat 47, Char.ofNat 102, Char.ofNat 117, Char.ofNat 114, Char.ofNat 108, Char.ofNat 111, Char.ofNat 110, Char.ofNat 103, Char.ofNat 108, Char.ofNat 97, Char.ofNat 119, Char.ofNat 49, Char.ofNat 55, Char.ofNat 46, Char.ofNat 80, Char.ofNat 111, Char.ofNat 115, Char.ofNat 116, Char.ofNat 84, Char.ofNat 105, Char.ofNat 99, Char.ofNat 107, Char.ofNat 101, Char.ofNat 116, Char.ofNat 115],
  [Char.ofNat 102, Char.ofNat 117, Char.ofNat 114, Char.ofNat 108, Char.ofNat 111, Char.ofNat 110, Char.ofNat 103, Char.ofNat 47, Char.ofNat 102, Char.ofNat 117, Char.ofNat 114, Char.ofNat 108, Char.ofNat 111, Char.ofNat 110, Char.ofNat 103, Char.ofNat 108, Char.ofNat 97, Char.ofNat 119, Char.ofNat 49, Char.ofNat 55, Char.ofNat 46, Char.ofNat 80, Char.ofNat 111, Char.ofNat 115, Char.ofNat 116, Char.ofNat 76, Char.ofNat 105, Char.ofNat 110, Char.ofNat 101, Char.ofNat 115],
  [Char.ofNat 102, Char.ofNat 117, Char.ofNat 114, Char.ofNat 108, Char.ofNat 111, Char.ofNat 110, Char.ofNat 103, Char.ofNat 47, Char.ofNat 102, Char.ofNat 117, Char.ofNat 114, Char.ofNat 108, Char.ofNat 111, Char.ofNat 110, Char.ofNat 103, Char.ofNat 108, Char.ofNat 97, Char.ofNat 119, Char.ofNat 49, Char.ofNat 55, Char.ofNat 46, Char.ofNat 80, Char.ofNat 111, Char.ofNat 115, Char.ofNat 116, Char.ofNat 70, Char.ofNat 117, Char.ofNat 108, Char.ofNat 108],
  [Char.ofNat 102, Char.ofNat 117, Char.ofNat 114, Char.ofNat 108, Char.ofNat 111, Char.ofNat 110, Char.ofNat 103, Char.ofNat 47, Char.ofNat 102, Char.ofNat 117, Char.ofNat 114, Char.ofNat 108, Char.ofNat 111, Char.ofNat 110, Char.ofNat 103, Char.ofNat 108, Char.ofNat 97, Char.ofNat 119, Char.ofNat 49, Char.ofNat 55, Char.ofNat 46, Char.ofNat 80, Char.ofNat 111, Char.ofNat 115, Char.ofNat 116, Char.ofNat 78, Char.ofNat 105, Char.ofNat 108]]
theorem io : Try.prog.initOrder = String.ofList ioL := by kernel_rfl
theorem ios : Try.prog.initOrder.toList = ioL := by rw [io, String.toList_ofList]
theorem wsx : wordsSigns ioL = [[Char.ofNat 104, Char.ofNat 97, Char.ofNat 114, Char.ofNat 110, Char.ofNat 101, Char.ofNat 115, Char.ofNat 115], [Char.ofNat 57, Char.ofNat 99, Char.ofNat 51, Char.ofNat 57, Char.ofNat 53, Char.ofNat 50, Char.ofNat 50, Char.ofNat 98, Char.ofNat 53, Char.ofNat 98, Char.ofNat 102, Char.ofNat 97, Char.ofNat 55, Char.ofNat 101, Char.ofNat 57, Char.ofNat 97, Char.ofNat 50, Char.ofNat 48, Char.ofNat 56, Char.ofNat 98, Char.ofNat 98, Char.ofNat 57, Char.ofNat 98, Char.ofNat 97, Char.ofNat 56, Char.ofNat 99, Char.ofNat 49, Char.ofNat 102, Char.ofNat 52, Char.ofNat 49, Char.ofNat 57, Char.ofNat 102, Char.ofNat 100, Char.ofNat 53, Char.ofNat 50, Char.ofNat 52, Char.ofNat 100, Char.ofNat 101, Char.ofNat 98, Char.ofNat 102, Char.ofNat 100, Char.ofNat 98, Char.ofNat 99, Char.ofNat 98, Char.ofNat 99, Char.ofNat 57, Char.ofNat 100, Char.ofNat 53, Char.ofNat 57, Char.ofNat 97, Char.ofNat 56, Char.ofNat 48, Char.ofNat 52, Char.ofNat 50, Char.ofNat 99, Char.ofNat 100, Char.ofNat 99, Char.ofNat 98, Char.ofNat 49, Char.ofNat 55, Char.ofNat 97, Char.ofNat 56, Char.ofNat 100, Char.ofNat 97]] ++ wsL := by kernel_rfl
theorem ws : behindMainWord (wordsSigns Try.prog.initOrder.toList) = wsL := by rw [ios, wsx]; kernel_rfl
theorem may_of {P : Program} {c : List Char} {rest : List (List Char)} (h : behindMainWord (wordsSigns P.initOrder.toList) = c :: rest) (h1 : stripLifts liftWords (c :: rest) = ([], c :: rest)) (hcut : (c == "cut".toList) = true) (h2 : P.laysLater = false) (h3 : P.bearsReflect = false) (h4 : P.doorRows = []) : P.mayEnter = true := by
  unfold Program.mayEnter; rw [h]
  have hd : P.doorFits [] = true := by unfold Program.doorFits; rw [h4]; rfl
  have e : ((c :: rest).head? == some "cut".toList) = true := by rw [List.head?_cons]; simpa using hcut
  simp only [h1, h2, h3, hd, e]
  simp
theorem head_of {P : Program} {c : List Char} {rest : List (List Char)} (h : behindMainWord (wordsSigns P.initOrder.toList) = c :: rest) (h1 : stripLifts liftWords (c :: rest) = ([], c :: rest)) : P.headLifts = [] := by
  unfold Program.headLifts; rw [h]; simp only [h1]; simp
theorem lifts_of {P : Program} {c : List Char} {rest : List (List Char)} (h : behindMainWord (wordsSigns P.initOrder.toList) = c :: rest) (h1 : stripLifts liftWords (c :: rest) = ([], c :: rest)) (hcar : (c == "carried".toList) = false) : P.liftsFinal = false := by
  have e : ((c :: rest).head? == some "carried".toList) = false := by rw [List.head?_cons]; simpa using hcar
  unfold Program.liftsFinal; rw [h, head_of h h1]; simp only [e]; simp
def wsC : List Char := [Char.ofNat 99, Char.ofNat 117, Char.ofNat 116]
def wsR : List (List Char) := wsL.tail
theorem ws2 : behindMainWord (wordsSigns Try.prog.initOrder.toList) = wsC :: wsR := by rw [ws]; rfl
theorem ws3 : stripLifts liftWords (wsC :: wsR) = ([], wsC :: wsR) := by kernel_rfl
theorem ws4 : (wsC == "cut".toList) = true := by kernel_rfl
theorem ws5 : (wsC == "carried".toList) = false := by kernel_rfl
theorem jLater : Try.prog.laysLater = false := by kernel_rfl
theorem jRefl : Try.prog.bearsReflect = false := by kernel_rfl
theorem jDoor : Try.prog.doorRows = [] := by kernel_rfl
theorem jMay : Try.prog.mayEnter = true := may_of ws2 ws3 ws4 jLater jRefl jDoor
theorem jLifts : Try.prog.liftsFinal = false := lifts_of ws2 ws3 ws5
theorem make_of {P : Program} {c : List Char} {rest : List (List Char)} (h : behindMainWord (wordsSigns P.initOrder.toList) = c :: rest) (hg : (c == "gc".toList) = false) (hs : (c == "spec".toList) = false) (hcut : (c == "cut".toList) = true) : P.make = some .cut := by
  unfold Program.make; rw [h]; simp only [hg, hs, hcut]; simp
theorem ws6 : (wsC == "gc".toList) = false := by kernel_rfl
theorem ws7 : (wsC == "spec".toList) = false := by kernel_rfl
theorem jMake : Try.prog.make = some .cut := make_of ws2 ws6 ws7 ws4
theorem jLaid : laidOutB Try.prog = true := by kernel_rfl
theorem jMaps : mapsRowed Try.prog = true := by kernel_rfl
theorem jStops : Try.prog.stops = [] := by kernel_rfl
theorem jKnobs : Try.prog.stopKnobs = [] := by kernel_rfl
theorem jKeys : Try.prog.plainKeys = false := by kernel_rfl
theorem jHeard : Try.prog.stopsHeard = true := by kernel_rfl
end Go.Proofs.Ytkfpaffcglijeaa
end
