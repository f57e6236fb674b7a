/- The program's audit: audit.Check, what it answers as an array of the memory.; The statement AuditOrder.; Closed facts on the seat's program that every row asks, printed by genjc.py (a program of mine). -/
import Derived.Test.YtkfpaffcglijeaaRows
import Derived.JoinedOf
import Derived.KernelRfl
import Derived.Test.YtkfpaffcglijeaaAuditOrderPart20
set_option linter.all false
section
namespace Go.Idl
open Go.Proofs
set_option linter.unusedSimpArgs false
set_option linter.unusedVariables false
set_option maxRecDepth 8000
set_option maxHeartbeats 4000000
variable (b : Bool)

theorem encV_plain {l : List (Int × Int)} : ∀ y ∈ l.map encV, y.plain = true := fun y hy => by
  obtain ⟨v, _, rfl⟩ := List.mem_map.1 hy
  rfl
theorem check_mem0 (s : Sta) (hsm : s.small) {K : V → List IObj → Prop} (hk : ∀ cap rest, (auditL s).length + rest.length = cap → K (.ref 0 2 0 (auditL s).length cap) [.arr 2 ((auditL s).map encV ++ rest)]) : CallK Try.prog 13 [.d (encSt b s)] [] K := by
  have f1 := formA_spec b s hsm.qs (small6 hsm.ns) (small6 hsm.ts) (small6 hsm.ls) (Nat.le_trans hsm.hs (by decide))
  refine callS (fn := Try.f13) [(29, 2), (12, 1)] [(2, 2000000), (5, 2000000), (10, 2000000), (12, 2000000)] mixed (bodyOf Try.f13) [.tmp 2] Try.func13 rfl rfl (by decide) 42 rfl (by kernel_rfl) ?_
  simp -implicitDefEqProofs [↓gd_tt, ↓gd_ff, ↓gd_tf, ↓gd_ft, bodyOf, Try.f13, stripC, stripL, stripM, onsOf, upto, hintOf, freeOf, List.replicate]
  refine callK_pcall f1 rfl rfl ?_
  by_cases hf : formA s
  case neg =>
    have ha : auditL s = [(1, 0)] := by simp [auditL, hf]
    rw [ha] at hk
    simp -implicitDefEqProofs [↓gd_tt, ↓gd_ff, ↓gd_tf, ↓gd_ft, hf]
    refine regionRf [(12, 1)] ?_
    simp -implicitDefEqProofs [↓gd_tt, ↓gd_ff, ↓gd_tf, ↓gd_ft, stripL, onsOf, hintOf]
    refine ⟨_, St.le_pick 2 1 rfl rfl rfl, ?_⟩
    simp -implicitDefEqProofs [↓gd_tt, ↓gd_ff, ↓gd_tf, ↓gd_ft]
    exact hk 1 [] rfl
  have hau : auditL s = probs s := by unfold auditL; rw [if_pos hf]
  rw [hau] at hk
  obtain ⟨hc, r1, r2, r3, r4⟩ := id hf
  simp -implicitDefEqProofs [↓gd_tt, ↓gd_ff, ↓gd_tf, ↓gd_ft, hf]
  refine SemC.pre (St.le_nilHold (id := 1) (j := 0) rfl rfl) ?_
  refine regionCh [(29, 2)] [1, 3, 5, 8, 9, 11, 14, 15, 16] [1, 3, 5, 8, 9, 11, 14, 15, 16] mixed (by kernel_rfl) ?_
  simp -implicitDefEqProofs [↓gd_tt, ↓gd_ff, ↓gd_tf, ↓gd_ft, stripL, stripM, onsOf, hintOf]
  refine x_end ?w1 (fun K0 hK0 => ?_) ?_
  case refine_1 =>
    simp -implicitDefEqProofs [↓gd_tt, ↓gd_ff, ↓gd_tf, ↓gd_ft, lx_zero, lx_succ, ll_nil, ll_cons]
    refine callK_frame (queues_spec b s hc hsm.ls (K := fun r hp' => r = .fn (.func 101) [.ptr 0 0, .ptr 3 0, .ptr 4 0] ∧ hp' = [stC b s, .var (cpuC s), .var (memC s), .var [.ref 1 1 0 s.qs.length s.qs.length], .var [.ref 2 1 0 s.qs.length s.qs.length]]) ⟨rfl, rfl⟩) [] ⟨rfl, List.nodup_nil, fun i j o h => by simp at h, rfl⟩ (by simp) (by simp) (by exact LeTm.refl _) ?_
    rintro r hp' ⟨rfl, rfl⟩
    simp -implicitDefEqProofs [↓gd_tt, ↓gd_ff, ↓gd_tf, ↓gd_ft, lx_zero, lx_succ, ll_nil, ll_cons, mergeHp, setObjs, renNew, IObj.ren, V.ren, V.renL, List.range', renL_cpuC, renL_memC]
    refine nodes_spec b s 3 _ _ _ _ (by simp) ?_
    simp -implicitDefEqProofs [↓gd_tt, ↓gd_ff, ↓gd_tf, ↓gd_ft, lx_zero, lx_succ, ll_nil, ll_cons]
    refine nodes_spec b s 4 _ _ _ _ (by simp) ?_
    simp -implicitDefEqProofs [↓gd_tt, ↓gd_ff, ↓gd_tf, ↓gd_ft, lx_zero, lx_succ, ll_nil, ll_cons]
    refine astray_spec b s (small6 hsm.ts) (small6 hsm.ns) r2 r1 _ ?h1 _ ?_
    case h1 => simp [ltObjs, IObj.lt, V.ltL, V.lt, cpuC_lt, memC_lt]
    simp -implicitDefEqProofs [↓gd_tt, ↓gd_ff, ↓gd_tf, ↓gd_ft, lx_zero, lx_succ, ll_nil, ll_cons]
    refine leases_spec b s 5 _ _ _ _ (by simp) ?_
    simp -implicitDefEqProofs [↓gd_tt, ↓gd_ff, ↓gd_tf, ↓gd_ft, lx_zero, lx_succ, ll_nil, ll_cons]
    refine bare_spec b s (small6 hsm.ls) r3 _ ?h2 _ ?_
    case h2 => simp [ltObjs, IObj.lt, V.ltL, V.lt, cpuC_lt, memC_lt, tasksA_lt, numA_lt]
    simp -implicitDefEqProofs [↓gd_tt, ↓gd_ff, ↓gd_tf, ↓gd_ft, lx_zero, lx_succ, ll_nil, ll_cons]
    refine leases_spec b s 7 _ _ _ _ (by simp) ?_
    simp -implicitDefEqProofs [↓gd_tt, ↓gd_ff, ↓gd_tf, ↓gd_ft, lx_zero, lx_succ, ll_nil, ll_cons]
    exact hK0
  refine loopA mixed [false, false, false, false, false, false, true, false, false, false, false, false, false, false, false, false, false, false, false, false, false, false, false, false, false, false, false, false, false, false, false, true, true, true, true, true, false, false, false, false, false, true] (fun (k : Nat × List (Int × Int)) => [(31, .d (I k.1))]) (fun (k : Nat × List (Int × Int)) => chkHp b s (.hold 2 (k.2.map encV))) (fun (k : Nat × List (Int × Int)) => k.1 ≤ 6 ∧ k.2 ++ ((partsS s).drop k.1).flatten = probs s) (fun (k : Nat × List (Int × Int)) => 6 - k.1) ((0, [])) (⟨Nat.zero_le _, by simp [partsS, probs]⟩) (by simp [ltObjs, IObj.lt, V.ltL, V.lt, cpuC_lt, memC_lt, tasksA_lt, numA_lt, constV_nilf]) ?_
  rintro k hx
  obtain ⟨k, X⟩ := k
  obtain ⟨hk6, hX⟩ := hx
  simp only at hk6 hX ⊢
  have hlen := probs_len hsm hc
  have hXl : X.length + ((partsS s).drop k).flatten.length ≤ 6000000 := by
    have := congrArg List.length hX
    rw [List.length_append] at this
    rw [this]; simp [probs]; omega
  have hk7 : k = 0 ∨ k = 1 ∨ k = 2 ∨ k = 3 ∨ k = 4 ∨ k = 5 ∨ k = 6 := by omega
  rcases hk7 with rfl | rfl | rfl | rfl | rfl | rfl | rfl
  · have hXl2 : X.length + (probQ s).length ≤ 6000000 := by simp [partsS] at hXl; omega
    simp -implicitDefEqProofs [↓gd_tt, ↓gd_ff, ↓gd_tf, ↓gd_ft]
    refine rangeYl mixed (probQ_yields b s hsm hc) (by simp) (by simp) (by simp) (by simp [V.ltL, V.lt, constV_nilf]) (by simp) (by intro y hy; obtain ⟨p, _, rfl⟩ := List.mem_map.1 hy; simp)
      (fun i hp => hp = chkHp b s (.hold 2 ((X ++ (probQ s).take i).map encV)) ∧ i ≤ (probQ s).length) ⟨by simp, Nat.zero_le _⟩ (by rintro i hp ⟨rfl, _⟩; refine ⟨by simp, by simp [ltObjs, IObj.lt, V.ltL, V.lt, cpuC_lt, memC_lt, tasksA_lt, numA_lt], fun L => by simp⟩) ?_ ?_
    · rintro i hp ⟨rfl, hi⟩ hik L0 L1 hL1
      have hA : L1.lt 30 = true := IObj.lt_mono (by simp) hL1
      have hB : L1.lt 31 = true := IObj.lt_mono (by simp) hL1
      have hi' : i < (probQ s).length := by simpa using hik
      have hst : X ++ (probQ s).take (i + 1) = (X ++ (probQ s).take i) ++ [(probQ s)[i]] := by rw [List.take_add_one, List.getElem?_eq_getElem hi']; simp
      have hYl : (X ++ (probQ s).take i).length ≤ 6000000 := by simp; omega
      rw [hst]
      simp only [List.getElem_map]
      generalize (probQ s)[i] = p at *
      generalize X ++ (probQ s).take i = Y at *
      have bY : (Y.length + 1) * 16 ≤ 140737488355328 := by omega
      simp -implicitDefEqProofs [↓gd_tt, ↓gd_ff, ↓gd_tf, ↓gd_ft]
      refine SemC.thawCell (id := 1) (j := 0) rfl rfl fun cap rest hcr hrest => ?_
      refine regionRf [] ?_
      simp -implicitDefEqProofs [↓gd_tt, ↓gd_ff, ↓gd_tf, ↓gd_ft, stripL, onsOf, hintOf]
      have htk : ∀ Z : List D, List.take (Y.length + 1) (List.map encV Y ++ D.agg [.int .i64 p.1, .int .i64 p.2] :: Z) = List.map encV Y ++ [D.agg [.int .i64 p.1, .int .i64 p.2]] := fun Z => by
        rw [show List.map encV Y ++ D.agg [.int .i64 p.1, .int .i64 p.2] :: Z = (List.map encV Y ++ [D.agg [.int .i64 p.1, .int .i64 p.2]]) ++ Z by simp]
        exact List.take_left' (by simp)
      have hcr2 : Y.length + rest.length = cap := by simpa using hcr
      refine ⟨by omega, by omega, by omega, fun hfit => ⟨_, St.le_fold [37, 40] 1 0 30 (z := 2) rfl rfl rfl (by decide) (by simp; omega) (by omega) ?_ ?_ ?_ (by show 29 ≤ 30; decide), ?_⟩, fun hgrow cap' hc' => ⟨_, St.le_fold [37, 40] 1 0 31 (z := 2) rfl rfl rfl (by decide) (by simp; omega) (by omega) ?_ ?_ ?_ (by show 29 ≤ 31; decide), ?_⟩⟩
      · intro y hy
        rcases List.mem_append.1 hy with hy | hy
        · exact encV_plain y hy
        · rcases List.mem_cons.1 hy with rfl | hy
          · rfl
          · rcases List.mem_append.1 (List.mem_of_mem_drop hy) with hy | hy
            · exact encV_plain y hy
            · exact hrest y hy
      · simp [blankS, V.ltL, V.lt]
      · simp [ltObjs, IObj.lt, V.ltL, V.lt, cpuC_lt, memC_lt, tasksA_lt, numA_lt]
        exact hA
      · simp -implicitDefEqProofs [↓gd_tt, ↓gd_ff, ↓gd_tf, ↓gd_ft, htk, blankS]
        exact ⟨⟨cpuC_lt _ s, memC_lt _ s, tasksA_lt b _ _, numA_lt _ _ _, numA_lt _ _ _⟩, hi'⟩
      · intro y hy
        rcases List.mem_append.1 hy with hy | hy
        · exact encV_plain y hy
        · rcases List.mem_cons.1 hy with rfl | hy
          · rfl
          · rw [(List.mem_replicate.1 hy).2]; rfl
      · simp [blankS, V.ltL, V.lt]
      · simp [ltObjs, IObj.lt, V.ltL, V.lt, cpuC_lt, memC_lt, tasksA_lt, numA_lt]
        exact hB
      · simp -implicitDefEqProofs [↓gd_tt, ↓gd_ff, ↓gd_tf, ↓gd_ft, htk, blankS]
        exact ⟨⟨cpuC_lt _ s, memC_lt _ s, tasksA_lt b _ _, numA_lt _ _ _, numA_lt _ _ _⟩, hi'⟩
    · rintro hp ⟨rfl, hi⟩
      rw [List.take_of_length_le (by simp)]
      simp -implicitDefEqProofs [↓gd_tt, ↓gd_ff, ↓gd_tf, ↓gd_ft]
      refine ⟨1, X ++ (probQ s), ⟨by omega, by rw [← hX]; simp [partsS]⟩, by omega, rfl, ⟨cpuC_lt _ s, memC_lt _ s, tasksA_lt b _ _, numA_lt _ _ _, numA_lt _ _ _⟩, by simp⟩
  · have hXl2 : X.length + (probN s).length ≤ 6000000 := by simp [partsS] at hXl; omega
    simp -implicitDefEqProofs [↓gd_tt, ↓gd_ff, ↓gd_tf, ↓gd_ft]
    refine rangeYl mixed (probN_yields b s hsm) (by simp) (by simp) (by simp) (by simp [V.ltL, V.lt, constV_nilf]) (by simp) (by intro y hy; obtain ⟨p, _, rfl⟩ := List.mem_map.1 hy; simp)
      (fun i hp => hp = chkHp b s (.hold 2 ((X ++ (probN s).take i).map encV)) ∧ i ≤ (probN s).length) ⟨by simp, Nat.zero_le _⟩ (by rintro i hp ⟨rfl, _⟩; refine ⟨by simp, by simp [ltObjs, IObj.lt, V.ltL, V.lt, cpuC_lt, memC_lt, tasksA_lt, numA_lt], fun L => by simp⟩) ?_ ?_
    · rintro i hp ⟨rfl, hi⟩ hik L0 L1 hL1
      have hA : L1.lt 30 = true := IObj.lt_mono (by simp) hL1
      have hB : L1.lt 31 = true := IObj.lt_mono (by simp) hL1
      have hi' : i < (probN s).length := by simpa using hik
      have hst : X ++ (probN s).take (i + 1) = (X ++ (probN s).take i) ++ [(probN s)[i]] := by rw [List.take_add_one, List.getElem?_eq_getElem hi']; simp
      have hYl : (X ++ (probN s).take i).length ≤ 6000000 := by simp; omega
      rw [hst]
      simp only [List.getElem_map]
      generalize (probN s)[i] = p at *
      generalize X ++ (probN s).take i = Y at *
      have bY : (Y.length + 1) * 16 ≤ 140737488355328 := by omega
      simp -implicitDefEqProofs [↓gd_tt, ↓gd_ff, ↓gd_tf, ↓gd_ft]
      refine SemC.thawCell (id := 1) (j := 0) rfl rfl fun cap rest hcr hrest => ?_
      refine regionRf [] ?_
      simp -implicitDefEqProofs [↓gd_tt, ↓gd_ff, ↓gd_tf, ↓gd_ft, stripL, onsOf, hintOf]
      have htk : ∀ Z : List D, List.take (Y.length + 1) (List.map encV Y ++ D.agg [.int .i64 p.1, .int .i64 p.2] :: Z) = List.map encV Y ++ [D.agg [.int .i64 p.1, .int .i64 p.2]] := fun Z => by
        rw [show List.map encV Y ++ D.agg [.int .i64 p.1, .int .i64 p.2] :: Z = (List.map encV Y ++ [D.agg [.int .i64 p.1, .int .i64 p.2]]) ++ Z by simp]
        exact List.take_left' (by simp)
      have hcr2 : Y.length + rest.length = cap := by simpa using hcr
      refine ⟨by omega, by omega, by omega, fun hfit => ⟨_, St.le_fold [37, 40] 1 0 30 (z := 2) rfl rfl rfl (by decide) (by simp; omega) (by omega) ?_ ?_ ?_ (by show 29 ≤ 30; decide), ?_⟩, fun hgrow cap' hc' => ⟨_, St.le_fold [37, 40] 1 0 31 (z := 2) rfl rfl rfl (by decide) (by simp; omega) (by omega) ?_ ?_ ?_ (by show 29 ≤ 31; decide), ?_⟩⟩
      · intro y hy
        rcases List.mem_append.1 hy with hy | hy
        · exact encV_plain y hy
        · rcases List.mem_cons.1 hy with rfl | hy
          · rfl
          · rcases List.mem_append.1 (List.mem_of_mem_drop hy) with hy | hy
            · exact encV_plain y hy
            · exact hrest y hy
      · simp [blankS, V.ltL, V.lt]
      · simp [ltObjs, IObj.lt, V.ltL, V.lt, cpuC_lt, memC_lt, tasksA_lt, numA_lt]
        exact hA
      · simp -implicitDefEqProofs [↓gd_tt, ↓gd_ff, ↓gd_tf, ↓gd_ft, htk, blankS]
        exact ⟨⟨cpuC_lt _ s, memC_lt _ s, tasksA_lt b _ _, numA_lt _ _ _, numA_lt _ _ _⟩, hi'⟩
      · intro y hy
        rcases List.mem_append.1 hy with hy | hy
        · exact encV_plain y hy
        · rcases List.mem_cons.1 hy with rfl | hy
          · rfl
          · rw [(List.mem_replicate.1 hy).2]; rfl
      · simp [blankS, V.ltL, V.lt]
      · simp [ltObjs, IObj.lt, V.ltL, V.lt, cpuC_lt, memC_lt, tasksA_lt, numA_lt]
        exact hB
      · simp -implicitDefEqProofs [↓gd_tt, ↓gd_ff, ↓gd_tf, ↓gd_ft, htk, blankS]
        exact ⟨⟨cpuC_lt _ s, memC_lt _ s, tasksA_lt b _ _, numA_lt _ _ _, numA_lt _ _ _⟩, hi'⟩
    · rintro hp ⟨rfl, hi⟩
      rw [List.take_of_length_le (by simp)]
      simp -implicitDefEqProofs [↓gd_tt, ↓gd_ff, ↓gd_tf, ↓gd_ft]
      refine ⟨2, X ++ (probN s), ⟨by omega, by rw [← hX]; simp [partsS]⟩, by omega, rfl, ⟨cpuC_lt _ s, memC_lt _ s, tasksA_lt b _ _, numA_lt _ _ _, numA_lt _ _ _⟩, by simp⟩
  · have hXl2 : X.length + (probT s).length ≤ 6000000 := by simp [partsS] at hXl; omega
    simp -implicitDefEqProofs [↓gd_tt, ↓gd_ff, ↓gd_tf, ↓gd_ft]
    refine rangeYl mixed (probT_yields b s hsm r3) (by simp) (by simp) (by simp) (by simp [V.ltL, V.lt, constV_nilf]) (by simp) (by intro y hy; obtain ⟨p, _, rfl⟩ := List.mem_map.1 hy; simp)
      (fun i hp => hp = chkHp b s (.hold 2 ((X ++ (probT s).take i).map encV)) ∧ i ≤ (probT s).length) ⟨by simp, Nat.zero_le _⟩ (by rintro i hp ⟨rfl, _⟩; refine ⟨by simp, by simp [ltObjs, IObj.lt, V.ltL, V.lt, cpuC_lt, memC_lt, tasksA_lt, numA_lt], fun L => by simp⟩) ?_ ?_
    · rintro i hp ⟨rfl, hi⟩ hik L0 L1 hL1
      have hA : L1.lt 30 = true := IObj.lt_mono (by simp) hL1
      have hB : L1.lt 31 = true := IObj.lt_mono (by simp) hL1
      have hi' : i < (probT s).length := by simpa using hik
      have hst : X ++ (probT s).take (i + 1) = (X ++ (probT s).take i) ++ [(probT s)[i]] := by rw [List.take_add_one, List.getElem?_eq_getElem hi']; simp
      have hYl : (X ++ (probT s).take i).length ≤ 6000000 := by simp; omega
      rw [hst]
      simp only [List.getElem_map]
      generalize (probT s)[i] = p at *
      generalize X ++ (probT s).take i = Y at *
      have bY : (Y.length + 1) * 16 ≤ 140737488355328 := by omega
      simp -implicitDefEqProofs [↓gd_tt, ↓gd_ff, ↓gd_tf, ↓gd_ft]
      refine SemC.thawCell (id := 1) (j := 0) rfl rfl fun cap rest hcr hrest => ?_
      refine regionRf [] ?_
      simp -implicitDefEqProofs [↓gd_tt, ↓gd_ff, ↓gd_tf, ↓gd_ft, stripL, onsOf, hintOf]
      have htk : ∀ Z : List D, List.take (Y.length + 1) (List.map encV Y ++ D.agg [.int .i64 p.1, .int .i64 p.2] :: Z) = List.map encV Y ++ [D.agg [.int .i64 p.1, .int .i64 p.2]] := fun Z => by
        rw [show List.map encV Y ++ D.agg [.int .i64 p.1, .int .i64 p.2] :: Z = (List.map encV Y ++ [D.agg [.int .i64 p.1, .int .i64 p.2]]) ++ Z by simp]
        exact List.take_left' (by simp)
      have hcr2 : Y.length + rest.length = cap := by simpa using hcr
      refine ⟨by omega, by omega, by omega, fun hfit => ⟨_, St.le_fold [37, 40] 1 0 30 (z := 2) rfl rfl rfl (by decide) (by simp; omega) (by omega) ?_ ?_ ?_ (by show 29 ≤ 30; decide), ?_⟩, fun hgrow cap' hc' => ⟨_, St.le_fold [37, 40] 1 0 31 (z := 2) rfl rfl rfl (by decide) (by simp; omega) (by omega) ?_ ?_ ?_ (by show 29 ≤ 31; decide), ?_⟩⟩
      · intro y hy
        rcases List.mem_append.1 hy with hy | hy
        · exact encV_plain y hy
        · rcases List.mem_cons.1 hy with rfl | hy
          · rfl
          · rcases List.mem_append.1 (List.mem_of_mem_drop hy) with hy | hy
            · exact encV_plain y hy
            · exact hrest y hy
      · simp [blankS, V.ltL, V.lt]
      · simp [ltObjs, IObj.lt, V.ltL, V.lt, cpuC_lt, memC_lt, tasksA_lt, numA_lt]
        exact hA
      · simp -implicitDefEqProofs [↓gd_tt, ↓gd_ff, ↓gd_tf, ↓gd_ft, htk, blankS]
        exact ⟨⟨cpuC_lt _ s, memC_lt _ s, tasksA_lt b _ _, numA_lt _ _ _, numA_lt _ _ _⟩, hi'⟩
      · intro y hy
        rcases List.mem_append.1 hy with hy | hy
        · exact encV_plain y hy
        · rcases List.mem_cons.1 hy with rfl | hy
          · rfl
          · rw [(List.mem_replicate.1 hy).2]; rfl
      · simp [blankS, V.ltL, V.lt]
      · simp [ltObjs, IObj.lt, V.ltL, V.lt, cpuC_lt, memC_lt, tasksA_lt, numA_lt]
        exact hB
      · simp -implicitDefEqProofs [↓gd_tt, ↓gd_ff, ↓gd_tf, ↓gd_ft, htk, blankS]
        exact ⟨⟨cpuC_lt _ s, memC_lt _ s, tasksA_lt b _ _, numA_lt _ _ _, numA_lt _ _ _⟩, hi'⟩
    · rintro hp ⟨rfl, hi⟩
      rw [List.take_of_length_le (by simp)]
      simp -implicitDefEqProofs [↓gd_tt, ↓gd_ff, ↓gd_tf, ↓gd_ft]
      refine ⟨3, X ++ (probT s), ⟨by omega, by rw [← hX]; simp [partsS]⟩, by omega, rfl, ⟨cpuC_lt _ s, memC_lt _ s, tasksA_lt b _ _, numA_lt _ _ _, numA_lt _ _ _⟩, by simp⟩
  · have hXl2 : X.length + (probA s).length ≤ 6000000 := by simp [partsS] at hXl; omega
    simp -implicitDefEqProofs [↓gd_tt, ↓gd_ff, ↓gd_tf, ↓gd_ft]
    refine rangeYl mixed (probA_yields b s hsm r2) (by simp) (by simp) (by simp) (by simp [V.ltL, V.lt, constV_nilf]) (by simp) (by intro y hy; obtain ⟨p, _, rfl⟩ := List.mem_map.1 hy; simp)
      (fun i hp => hp = chkHp b s (.hold 2 ((X ++ (probA s).take i).map encV)) ∧ i ≤ (probA s).length) ⟨by simp, Nat.zero_le _⟩ (by rintro i hp ⟨rfl, _⟩; refine ⟨by simp, by simp [ltObjs, IObj.lt, V.ltL, V.lt, cpuC_lt, memC_lt, tasksA_lt, numA_lt], fun L => by simp⟩) ?_ ?_
    · rintro i hp ⟨rfl, hi⟩ hik L0 L1 hL1
      have hA : L1.lt 30 = true := IObj.lt_mono (by simp) hL1
      have hB : L1.lt 31 = true := IObj.lt_mono (by simp) hL1
      have hi' : i < (probA s).length := by simpa using hik
      have hst : X ++ (probA s).take (i + 1) = (X ++ (probA s).take i) ++ [(probA s)[i]] := by rw [List.take_add_one, List.getElem?_eq_getElem hi']; simp
      have hYl : (X ++ (probA s).take i).length ≤ 6000000 := by simp; omega
      rw [hst]
      simp only [List.getElem_map]
      generalize (probA s)[i] = p at *
      generalize X ++ (probA s).take i = Y at *
      have bY : (Y.length + 1) * 16 ≤ 140737488355328 := by omega
      simp -implicitDefEqProofs [↓gd_tt, ↓gd_ff, ↓gd_tf, ↓gd_ft]
      refine SemC.thawCell (id := 1) (j := 0) rfl rfl fun cap rest hcr hrest => ?_
      refine regionRf [] ?_
      simp -implicitDefEqProofs [↓gd_tt, ↓gd_ff, ↓gd_tf, ↓gd_ft, stripL, onsOf, hintOf]
      have htk : ∀ Z : List D, List.take (Y.length + 1) (List.map encV Y ++ D.agg [.int .i64 p.1, .int .i64 p.2] :: Z) = List.map encV Y ++ [D.agg [.int .i64 p.1, .int .i64 p.2]] := fun Z => by
        rw [show List.map encV Y ++ D.agg [.int .i64 p.1, .int .i64 p.2] :: Z = (List.map encV Y ++ [D.agg [.int .i64 p.1, .int .i64 p.2]]) ++ Z by simp]
        exact List.take_left' (by simp)
      have hcr2 : Y.length + rest.length = cap := by simpa using hcr
      refine ⟨by omega, by omega, by omega, fun hfit => ⟨_, St.le_fold [37, 40] 1 0 30 (z := 2) rfl rfl rfl (by decide) (by simp; omega) (by omega) ?_ ?_ ?_ (by show 29 ≤ 30; decide), ?_⟩, fun hgrow cap' hc' => ⟨_, St.le_fold [37, 40] 1 0 31 (z := 2) rfl rfl rfl (by decide) (by simp; omega) (by omega) ?_ ?_ ?_ (by show 29 ≤ 31; decide), ?_⟩⟩
      · intro y hy
        rcases List.mem_append.1 hy with hy | hy
        · exact encV_plain y hy
        · rcases List.mem_cons.1 hy with rfl | hy
          · rfl
          · rcases List.mem_append.1 (List.mem_of_mem_drop hy) with hy | hy
            · exact encV_plain y hy
            · exact hrest y hy
      · simp [blankS, V.ltL, V.lt]
      · simp [ltObjs, IObj.lt, V.ltL, V.lt, cpuC_lt, memC_lt, tasksA_lt, numA_lt]
        exact hA
      · simp -implicitDefEqProofs [↓gd_tt, ↓gd_ff, ↓gd_tf, ↓gd_ft, htk, blankS]
        exact ⟨⟨cpuC_lt _ s, memC_lt _ s, tasksA_lt b _ _, numA_lt _ _ _, numA_lt _ _ _⟩, hi'⟩
      · intro y hy
        rcases List.mem_append.1 hy with hy | hy
        · exact encV_plain y hy
        · rcases List.mem_cons.1 hy with rfl | hy
          · rfl
          · rw [(List.mem_replicate.1 hy).2]; rfl
      · simp [blankS, V.ltL, V.lt]
      · simp [ltObjs, IObj.lt, V.ltL, V.lt, cpuC_lt, memC_lt, tasksA_lt, numA_lt]
        exact hB
      · simp -implicitDefEqProofs [↓gd_tt, ↓gd_ff, ↓gd_tf, ↓gd_ft, htk, blankS]
        exact ⟨⟨cpuC_lt _ s, memC_lt _ s, tasksA_lt b _ _, numA_lt _ _ _, numA_lt _ _ _⟩, hi'⟩
    · rintro hp ⟨rfl, hi⟩
      rw [List.take_of_length_le (by simp)]
      simp -implicitDefEqProofs [↓gd_tt, ↓gd_ff, ↓gd_tf, ↓gd_ft]
      refine ⟨4, X ++ (probA s), ⟨by omega, by rw [← hX]; simp [partsS]⟩, by omega, rfl, ⟨cpuC_lt _ s, memC_lt _ s, tasksA_lt b _ _, numA_lt _ _ _, numA_lt _ _ _⟩, by simp⟩
  · have hXl2 : X.length + (probB s).length ≤ 6000000 := by simp [partsS] at hXl; omega
    simp -implicitDefEqProofs [↓gd_tt, ↓gd_ff, ↓gd_tf, ↓gd_ft]
    refine rangeYl mixed (probB_yields b s hsm) (by simp) (by simp) (by simp) (by simp [V.ltL, V.lt, constV_nilf]) (by simp) (by intro y hy; obtain ⟨p, _, rfl⟩ := List.mem_map.1 hy; simp)
      (fun i hp => hp = chkHp b s (.hold 2 ((X ++ (probB s).take i).map encV)) ∧ i ≤ (probB s).length) ⟨by simp, Nat.zero_le _⟩ (by rintro i hp ⟨rfl, _⟩; refine ⟨by simp, by simp [ltObjs, IObj.lt, V.ltL, V.lt, cpuC_lt, memC_lt, tasksA_lt, numA_lt], fun L => by simp⟩) ?_ ?_
    · rintro i hp ⟨rfl, hi⟩ hik L0 L1 hL1
      have hA : L1.lt 30 = true := IObj.lt_mono (by simp) hL1
      have hB : L1.lt 31 = true := IObj.lt_mono (by simp) hL1
      have hi' : i < (probB s).length := by simpa using hik
      have hst : X ++ (probB s).take (i + 1) = (X ++ (probB s).take i) ++ [(probB s)[i]] := by rw [List.take_add_one, List.getElem?_eq_getElem hi']; simp
      have hYl : (X ++ (probB s).take i).length ≤ 6000000 := by simp; omega
      rw [hst]
      simp only [List.getElem_map]
      generalize (probB s)[i] = p at *
      generalize X ++ (probB s).take i = Y at *
      have bY : (Y.length + 1) * 16 ≤ 140737488355328 := by omega
      simp -implicitDefEqProofs [↓gd_tt, ↓gd_ff, ↓gd_tf, ↓gd_ft]
      refine SemC.thawCell (id := 1) (j := 0) rfl rfl fun cap rest hcr hrest => ?_
      refine regionRf [] ?_
      simp -implicitDefEqProofs [↓gd_tt, ↓gd_ff, ↓gd_tf, ↓gd_ft, stripL, onsOf, hintOf]
      have htk : ∀ Z : List D, List.take (Y.length + 1) (List.map encV Y ++ D.agg [.int .i64 p.1, .int .i64 p.2] :: Z) = List.map encV Y ++ [D.agg [.int .i64 p.1, .int .i64 p.2]] := fun Z => by
        rw [show List.map encV Y ++ D.agg [.int .i64 p.1, .int .i64 p.2] :: Z = (List.map encV Y ++ [D.agg [.int .i64 p.1, .int .i64 p.2]]) ++ Z by simp]
        exact List.take_left' (by simp)
      have hcr2 : Y.length + rest.length = cap := by simpa using hcr
      refine ⟨by omega, by omega, by omega, fun hfit => ⟨_, St.le_fold [37, 40] 1 0 30 (z := 2) rfl rfl rfl (by decide) (by simp; omega) (by omega) ?_ ?_ ?_ (by show 29 ≤ 30; decide), ?_⟩, fun hgrow cap' hc' => ⟨_, St.le_fold [37, 40] 1 0 31 (z := 2) rfl rfl rfl (by decide) (by simp; omega) (by omega) ?_ ?_ ?_ (by show 29 ≤ 31; decide), ?_⟩⟩
      · intro y hy
        rcases List.mem_append.1 hy with hy | hy
        · exact encV_plain y hy
        · rcases List.mem_cons.1 hy with rfl | hy
          · rfl
          · rcases List.mem_append.1 (List.mem_of_mem_drop hy) with hy | hy
            · exact encV_plain y hy
            · exact hrest y hy
      · simp [blankS, V.ltL, V.lt]
      · simp [ltObjs, IObj.lt, V.ltL, V.lt, cpuC_lt, memC_lt, tasksA_lt, numA_lt]
        exact hA
      · simp -implicitDefEqProofs [↓gd_tt, ↓gd_ff, ↓gd_tf, ↓gd_ft, htk, blankS]
        exact ⟨⟨cpuC_lt _ s, memC_lt _ s, tasksA_lt b _ _, numA_lt _ _ _, numA_lt _ _ _⟩, hi'⟩
      · intro y hy
        rcases List.mem_append.1 hy with hy | hy
        · exact encV_plain y hy
        · rcases List.mem_cons.1 hy with rfl | hy
          · rfl
          · rw [(List.mem_replicate.1 hy).2]; rfl
      · simp [blankS, V.ltL, V.lt]
      · simp [ltObjs, IObj.lt, V.ltL, V.lt, cpuC_lt, memC_lt, tasksA_lt, numA_lt]
        exact hB
      · simp -implicitDefEqProofs [↓gd_tt, ↓gd_ff, ↓gd_tf, ↓gd_ft, htk, blankS]
        exact ⟨⟨cpuC_lt _ s, memC_lt _ s, tasksA_lt b _ _, numA_lt _ _ _, numA_lt _ _ _⟩, hi'⟩
    · rintro hp ⟨rfl, hi⟩
      rw [List.take_of_length_le (by simp)]
      simp -implicitDefEqProofs [↓gd_tt, ↓gd_ff, ↓gd_tf, ↓gd_ft]
      refine ⟨5, X ++ (probB s), ⟨by omega, by rw [← hX]; simp [partsS]⟩, by omega, rfl, ⟨cpuC_lt _ s, memC_lt _ s, tasksA_lt b _ _, numA_lt _ _ _, numA_lt _ _ _⟩, by simp⟩
  · have hXl2 : X.length + (probL s).length ≤ 6000000 := by simp [partsS] at hXl; omega
    simp -implicitDefEqProofs [↓gd_tt, ↓gd_ff, ↓gd_tf, ↓gd_ft]
    refine rangeYl mixed (probL_yields b s hsm) (by simp) (by simp) (by simp) (by simp [V.ltL, V.lt, constV_nilf]) (by simp) (by intro y hy; obtain ⟨p, _, rfl⟩ := List.mem_map.1 hy; simp)
      (fun i hp => hp = chkHp b s (.hold 2 ((X ++ (probL s).take i).map encV)) ∧ i ≤ (probL s).length) ⟨by simp, Nat.zero_le _⟩ (by rintro i hp ⟨rfl, _⟩; refine ⟨by simp, by simp [ltObjs, IObj.lt, V.ltL, V.lt, cpuC_lt, memC_lt, tasksA_lt, numA_lt], fun L => by simp⟩) ?_ ?_
    · rintro i hp ⟨rfl, hi⟩ hik L0 L1 hL1
      have hA : L1.lt 30 = true := IObj.lt_mono (by simp) hL1
      have hB : L1.lt 31 = true := IObj.lt_mono (by simp) hL1
      have hi' : i < (probL s).length := by simpa using hik
      have hst : X ++ (probL s).take (i + 1) = (X ++ (probL s).take i) ++ [(probL s)[i]] := by rw [List.take_add_one, List.getElem?_eq_getElem hi']; simp
      have hYl : (X ++ (probL s).take i).length ≤ 6000000 := by simp; omega
      rw [hst]
      simp only [List.getElem_map]
      generalize (probL s)[i] = p at *
      generalize X ++ (probL s).take i = Y at *
      have bY : (Y.length + 1) * 16 ≤ 140737488355328 := by omega
      simp -implicitDefEqProofs [↓gd_tt, ↓gd_ff, ↓gd_tf, ↓gd_ft]
      refine SemC.thawCell (id := 1) (j := 0) rfl rfl fun cap rest hcr hrest => ?_
      refine regionRf [] ?_
      simp -implicitDefEqProofs [↓gd_tt, ↓gd_ff, ↓gd_tf, ↓gd_ft, stripL, onsOf, hintOf]
      have htk : ∀ Z : List D, List.take (Y.length + 1) (List.map encV Y ++ D.agg [.int .i64 p.1, .int .i64 p.2] :: Z) = List.map encV Y ++ [D.agg [.int .i64 p.1, .int .i64 p.2]] := fun Z => by
        rw [show List.map encV Y ++ D.agg [.int .i64 p.1, .int .i64 p.2] :: Z = (List.map encV Y ++ [D.agg [.int .i64 p.1, .int .i64 p.2]]) ++ Z by simp]
        exact List.take_left' (by simp)
      have hcr2 : Y.length + rest.length = cap := by simpa using hcr
      refine ⟨by omega, by omega, by omega, fun hfit => ⟨_, St.le_fold [37, 40] 1 0 30 (z := 2) rfl rfl rfl (by decide) (by simp; omega) (by omega) ?_ ?_ ?_ (by show 29 ≤ 30; decide), ?_⟩, fun hgrow cap' hc' => ⟨_, St.le_fold [37, 40] 1 0 31 (z := 2) rfl rfl rfl (by decide) (by simp; omega) (by omega) ?_ ?_ ?_ (by show 29 ≤ 31; decide), ?_⟩⟩
      · intro y hy
        rcases List.mem_append.1 hy with hy | hy
        · exact encV_plain y hy
        · rcases List.mem_cons.1 hy with rfl | hy
          · rfl
          · rcases List.mem_append.1 (List.mem_of_mem_drop hy) with hy | hy
            · exact encV_plain y hy
            · exact hrest y hy
      · simp [blankS, V.ltL, V.lt]
      · simp [ltObjs, IObj.lt, V.ltL, V.lt, cpuC_lt, memC_lt, tasksA_lt, numA_lt]
        exact hA
      · simp -implicitDefEqProofs [↓gd_tt, ↓gd_ff, ↓gd_tf, ↓gd_ft, htk, blankS]
        exact ⟨⟨cpuC_lt _ s, memC_lt _ s, tasksA_lt b _ _, numA_lt _ _ _, numA_lt _ _ _⟩, hi'⟩
      · intro y hy
        rcases List.mem_append.1 hy with hy | hy
        · exact encV_plain y hy
        · rcases List.mem_cons.1 hy with rfl | hy
          · rfl
          · rw [(List.mem_replicate.1 hy).2]; rfl
      · simp [blankS, V.ltL, V.lt]
      · simp [ltObjs, IObj.lt, V.ltL, V.lt, cpuC_lt, memC_lt, tasksA_lt, numA_lt]
        exact hB
      · simp -implicitDefEqProofs [↓gd_tt, ↓gd_ff, ↓gd_tf, ↓gd_ft, htk, blankS]
        exact ⟨⟨cpuC_lt _ s, memC_lt _ s, tasksA_lt b _ _, numA_lt _ _ _, numA_lt _ _ _⟩, hi'⟩
    · rintro hp ⟨rfl, hi⟩
      rw [List.take_of_length_le (by simp)]
      simp -implicitDefEqProofs [↓gd_tt, ↓gd_ff, ↓gd_tf, ↓gd_ft]
      refine ⟨6, X ++ (probL s), ⟨by omega, by rw [← hX]; simp [partsS]⟩, by omega, rfl, ⟨cpuC_lt _ s, memC_lt _ s, tasksA_lt b _ _, numA_lt _ _ _, numA_lt _ _ _⟩, by simp⟩
  · simp [partsS] at hX
    subst hX
    simp -implicitDefEqProofs [↓gd_tt, ↓gd_ff, ↓gd_tf, ↓gd_ft]
    refine SemC.thawCell (id := 1) (j := 0) rfl rfl fun cap rest hcr hrest => ?_
    refine regionRf [] ?_
    simp -implicitDefEqProofs [↓gd_tt, ↓gd_ff, ↓gd_tf, ↓gd_ft, stripL, onsOf, hintOf]
    refine ⟨_, St.le_pick 2 28 rfl rfl rfl, ?_⟩
    simp -implicitDefEqProofs [↓gd_tt, ↓gd_ff, ↓gd_tf, ↓gd_ft]
    have := hk cap rest (by simpa using hcr)
    simpa using this
theorem check_mem (s : Sta) (hsm : s.small) (hp : List IObj) (K : V → List IObj → Prop) (hk : ∀ cap rest, (auditL s).length + rest.length = cap → K (.ref hp.length 2 0 (auditL s).length cap) (hp ++ [.arr 2 ((auditL s).map encV ++ rest)])) : CallK Try.prog 13 [.d (encSt b s)] hp K := by
  refine callK_frame (check_mem0 b s hsm (K := fun r hp' => ∃ cap rest, (auditL s).length + rest.length = cap ∧ r = .ref 0 2 0 (auditL s).length cap ∧ hp' = [.arr 2 ((auditL s).map encV ++ rest)]) fun cap rest h => ⟨cap, rest, h, rfl, rfl⟩) [] ⟨rfl, List.nodup_nil, fun i j o h => by simp at h, rfl⟩ (by simp) (by simp) (by exact LeTm.refl _) ?_
  rintro r hp' ⟨cap, rest, h, rfl, rfl⟩
  have := hk cap rest h
  simpa [mergeHp, setObjs, renNew, IObj.ren, V.ren, V.renL, List.range'] using this
end Go.Idl
end
section
namespace Go.Idl
open Go.Proofs
set_option linter.unusedSimpArgs false
set_option linter.unusedVariables false
set_option maxRecDepth 8000
set_option maxHeartbeats 2000000

/-- problems in their order -/
def lexLt (a b : Int × Int) : Prop := a.1 < b.1 ∨ a.1 = b.1 ∧ a.2 < b.2
theorem part_pair {α : Type} (k : Int) (g : α → Int) (p : α → Bool) {l : List α} (h : (l.map g).Pairwise (· < ·)) : ((l.filter p).map fun x => (k, g x)).Pairwise lexLt := by
  rw [List.pairwise_map] at h ⊢
  exact (h.filter p).imp fun h => .inr ⟨rfl, h⟩
theorem part_kind {α : Type} {k : Int} {g : α → Int} {p : α → Bool} {l : List α} {v : Int × Int} (h : v ∈ (l.filter p).map fun x => (k, g x)) : v.1 = k := by
  obtain ⟨x, _, rfl⟩ := List.mem_map.1 h; rfl
theorem probs_kind {s : Sta} {v : Int × Int} (h : v ∈ probs s) : 2 ≤ v.1 ∧ v.1 ≤ 7 := by
  unfold probs probQ probN probT probA probB probL at h
  simp only [List.mem_append] at h
  rcases h with h | h | h | h | h | h <;> (have := part_kind h; omega)
theorem probs_pair {s : Sta} (hf : formA s) : (probs s).Pairwise lexLt := by
  obtain ⟨hc, r1, r2, r3, r4⟩ := hf
  have hq : (s.qs.map (·.Id)).Pairwise (· < ·) := List.pairwise_map.2 (check_rises hc)
  have low : ∀ {a b : List (Int × Int)} {k : Int}, a.Pairwise lexLt → b.Pairwise lexLt → (∀ v ∈ a, v.1 = k) → (∀ v ∈ b, k < v.1) → (a ++ b).Pairwise lexLt := fun ha hb h1 h2 => by
    rw [List.pairwise_append]
    exact ⟨ha, hb, fun x hx y hy => .inl (by rw [h1 x hx]; exact h2 y hy)⟩
  have k7 : ∀ v ∈ probL s, v.1 = 7 := fun v hv => part_kind hv
  have k6 : ∀ v ∈ probB s, v.1 = 6 := fun v hv => part_kind hv
  have k5 : ∀ v ∈ probA s, v.1 = 5 := fun v hv => part_kind hv
  have k4 : ∀ v ∈ probT s, v.1 = 4 := fun v hv => part_kind hv
  have k3 : ∀ v ∈ probN s, v.1 = 3 := fun v hv => part_kind hv
  have k2 : ∀ v ∈ probQ s, v.1 = 2 := fun v hv => part_kind hv
  refine low (part_pair 2 (fun q : Q => q.Id) _ hq) (low (part_pair 3 (fun n : Nd => n.id) _ (rising_pair r1)) (low (part_pair 4 (fun n : Nd => n.id) _ (rising_pair r1)) (low (part_pair 5 (fun x : Le => x.t) _ (rising_pair r3)) (low (part_pair 6 (fun t : Tk => t.id) _ (rising_pair r2)) (part_pair 7 (fun x : Le => x.t) _ (rising_pair r3)) k6 fun v hv => ?_) k5 fun v hv => ?_) k4 fun v hv => ?_) k3 fun v hv => ?_) k2 fun v hv => ?_
  · have := k7 v hv; omega
  · rcases List.mem_append.1 hv with h | h
    · have := k6 v h; omega
    · have := k7 v h; omega
  · simp only [List.mem_append] at hv
    rcases hv with h | h | h
    · have := k5 v h; omega
    · have := k6 v h; omega
    · have := k7 v h; omega
  · simp only [List.mem_append] at hv
    rcases hv with h | h | h | h
    · have := k4 v h; omega
    · have := k5 v h; omega
    · have := k6 v h; omega
    · have := k7 v h; omega
  · simp only [List.mem_append] at hv
    rcases hv with h | h | h | h | h
    · have := k3 v h; omega
    · have := k4 v h; omega
    · have := k5 v h; omega
    · have := k6 v h; omega
    · have := k7 v h; omega
/-- what the statement asks of the list -/
structure ordOK (L : List (Int × Int)) : Prop where
  kind : ∀ i (h : i < L.length), 1 ≤ L[i].1 ∧ L[i].1 ≤ 7
  one : ∀ i (h : i < L.length), L[i].1 = 1 → L.length = 1 ∧ L[i].2 = 0
  ord : ∀ i (h : i + 1 < L.length), L[i].1 ≤ L[i + 1].1 ∧ (L[i].1 = L[i + 1].1 → L[i].2 < L[i + 1].2)
theorem audit_ord (s : Sta) : ordOK (auditL s) := by
  by_cases hf : formA s
  · have e : auditL s = probs s := by unfold auditL; rw [if_pos hf]
    rw [e]
    have hk : ∀ i (h : i < (probs s).length), 2 ≤ (probs s)[i].1 ∧ (probs s)[i].1 ≤ 7 := fun i h => probs_kind (List.getElem_mem h)
    refine ⟨fun i h => ?_, fun i h e => ?_, fun i h => ?_⟩
    · have := hk i h; omega
    · have := hk i h; omega
    · have := List.pairwise_iff_getElem.1 (probs_pair hf) i (i + 1) (by omega) h (by omega)
      unfold lexLt at this
      omega
  · have e : auditL s = [(1, 0)] := by unfold auditL; rw [if_neg hf]
    rw [e]
    refine ⟨fun i h => ?_, fun i h e => ?_, fun i h => ?_⟩
    · have : i = 0 := by simp at h; omega
      subst this; simp
    · have : i = 0 := by simp at h; omega
      subst this; simp
    · simp at h
theorem audit_len {s : Sta} (hsm : s.small) : (auditL s).length ≤ 6000000 := by
  by_cases hf : formA s
  · have := probs_len hsm hf.1
    unfold auditL; rw [if_pos hf]
    simp [probs]; omega
  · unfold auditL; rw [if_neg hf]; decide
theorem auditOrder_spec (s : Sta) (h : s.ok) : PCall Try.prog 4 [encSt false s] (.d (.bool true)) := by
  refine pcallS (fn := Try.f4) [] [] mixed (bodyOf Try.f4) [.tmp 2] Try.func4 rfl rfl (by decide) 122 rfl (by kernel_rfl) ?_
  simp -implicitDefEqProofs [↓gd_tt, ↓gd_ff, ↓gd_tf, ↓gd_ft, bodyOf, Try.f4, stripC, stripL, stripM, onsOf, upto, hintOf, freeOf, List.replicate]
  refine callK_pcall awake12_spec rfl rfl ?_
  simp -implicitDefEqProofs [↓gd_tt, ↓gd_ff, ↓gd_tf, ↓gd_ft]
  intro h1 h2 h3
  have hsm := ok_small h (by omega) (by omega) (by omega)
  have hord := audit_ord s
  have hck := check_spec false s hsm
  have hLl : (auditL s).length ≤ 6000000 := audit_len hsm
  refine check_mem false s hsm _ _ fun cap rest hcr => ?_
  generalize auditL s = L at *
  have hml : L.length ≤ maxLen := Nat.le_trans hLl (by decide)
  have hgL : ∀ i (hi : i < L.length), (L.map encV ++ rest)[i]? = some (encV L[i]) := fun i hi => by
    rw [List.getElem?_append_left (by simpa using hi), List.getElem?_map, List.getElem?_eq_getElem hi]; rfl
  have hca : L.length ≤ cap := by omega
  simp -implicitDefEqProofs [↓gd_tt, ↓gd_ff, ↓gd_tf, ↓gd_ft]
  refine loopA mixed [false, false, true, false, true, true, false, false, false, false, false, false, false, false, false, false, false, false, false, false, false, false, false, false, false, false, false, false, false, false, false, false, true, true, true, true, true, true, true, true, true, true, true, true, true, true, true, true, true, true, true, true, true, true, true, true, true, true, true, true, true, true, true, true, true, true, true, true, true, true, true, true, true, true, true, true, true, true, true, true, true, true, true, true, true, true, true, true, true, true, true, true, true, true, true, true] (fun (i : Nat) => [(32, .d (I i))]) (fun (i : Nat) => [stD false s, .arr 2 (L.map encV ++ rest)]) (fun (i : Nat) => i ≤ L.length) (fun (i : Nat) => L.length - i) (0) (Nat.zero_le _) (by simp) ?_
  rintro i hx
  rcases Nat.lt_or_eq_of_le hx with hi | hi
  · have hwi := wrap1 hml hi
    have hgi := hgL i hi
    have hk := hord.kind i hi
    have hone := hord.one i hi
    have ho : ∀ h0 : 0 < i, L[i - 1].1 ≤ L[i].1 ∧ (L[i - 1].1 = L[i].1 → L[i - 1].2 < L[i].2) := fun h0 => by
      have := hord.ord (i - 1) (by omega)
      simpa [show i - 1 + 1 = i by omega] using this
    have hgm := fun h0 : 0 < i => hgL (i - 1) (by omega)
    generalize L[i] = v at *
    obtain ⟨p, q⟩ := v
    simp only at hk hone ho
    obtain ⟨hk1, hk2⟩ := hk
    have g1 : ¬ p < 1 := by omega
    have g2 : ¬ 7 < p := by omega
    rcases Nat.eq_zero_or_pos i with h0 | h0
    · subst h0
      clear ho hgm
      by_cases hp1 : p = 1
      · obtain ⟨e1, e2⟩ := hone hp1
        subst hp1; subst e2
        simp -implicitDefEqProofs [↓gd_tt, ↓gd_ff, ↓gd_tf, ↓gd_ft, hi, hgi, hca, hcr, hwi, e1]
        exact ⟨1, by omega, by omega, rfl⟩
      · clear hone
        simp -implicitDefEqProofs [↓gd_tt, ↓gd_ff, ↓gd_tf, ↓gd_ft, hi, hgi, hca, hcr, hwi, g1, g2, hp1]
        exact ⟨1, by omega, by omega, rfl⟩
    · have hp1 : ¬ p = 1 := fun e => by have := (hone e).1; omega
      have hm1 : i - 1 < L.length := by omega
      have hgm := hgm h0
      have ho := ho h0
      have hwm := wrapm1 hml hi h0
      have hpos : (0 : Int) < (i : Int) := by omega
      clear hone
      generalize L[i - 1] = vm at *
      obtain ⟨pm, qm⟩ := vm
      simp only at ho
      have g3 : ¬ p < pm := by omega
      have h0n : ¬ i = 0 := by omega
      simp -implicitDefEqProofs [↓gd_tt, ↓gd_ff, ↓gd_tf, ↓gd_ft, hi, hgi, hca, hcr, hwi, g1, g2, hp1, h0, h0n, hpos, hm1, hgm, hwm, g3]
      exact ⟨fun e => ⟨ho.2 e, fun _ => ⟨by omega, by omega⟩⟩, fun _ => ⟨by omega, by omega⟩⟩
  simp -implicitDefEqProofs [↓gd_tt, ↓gd_ff, ↓gd_tf, ↓gd_ft, hi]
  clear hx hi
  refine callK_pcall hck rfl rfl ?_
  simp -implicitDefEqProofs [↓gd_tt, ↓gd_ff, ↓gd_tf, ↓gd_ft]
  have hn : L.length + rest.length = cap := hcr
  refine loopA mixed [false, false, false, false, false, false, false, true, false, false, false, false, false, false, false, false, false, false, false, false, false, false, false, false, false, false, false, false, false, false, false, false, false, false, false, false, false, false, false, false, false, false, false, false, false, false, false, false, false, false, false, false, false, false, false, false, false, false, false, false, false, false, false, false, false, false, false, false, false, false, false, false, false, false, false, false, false, false, false, false, false, false, false, false, false, false, false, false, false, false, false, false, false, false, false, false, false, false, false, false, true, true, true, true, true, true, true, true] (fun (x : Nat × List D) => [(100, .d (I x.1))]) (fun (x : Nat × List D) => [stD false s, .arr 2 x.2]) (fun (x : Nat × List D) => x.1 ≤ L.length ∧ x.2.length = cap) (fun (x : Nat × List D) => L.length - x.1) ((0, L.map encV ++ rest)) (⟨Nat.zero_le _, by simpa using hcr⟩) (by simp) ?_
  rintro x hx
  obtain ⟨i, ys⟩ := x
  obtain ⟨hi, hy⟩ := hx
  simp only at hi hy ⊢
  rcases Nat.lt_or_eq_of_le hi with hi | hi
  · have hwi := wrap1 hml hi
    have hiy : i < ys.length := by omega
    simp -implicitDefEqProofs [↓gd_tt, ↓gd_ff, ↓gd_tf, ↓gd_ft, hi, hca, hy, hiy, hwi, List.getElem?_eq_getElem hiy]
    exact ⟨i + 1, _, ⟨by omega, by simp [hy]⟩, by omega, rfl, rfl⟩
  simp -implicitDefEqProofs [↓gd_tt, ↓gd_ff, ↓gd_tf, ↓gd_ft, hi]
  clear hi hy
  refine loopA mixed [false, false, true, false, false, false, false, false, false, true, false, false, false, false, false, false, false, false, false, false, false, false, false, false, false, false, false, false, false, false, false, false, false, false, false, false, false, false, false, false, false, false, false, false, false, false, false, false, false, false, false, false, false, false, false, false, false, false, false, false, false, false, false, false, false, false, false, false, false, false, false, false, false, false, false, false, false, false, false, false, false, false, false, false, false, false, false, false, false, false, false, false, false, false, false, false, false, false, false, false, false, false, false, false, false, false, false, false, false, false, true, true, true, true, true, true, true, true] (fun (i : Nat) => [(110, .d (I i))]) (fun (i : Nat) => [stD false s, .arr 2 ys]) (fun (i : Nat) => i ≤ L.length) (fun (i : Nat) => L.length - i) (0) (Nat.zero_le _) (by simp) ?_
  rintro i hx
  rcases Nat.lt_or_eq_of_le hx with hi | hi
  · have hwi := wrap1 hml hi
    have hk := hord.kind i hi
    simp -implicitDefEqProofs [↓gd_tt, ↓gd_ff, ↓gd_tf, ↓gd_ft, hi, hwi, show ¬ L[i].1 < 1 by omega]
    omega
  · simp -implicitDefEqProofs [↓gd_tt, ↓gd_ff, ↓gd_tf, ↓gd_ft, hi]
end Go.Idl
end
section
namespace Go.Proofs.Ytkfpaffcglijeaa
set_option maxRecDepth 100000
def ioL : List Char := [Char.ofNat 104, Char.ofNat 97, Char.ofNat 114, Char.ofNat 110, Char.ofNat 101, Char.ofNat 115, Char.ofNat 115, Char.ofNat 32, Char.ofNat 57, Char.ofNat 99, Char.ofNat 51, Char.ofNat 57, Char.ofNat 53, Char.ofNat 50, Char.ofNat 50, Char.ofNat 98, Char.ofNat 53, Char.ofNat 98, Char.ofNat 102, Char.ofNat 97, Char.ofNat 55, Char.ofNat 101, Char.ofNat 57, Char.ofNat 97, Char.ofNat 50, Char.ofNat 48, Char.ofNat 56, Char.ofNat 98, Char.ofNat 98, Char.ofNat 57, Char.ofNat 98, Char.ofNat 97, Char.ofNat 56, Char.ofNat 99, Char.ofNat 49, Char.ofNat 102, Char.ofNat 52, Char.ofNat 49, Char.ofNat 57, Char.ofNat 102, Char.ofNat 100, Char.ofNat 53, Char.ofNat 50, Char.ofNat 52, Char.ofNat 100, Char.ofNat 101, Char.ofNat 98, Char.ofNat 102, Char.ofNat 100, Char.ofNat 98, Char.ofNat 99, Char.ofNat 98, Char.ofNat 99, Char.ofNat 57, Char.ofNat 100, Char.ofNat 53, Char.ofNat 57, Char.ofNat 97, Char.ofNat 56, Char.ofNat 48, Char.ofNat 52, Char.ofNat 50, Char.ofNat 99, Char.ofNat 100, Char.ofNat 99, Char.ofNat 98, Char.ofNat 49, Char.ofNat 55, Char.ofNat 97, Char.ofNat 56, Char.ofNat 100, Char.ofNat 97, Char.ofNat 32, Char.ofNat 99, Char.ofNat 117, Char.ofNat 116, Char.ofNat 32, Char.ofNat 97, Char.ofNat 116, Char.ofNat 32, Char.ofNat 102, Char.ofNat 117, Char.ofNat 114, Char.ofNat 108, Char.ofNat 111, Char.ofNat 110, Char.ofNat 103, Char.ofNat 47, Char.ofNat 102, Char.ofNat 117, Char.ofNat 114, Char.ofNat 108, Char.ofNat 111, Char.ofNat 110, Char.ofNat 103, Char.ofNat 108, Char.ofNat 97, Char.ofNat 119, Char.ofNat 49, Char.ofNat 50, Char.ofNat 46, Char.ofNat 65, Char.ofNat 117, Char.ofNat 100, Char.ofNat 105, Char.ofNat 116, Char.ofNat 83, Char.ofNat 116, Char.ofNat 97, Char.ofNat 116, Char.ofNat 101, Char.ofNat 115, Char.ofNat 32, Char.ofNat 102, Char.ofNat 117, Char.ofNat 114, Char.ofNat 108, Char.ofNat 111, Char.ofNat 110, Char.ofNat 103, Char.ofNat 47, Char.ofNat 102, Char.ofNat 117, Char.ofNat 114, Char.ofNat 108, Char.ofNat 111, Char.ofNat 110, Char.ofNat 103, Char.ofNat 108, Char.ofNat 97, Char.ofNat 119, Char.ofNat 49, Char.ofNat 50, Char.ofNat 46, Char.ofNat 65, Char.ofNat 117, Char.ofNat 100, Char.ofNat 105, Char.ofNat 116, Char.ofNat 79, Char.ofNat 114, Char.ofNat 100, Char.ofNat 101, Char.ofNat 114, Char.ofNat 32, Char.ofNat 102, Char.ofNat 117, Char.ofNat 114, Char.ofNat 108, Char.ofNat 111, Char.ofNat 110, Char.ofNat 103, Char.ofNat 47, Char.ofNat 102, Char.ofNat 117, Char.ofNat 114, Char.ofNat 108, Char.ofNat 111, Char.ofNat 110, Char.ofNat 103, Char.ofNat 108, Char.ofNat 97, Char.ofNat 119, Char.ofNat 48, Char.ofNat 53, Char.ofNat 46, Char.ofNat 81, Char.ofNat 117, Char.ofNat 101, Char.ofNat 117, Char.ofNat 101, Char.ofNat 65, Char.ofNat 112, Char.ofNat 97, Char.ofNat 114, Char.ofNat 116, Char.ofNat 32, Char.ofNat 102, Char.ofNat 117, Char.ofNat 114, Char.ofNat 108, Char.ofNat 111, Char.ofNat 110, Char.ofNat 103, Char.ofNat 47, Char.ofNat 102, Char.ofNat 117, Char.ofNat 114, Char.ofNat 108, Char.ofNat 111, Char.ofNat 110, Char.ofNat 103, Char.ofNat 108, Char.ofNat 97, Char.ofNat 119, Char.ofNat 49, Char.ofNat 55, Char.ofNat 46, Char.ofNat 80, Char.ofNat 111, Char.ofNat 115, Char.ofNat 116, Char.ofNat 83, Char.ofNat 99, Char.ofNat 114, Char.ofNat 105, Char.ofNat 112, Char.ofNat 116, Char.ofNat 115, Char.ofNat 32, Char.ofNat 102, Char.ofNat 117, Char.ofNat 114, Char.ofNat 108, Char.ofNat 111, Char.ofNat 110, Char.ofNat 103, Char.ofNat 47, Char.ofNat 102, Char.ofNat 117, Char.ofNat 114, Char.ofNat 108, Char.ofNat 111, Char.ofNat 110, Char.ofNat 103, Char.ofNat 108, Char.ofNat 97, Char.ofNat 119, Char.ofNat 49, Char.ofNat 55, Char.ofNat 46, Char.ofNat 80, Char.ofNat 111, Char.ofNat 115, Char.ofNat 116, Char.ofNat 84, Char.ofNat 105, Char.ofNat 99, Char.ofNat 107, Char.ofNat 101, Char.ofNat 116, Char.ofNat 115, Char.ofNat 32, Char.ofNat 102, Char.ofNat 117, Char.ofNat 114, Char.ofNat 108, Char.ofNat 111, Char.ofNat 110, Char.ofNat 103, Char.ofNat 47, Char.ofNat 102, Char.ofNat 117, Char.ofNat 114, Char.ofNat 108, Char.ofNat 111, Char.ofNat 110, Char.ofNat 103, Char.ofNat 108, Char.ofNat 97, Char.ofNat 119, Char.ofNat 49, Char.ofNat 55, Char.ofNat 46, Char.ofNat 80, Char.ofNat 111, Char.ofNat 115, Char.ofNat 116, Char.ofNat 76, Char.ofNat 105, Char.ofNat 110, Char.ofNat 101, Char.ofNat 115, Char.ofNat 32, Char.ofNat 102, Char.ofNat 117, Char.ofNat 114, Char.ofNat 108, Char.ofNat 111, Char.ofNat 110, Char.ofNat 103, Char.ofNat 47, Char.ofNat 102, Char.ofNat 117, Char.ofNat 114, Char.ofNat 108, Char.ofNat 111, Char.ofNat 110, Char.ofNat 103, Char.ofNat 108, Char.ofNat 97, Char.ofNat 119, Char.ofNat 49, Char.ofNat 55, Char.ofNat 46, Char.ofNat 80, Char.ofNat 111, Char.ofNat 115, Char.ofNat 116, Char.ofNat 70, Char.ofNat 117, Char.ofNat 108, Char.ofNat 108, Char.ofNat 32, Char.ofNat 102, Char.ofNat 117, Char.ofNat 114, Char.ofNat 108, Char.ofNat 111, Char.ofNat 110, Char.ofNat 103, Char.ofNat 47, Char.ofNat 102, Char.ofNat 117, Char.ofNat 114, Char.ofNat 108, Char.ofNat 111, Char.ofNat 110, Char.ofNat 103, Char.ofNat 108, Char.ofNat 97, Char.ofNat 119, Char.ofNat 49, Char.ofNat 55, Char.ofNat 46, Char.ofNat 80, Char.ofNat 111, Char.ofNat 115, Char.ofNat 116, Char.ofNat 78, Char.ofNat 105, Char.ofNat 108]
def wsL : List (List Char) := [[Char.ofNat 99, Char.ofNat 117, Char.ofNat 116],
  [Char.ofNat 97, Char.ofNat 116],
  [Char.ofNat 102, Char.ofNat 117, Char.ofNat 114, Char.ofNat 108, Char.ofNat 111, Char.ofNat 110, Char.ofNat 103, Char.ofNat 47, Char.ofNat 102, Char.ofNat 117, Char.ofNat 114, Char.ofNat 108, Char.ofNat 111, Char.ofNat 110, Char.ofNat 103, Char.ofNat 108, Char.ofNat 97, Char.ofNat 119, Char.ofNat 49, Char.ofNat 50, Char.ofNat 46, Char.ofNat 65, Char.ofNat 117, Char.ofNat 100, Char.ofNat 105, Char.ofNat 116, Char.ofNat 83, Char.ofNat 116, Char.ofNat 97, Char.ofNat 116, Char.ofNat 101, Char.ofNat 115],
  [Char.ofNat 102, Char.ofNat 117, Char.ofNat 114, Char.ofNat 108, Char.ofNat 111, Char.ofNat 110, Char.ofNat 103, Char.ofNat 47, Char.ofNat 102, Char.ofNat 117, Char.ofNat 114, Char.ofNat 108, Char.ofNat 111, Char.ofNat 110, Char.ofNat 103, Char.ofNat 108, Char.ofNat 97, Char.ofNat 119, Char.ofNat 49, Char.ofNat 50, Char.ofNat 46, Char.ofNat 65, Char.ofNat 117, Char.ofNat 100, Char.ofNat 105, Char.ofNat 116, Char.ofNat 79, Char.ofNat 114, Char.ofNat 100, Char.ofNat 101, Char.ofNat 114],
  [Char.ofNat 102, Char.ofNat 117, Char.ofNat 114, Char.ofNat 108, Char.ofNat 111, Char.ofNat 110, Char.ofNat 103, Char.ofNat 47, Char.ofNat 102, Char.ofNat 117, Char.ofNat 114, Char.ofNat 108, Char.ofNat 111, Char.ofNat 110, Char.ofNat 103, Char.ofNat 108, Char.ofNat 97, Char.ofNat 119, Char.ofNat 48, Char.ofNat 53, Char.ofNat 46, Char.ofNat 81, Char.ofNat 117, Char.ofNat 101, Char.ofNat 117, Char.ofNat 101, Char.ofNat 65, Char.ofNat 112, Char.ofNat 97, Char.ofNat 114, Char.ofNat 116],
  [Char.ofNat 102, Char.ofNat 117, Char.ofNat 114, Char.ofNat 108, Char.ofNat 111, Char.ofNat 110, Char.ofNat 103, Char.ofNat 47, Char.ofNat 102, Char.ofNat 117, Char.ofNat 114, Char.ofNat 108, Char.ofNat 111, Char.ofNat 110, Char.ofNat 103, Char.ofNat 108, Char.ofNat 97, Char.ofNat 119, Char.ofNat 49, Char.ofNat 55, Char.ofNat 46, Char.ofNat 80, Char.ofNat 111, Char.ofNat 115, Char.ofNat 116, Char.ofNat 83, Char.ofNat 99, Char.ofNat 114, Char.ofNat 105, Char.ofNat 112, Char.ofNat 116, Char.ofNat 115],
  [Char.ofNat 102, Char.ofNat 117, Char.ofNat 114, Char.ofNat 108, Char.ofNat 111, Char.ofNat 110, Char.ofNat 103, Char.ofNat 47, Char.ofNat 102, Char.ofNat 117, Char.ofNat 114, Char.ofNat 108, Char.ofNat 111, Char.ofNat 110, Char.ofNat 103, Char.ofNat 108, Char.ofNat 97, Char.ofNat 119, Char.ofNat 49, Char.ofNat 55, Char.ofNat 46, Char.ofNat 80, Char.ofNat 111, Char.ofNat 115, Char.ofNat 116, Char.ofNat 84, Char.ofNat 105, Char.ofNat 99, Char.ofNat 107, Char.ofNat 101, Char.ofNat 116, Char.ofNat 115],
  [Char.ofNat 102, Char.ofNat 117, Char.ofNat 114, Char.ofNat 108, Char.ofNat 111, Char.ofNat 110, Char.ofNat 103, Char.ofNat 47, Char.ofNat 102, Char.ofNat 117, Char.ofNat 114, Char.ofNat 108, Char.ofNat 111, Char.ofNat 110, Char.ofNat 103, Char.ofNat 108, Char.ofNat 97, Char.ofNat 119, Char.ofNat 49, Char.ofNat 55, Char.ofNat 46, Char.ofNat 80, Char.ofNat 111, Char.ofNat 115, Char.ofNat 116, Char.ofNat 76, Char.ofNat 105, Char.ofNat 110, Char.ofNat 101, Char.ofNat 115],
  [Char.ofNat 102, Char.ofNat 117, Char.ofNat 114, Char.ofNat 108, Char.ofNat 111, Char.ofNat 110, Char.ofNat 103, Char.ofNat 47, Char.ofNat 102, Char.ofNat 117, Char.ofNat 114, Char.ofNat 108, Char.ofNat 111, Char.ofNat 110, Char.ofNat 103, Char.ofNat 108, Char.ofNat 97, Char.ofNat 119, Char.ofNat 49, Char.ofNat 55, Char.ofNat 46, Char.ofNat 80, Char.ofNat 111, Char.ofNat 115, Char.ofNat 116, Char.ofNat 70, Char.ofNat 117, Char.ofNat 108, Char.ofNat 108],
  [Char.ofNat 102, Char.ofNat 117, Char.ofNat 114, Char.ofNat 108, Char.ofNat 111, Char.ofNat 110, Char.ofNat 103, Char.ofNat 47, Char.ofNat 102, Char.ofNat 117, Char.ofNat 114, Char.ofNat 108, Char.ofNat 111, Char.ofNat 110, Char.ofNat 103, Char.ofNat 108, Char.ofNat 97, Char.ofNat 119, Char.ofNat 49, Char.ofNat 55, Char.ofNat 46, Char.ofNat 80, Char.ofNat 111, Char.ofNat 115, Char.ofNat 116, Char.ofNat 78, Char.ofNat 105, Char.ofNat 108]]
theorem io : Try.prog.initOrder = String.ofList ioL := by kernel_rfl
theorem ios : Try.prog.initOrder.toList = ioL := by rw [io, String.toList_ofList]
theorem wsx : wordsSigns ioL = [[Char.ofNat 104, Char.ofNat 97, Char.ofNat 114, Char.ofNat 110, Char.ofNat 101, Char.ofNat 115, Char.ofNat 115], [Char.ofNat 57, Char.ofNat 99, Char.ofNat 51, Char.ofNat 57, Char.ofNat 53, Char.ofNat 50, Char.ofNat 50, Char.ofNat 98, Char.ofNat 53, Char.ofNat 98, Char.ofNat 102, Char.ofNat 97, Char.ofNat 55, Char.ofNat 101, Char.ofNat 57, Char.ofNat 97, Char.ofNat 50, Char.ofNat 48, Char.ofNat 56, Char.ofNat 98, Char.ofNat 98, Char.ofNat 57, Char.ofNat 98, Char.ofNat 97, Char.ofNat 56, Char.ofNat 99, Char.ofNat 49, Char.ofNat 102, Char.ofNat 52, Char.ofNat 49, Char.ofNat 57, Char.ofNat 102, Char.ofNat 100, Char.ofNat 53, Char.ofNat 50, Char.ofNat 52, Char.ofNat 100, Char.ofNat 101, Char.ofNat 98, Char.ofNat 102, Char.ofNat 100, Char.ofNat 98, Char.ofNat 99, Char.ofNat 98, Char.ofNat 99, Char.ofNat 57, Char.ofNat 100, Char.ofNat 53, Char.ofNat 57, Char.ofNat 97, Char.ofNat 56, Char.ofNat 48, Char.ofNat 52, Char.ofNat 50, Char.ofNat 99, Char.ofNat 100, Char.ofNat 99, Char.ofNat 98, Char.ofNat 49, Char.ofNat 55, Char.ofNat 97, Char.ofNat 56, Char.ofNat 100, Char.ofNat 97]] ++ wsL := by kernel_rfl
theorem ws : behindMainWord (wordsSigns Try.prog.initOrder.toList) = wsL := by rw [ios, wsx]; kernel_rfl
theorem may_of {P : Program} {c : List Char} {rest : List (List Char)} (h : behindMainWord (wordsSigns P.initOrder.toList) = c :: rest) (h1 : stripLifts liftWords (c :: rest) = ([], c :: rest)) (hcut : (c == "cut".toList) = true) (h2 : P.laysLater = false) (h3 : P.bearsReflect = false) (h4 : P.doorRows = []) : P.mayEnter = true := by
  unfold Program.mayEnter; rw [h]
  have hd : P.doorFits [] = true := by unfold Program.doorFits; rw [h4]; rfl
  have e : ((c :: rest).head? == some "cut".toList) = true := by rw [List.head?_cons]; simpa using hcut
  simp only [h1, h2, h3, hd, e]
  simp
theorem head_of {P : Program} {c : List Char} {rest : List (List Char)} (h : behindMainWord (wordsSigns P.initOrder.toList) = c :: rest) (h1 : stripLifts liftWords (c :: rest) = ([], c :: rest)) : P.headLifts = [] := by
  unfold Program.headLifts; rw [h]; simp only [h1]; simp
theorem lifts_of {P : Program} {c : List Char} {rest : List (List Char)} (h : behindMainWord (wordsSigns P.initOrder.toList) = c :: rest) (h1 : stripLifts liftWords (c :: rest) = ([], c :: rest)) (hcar : (c == "carried".toList) = false) : P.liftsFinal = false := by
  have e : ((c :: rest).head? == some "carried".toList) = false := by rw [List.head?_cons]; simpa using hcar
  unfold Program.liftsFinal; rw [h, head_of h h1]; simp only [e]; simp
def wsC : List Char := [Char.ofNat 99, Char.ofNat 117, Char.ofNat 116]
def wsR : List (List Char) := wsL.tail
theorem ws2 : behindMainWord (wordsSigns Try.prog.initOrder.toList) = wsC :: wsR := by rw [ws]; rfl
theorem ws3 : stripLifts liftWords (wsC :: wsR) = ([], wsC :: wsR) := by kernel_rfl
theorem ws4 : (wsC == "cut".toList) = true := by kernel_rfl
theorem ws5 : (wsC == "carried".toList) = false := by kernel_rfl
theorem jLater : Try.prog.laysLater = false := by kernel_rfl
theorem jRefl : Try.prog.bearsReflect = false := by kernel_rfl
theorem jDoor : Try.prog.doorRows = [] := by kernel_rfl
theorem jMay : Try.prog.mayEnter = true := may_of ws2 ws3 ws4 jLater jRefl jDoor
theorem jLifts : Try.prog.liftsFinal = false := lifts_of ws2 ws3 ws5
theorem make_of {P : Program} {c : List Char} {rest : List (List Char)} (h : behindMainWord (wordsSigns P.initOrder.toList) = c :: rest) (hg : (c == "gc".toList) = false) (hs : (c == "spec".toList) = false) (hcut : (c == "cut".toList) = true) : P.make = some .cut := by
  unfold Program.make; rw [h]; simp only [hg, hs, hcut]; simp
theorem ws6 : (wsC == "gc".toList) = false := by kernel_rfl
theorem ws7 : (wsC == "spec".toList) = false := by kernel_rfl
theorem jMake : Try.prog.make = some .cut := make_of ws2 ws6 ws7 ws4
theorem jLaid : laidOutB Try.prog = true := by kernel_rfl
theorem jMaps : mapsRowed Try.prog = true := by kernel_rfl
theorem jStops : Try.prog.stops = [] := by kernel_rfl
theorem jKnobs : Try.prog.stopKnobs = [] := by kernel_rfl
theorem jKeys : Try.prog.plainKeys = false := by kernel_rfl
theorem jHeard : Try.prog.stopsHeard = true := by kernel_rfl
end Go.Proofs.Ytkfpaffcglijeaa
end
