/- The statement VictimChooses: the document's search, and what the statement computes. -/
import Derived.Test.YtdhifabhjlbjiaaXG
import Derived.Test.YtdhifabhjlbjiaaMVall
import Derived.Test.YtdhifabhjlbjiaaRN
set_option linter.all false
namespace Go.Idl
open Go.Proofs
set_option linter.unusedSimpArgs false
set_option linter.unusedVariables false
set_option maxRecDepth 20000
set_option maxHeartbeats 4000000
variable (b c : Bool)

theorem rvsums_spec (l : List Q) (ls : List Le) (hl : l.length ≤ maxLen) (hls : ls.length ≤ maxLen) (hb : ls.length * 80 ≤ reachBytes) : PCall Try.prog 151 [encL b l, encLs c ls] (vsumsV l ls) := by
  refine pcallS (fn := Try.f151) [] [] mixed (bodyOf Try.f151) [.tmp 4, .tmp 5] Try.func151 rfl rfl (by decide) 25 rfl (by kernel_rfl) ?_
  simp -implicitDefEqProofs [↓gd_tt, ↓gd_ff, ↓gd_tf, ↓gd_ft, bodyOf, Try.f151, stripC, stripL, stripM, onsOf, upto, hintOf, freeOf, List.replicate]
  refine callK_pcall (refCheck_spec b l hl) rfl rfl ?_
  by_cases hc : check l = 0
  case neg =>
    have hE : vsumsE l ls = check l := by simp [vsumsE, hc]
    have hv : vsumsV l ls = .tup [.nil 2, .d (I (check l))] := by unfold vsumsV; rw [hE, if_neg hc]
    rw [hv]
    simp -implicitDefEqProofs [↓gd_tt, ↓gd_ff, ↓gd_tf, ↓gd_ft, hc]
  simp -implicitDefEqProofs [↓gd_tt, ↓gd_ff, ↓gd_tf, ↓gd_ft, hc]
  by_cases hu : vusesE ls = 0
  case neg =>
    have hE : vsumsE l ls = vusesE ls := by simp [vsumsE, hc, hu]
    have hv : vsumsV l ls = .tup [.nil 2, .d (I (vusesE ls))] := by unfold vsumsV; rw [hE, if_neg hu]
    have hv2 : vusesV ls = .tup [.nil 3, .d (I (vusesE ls))] := by unfold vusesV; rw [if_neg hu]
    refine callK_pcall (refUses_spec c ls hls hb) rfl (by rw [hv2]; rfl) ?_
    rw [hv, hv2]
    simp -implicitDefEqProofs [↓gd_tt, ↓gd_ff, ↓gd_tf, ↓gd_ft, hu]
  have hE : vsumsE l ls = sumsE l (usesL ls) := by simp [vsumsE, hc, hu]
  have hv2 : vusesV ls = .tup [.d (encUs false (usesL ls)), .d (I 0)] := by unfold vusesV; rw [if_pos hu]
  have hul := vuses_len hu
  refine callK_pcall (refUses_spec c ls hls hb) rfl (by rw [hv2]; rfl) ?_
  rw [hv2]
  simp -implicitDefEqProofs [↓gd_tt, ↓gd_ff, ↓gd_tf, ↓gd_ft]
  by_cases hs : sumsE l (usesL ls) = 0
  · have hv : vsumsV l ls = .tup [.d (encVs false (sumsL l (usesL ls))), .d (I 0)] := by unfold vsumsV; rw [hE, if_pos hs]
    have hv3 : sumsV l (usesL ls) = .tup [.d (encVs false (sumsL l (usesL ls))), .d (I 0)] := by simp [sumsV, hs]
    refine callK_pcall (refSums_spec b false l (usesL ls) hl (by omega)) rfl (by rw [hv3]; rfl) ?_
    rw [hv3, hv]
    simp -implicitDefEqProofs [↓gd_tt, ↓gd_ff, ↓gd_tf, ↓gd_ft]
  · have hv : vsumsV l ls = .tup [.nil 2, .d (I (sumsE l (usesL ls)))] := by unfold vsumsV; rw [hE, if_neg hs]
    have hv3 : sumsV l (usesL ls) = .tup [.nil 2, .d (I (sumsE l (usesL ls)))] := by simp [sumsV, hs]
    refine callK_pcall (refSums_spec b false l (usesL ls) hl (by omega)) rfl (by rw [hv3]; rfl) ?_
    rw [hv3, hv]
    simp -implicitDefEqProofs [↓gd_tt, ↓gd_ff, ↓gd_tf, ↓gd_ft]
theorem rlive_spec (ls : List Le) (hls : ls.length ≤ maxLen) (hb : ls.length * 80 ≤ reachBytes) : PCall Try.prog 152 [encLs b ls] (.d (encLs false (liveL ls))) := by
  have hrb : reachBytes = 140737488351232 := rfl
  refine pcallS (fn := Try.f152) [] [] mixed (bodyOf Try.f152) [.tmp 2] Try.func152 rfl rfl (by decide) 20 rfl (by kernel_rfl) ?_
  simp -implicitDefEqProofs [↓gd_tt, ↓gd_ff, ↓gd_tf, ↓gd_ft, bodyOf, Try.f152, stripC, stripL, stripM, onsOf, upto, hintOf, freeOf, List.replicate]
  refine loopA mixed [false, false, false, true, false, true, false, false, true, true, true, true, true, true, true, true, true, true, true, true] (fun (i : Nat) => [(8, .d (I i)), (3, .own 8 ((liveL (ls.take i)).map encLe))]) (fun (i : Nat) => []) (fun (i : Nat) => i ≤ ls.length) (fun (i : Nat) => ls.length - i) (0) (Nat.zero_le _) (by simp [liveL]) ?_
  rintro i hx
  rcases Nat.lt_or_eq_of_le hx with h | h
  · have hst := liveL_take h
    have hln := liveL_len (ls.take i)
    simp only [List.length_take] at hln
    have hb8 : ((liveL (ls.take i)).length + 1) * 80 ≤ 140737488355328 := by omega
    have hwi := wrap1 hls h
    cases hs : ls[i].st with
    | true =>
      rw [if_pos hs, List.append_nil] at hst
      simp -implicitDefEqProofs [↓gd_tt, ↓gd_ff, ↓gd_tf, ↓gd_ft, h, hs, hwi]
      exact ⟨i + 1, by omega, by omega, by rw [hst], rfl⟩
    | false =>
      rw [if_neg (by rw [hs]; decide)] at hst
      simp -implicitDefEqProofs [↓gd_tt, ↓gd_ff, ↓gd_tf, ↓gd_ft, h, hs, hwi, hb8]
      refine ⟨i + 1, by omega, by omega, ?_, rfl⟩
      rw [hst, List.map_append]; simp [hs]
  · have htk : ls.take i = ls := by rw [h]; exact List.take_length
    simp -implicitDefEqProofs [↓gd_tt, ↓gd_ff, ↓gd_tf, ↓gd_ft, h, htk]
def ylQ (q : Q) (u : Int × Int) (x : Le) : Bool := fits q.MC q.MM (u.1 - x.cs.length) (u.2 - x.m)
theorem ryields_spec (q : Q) (u : Int × Int) (x : Le) (hu : good u.1 u.2 = true) (hx : okLe x = true) : PCall Try.prog 153 [encQ q, encV u, encLe x] (.d (.bool (ylQ q u x))) := by
  have h1 := good_iff.1 hu
  have h2 := okLe_iff.1 hx
  have w1 : IntKind.i64.wrap (u.1 - x.cs.length) = u.1 - x.cs.length := wrap_i64 (by omega) (by omega)
  have w2 : IntKind.i64.wrap (u.2 - x.m) = u.2 - x.m := wrap_i64 (by omega) (by omega)
  have hf := fits_spec q.MC q.MM (u.1 - x.cs.length) (u.2 - x.m)
  refine pcallS (fn := Try.f153) [] [] mixed (bodyOf Try.f153) [.tmp 6] Try.func153 rfl rfl (by decide) 19 rfl (by kernel_rfl) ?_
  simp -implicitDefEqProofs [↓gd_tt, ↓gd_ff, ↓gd_tf, ↓gd_ft, bodyOf, Try.f153, stripC, stripL, stripM, onsOf, upto, hintOf, freeOf, List.replicate]
  simp -implicitDefEqProofs [↓gd_tt, ↓gd_ff, ↓gd_tf, ↓gd_ft, w1, w2]
  refine callK_pcall hf rfl rfl ?_
  simp -implicitDefEqProofs [↓gd_tt, ↓gd_ff, ↓gd_tf, ↓gd_ft, ylQ]
def idB (l : List Q) (bs : Int) : Int := if bs < 0 then -1 else (l.getD bs.toNat q0).Id
theorem idB_neg (l : List Q) : idB l (-1) = -1 := rfl
theorem idB_nat {l : List Q} {k : Nat} (h : k < l.length) : idB l k = l[k].Id := by unfold idB; rw [if_neg (by omega)]; simp [h]
theorem rvchoose_spec (l : List Q) (ls : List Le) (t : Int × Int) (hl : l.length ≤ maxLen) (hls : ls.length ≤ maxLen) (hb : ls.length * 80 ≤ reachBytes) (hq : ∀ x ∈ ls, In64 x.q) : PCall Try.prog 71 [encL b l, encLs c ls, encV t] (vchooseV l ls t) := by
  obtain ⟨x, y⟩ := t
  refine pcallS (fn := Try.f71) [] [] mixed (bodyOf Try.f71) [.tmp 6, .tmp 7] Try.func71 rfl rfl (by decide) 108 rfl (by kernel_rfl) ?_
  simp -implicitDefEqProofs [↓gd_tt, ↓gd_ff, ↓gd_tf, ↓gd_ft, bodyOf, Try.f71, stripC, stripL, stripM, onsOf, upto, hintOf, freeOf, List.replicate]
  by_cases hE : vsumsE l ls = 0
  case neg =>
    have hv : vsumsV l ls = .tup [.nil 2, .d (I (vsumsE l ls))] := by unfold vsumsV; rw [if_neg hE]
    have hcv : vchooseV l ls (x, y) = .tup [.d (I 0), .d (I (vsumsE l ls))] := by unfold vchooseV; rw [if_pos hE]
    refine callK_pcall (rvsums_spec b c l ls hl hls hb) rfl (by rw [hv]; rfl) ?_
    rw [hv, hcv]
    simp -implicitDefEqProofs [↓gd_tt, ↓gd_ff, ↓gd_tf, ↓gd_ft, hE]
  have hv : vsumsV l ls = .tup [.d (encVs false (sumsL l (usesL ls))), .d (I 0)] := by unfold vsumsV; rw [if_pos hE]
  refine callK_pcall (rvsums_spec b c l ls hl hls hb) rfl (by rw [hv]; rfl) ?_
  rw [hv]
  simp -implicitDefEqProofs [↓gd_tt, ↓gd_ff, ↓gd_tf, ↓gd_ft]
  refine callK_pcall (good_spec x y) rfl rfl ?_
  by_cases hg : good x y = true
  case neg =>
    have hcv : vchooseV l ls (x, y) = .tup [.d (I 0), .d (I 1)] := by unfold vchooseV; rw [if_neg (by simp [hE]), if_pos (by simpa using hg)]
    rw [hcv]
    simp -implicitDefEqProofs [↓gd_tt, ↓gd_ff, ↓gd_tf, ↓gd_ft, hg]
  have hEl : vsumsE l (liveL ls) = 0 := vsums_filter _ hE
  have hcv : vchooseV l ls (x, y) = if (runC l (sumsL l (usesL (liveL ls))) (x, y) (liveL ls)).1 < 0 then .tup [.d (I 0), .d (I 8)] else .tup [.d (I (runC l (sumsL l (usesL (liveL ls))) (x, y) (liveL ls)).2), .d (I 0)] := by
    unfold vchooseV; rw [if_neg (by simp [hE]), if_neg (by simpa using hg)]
  rw [hcv]
  have hvl : vsumsV l (liveL ls) = .tup [.d (encVs false (sumsL l (usesL (liveL ls)))), .d (I 0)] := by unfold vsumsV; rw [if_pos hEl]
  have hll := liveL_len ls
  obtain ⟨hc, hu, hs⟩ := vsums_zero.1 hEl
  obtain ⟨o1, o2⟩ := ok_of hu
  obtain ⟨_, _, ho⟩ := sumsE_zero.1 hs
  have hpl := lease_place hEl
  have hri := check_rises hc
  have hsg : ∀ j (h : j < (sumsL l (usesL (liveL ls))).length), good (sumsL l (usesL (liveL ls)))[j].1 (sumsL l (usesL (liveL ls)))[j].2 = true := fun j h => by
    have h' : j < l.length := by simpa [sumsL] using h
    have := overs_iff.1 ho l[j] (List.getElem_mem h')
    simpa [sumsL, goodP] using this
  have hsl : (sumsL l (usesL (liveL ls))).length = l.length := by simp [sumsL]
  have hlv := rlive_spec c ls hls hb
  have hvs := rvsums_spec b false l (liveL ls) hl (by omega) (by omega)
  simp -implicitDefEqProofs [↓gd_tt, ↓gd_ff, ↓gd_tf, ↓gd_ft, hg]
  refine callK_pcall hlv rfl rfl ?_
  simp -implicitDefEqProofs [↓gd_tt, ↓gd_ff, ↓gd_tf, ↓gd_ft]
  refine callK_pcall hvs rfl (by rw [hvl]; rfl) ?_
  rw [hvl]
  have hid : ∀ j (h : j < l.length), 0 ≤ l[j].Id := fun j h => id_nonneg (check_form hc) h
  generalize hM : sumsL l (usesL (liveL ls)) = M at *
  generalize hL : liveL ls = L at *
  have hgM : ∀ j, j < l.length → good (M.getD j (0, 0)).1 (M.getD j (0, 0)).2 = true := fun j h => by
    have h' : j < M.length := by omega
    have := hsg j h'
    simpa [h'] using this
  have hgw : ∀ j, j < l.length → 1 ≤ (l.getD j q0).Wt := fun j h => by simpa [h] using (check_wt hc h).1
  have hfo : ∀ k, k < l.length → (frQ l M (x, y) k).ok := fun k hk => frZ_ok (t := (x, y)) (hgM k hk) hg (hgw k hk)
  have hin : ∀ z ∈ L, ∃ j : Nat, j < l.length ∧ place l z.q = j := fun z hz => by
    obtain ⟨a, b, c, _⟩ := hpl z hz; exact ⟨a, b, c⟩
  have hrun := runC_best (t := (x, y)) hgM hg hgw L hin
  simp -implicitDefEqProofs [↓gd_tt, ↓gd_ff, ↓gd_tf, ↓gd_ft]
  refine loopA mixed [false, false, false, false, false, false, false, false, false, false, false, false, false, true, true, false, true, true, true, true, false, true, false, false, false, false, false, false, false, false, false, false, false, false, false, false, false, false, false, false, false, false, false, false, true, true, true, true, true, true, true, true, true, true, true, true, true, true, true, true, true, true, true, true, true, true, true, true, true, true, true, true, true, true, true, true, true, true, true, true, true, true, true, true, true, true, true, true, true, true, true, true, true, true, true, true, true, true, true, true, true, true, true, true, true, true, true, true] (fun (p : Nat × Int × Int) => [(44, .d (I p.1)), (13, .d (I (idB l p.2.1))), (14, .d (I p.2.2))]) (fun (p : Nat × Int × Int) => [.var [.d (I x), .d (I y)]]) (fun (p : Nat × Int × Int) => p.1 ≤ l.length ∧ BestS l (frQ l M (x, y)) (fun z => z ∈ L ∧ yl l M z = true ∧ place l z.q < p.1) p.2) (fun (p : Nat × Int × Int) => l.length - p.1) ((0, -1, -1)) (⟨Nat.zero_le _, .inl ⟨rfl, fun z hz => by obtain ⟨a, _, hlt⟩ := hz; obtain ⟨j, _, e⟩ := hin z a; simp only at hlt; omega⟩⟩) (by simp [idB_neg]) ?_
  rintro p hx
  obtain ⟨i, bs, tk⟩ := p
  obtain ⟨hi, hB⟩ := hx
  simp only at hi hB
  rcases Nat.lt_or_eq_of_le hi with h | h
  case inr =>
    have hB2 := hB.congr (S' := fun z => z ∈ L ∧ yl l M z = true) fun z => ⟨fun ⟨a, b, _⟩ => ⟨a, b⟩, fun ⟨a, b⟩ => ⟨a, b, by obtain ⟨j, hj, e⟩ := hin z a; omega⟩⟩
    obtain ⟨e1, e2⟩ := hB2.uniq hrun
    rw [← e1]
    simp only at e1 e2 ⊢
    rcases hB with ⟨e, _⟩ | ⟨k, hk, e, _⟩
    · simp only at e; subst e
      simp -implicitDefEqProofs [↓gd_tt, ↓gd_ff, ↓gd_tf, ↓gd_ft, h, idB_neg]
    · simp only at e; subst e
      have h0 := hid k hk
      rw [← e2 (by omega)]
      simp -implicitDefEqProofs [↓gd_tt, ↓gd_ff, ↓gd_tf, ↓gd_ft, h, idB_nat hk, show ¬ l[k].Id < 0 by omega, show ¬ (k : Int) < 0 by omega]
  have hhas : has l l[i].Id = true := has_mem.2 ⟨_, List.getElem_mem h, rfl⟩
  have hpi := pos_at hri h
  have hiM : i < M.length := by omega
  have hsum := rsum_spec b false l M l[i].Id hl hri hhas (by omega) (by rw [hpi]; exact hiM)
  simp only [hpi] at hsum
  have hyy : ∀ z ∈ L, (decide (place l z.q = i) && yl l M z) = (decide (z.q = l[i].Id) && ylQ l[i] M[i] z) := fun z hz => by
    obtain ⟨j, hj, e, e2⟩ := hpl z hz
    by_cases hji : j = i
    · subst hji
      unfold yl ylQ
      rw [e]
      simp [h, hiM, e2]
    · have h1 : ¬ place l z.q = i := by rw [e]; omega
      have h2 : ¬ z.q = l[i].Id := fun k => hji (by
        have a := pos_at hri hj
        rw [e2, k, hpi] at a; exact a.symm)
      simp [h1, h2]
  simp -implicitDefEqProofs [↓gd_tt, ↓gd_ff, ↓gd_tf, ↓gd_ft, h]
  refine callK_pcall hsum rfl rfl ?_
  simp -implicitDefEqProofs [↓gd_tt, ↓gd_ff, ↓gd_tf, ↓gd_ft]
  refine loopA mixed [false, false, false, false, false, false, false, false, false, false, false, false, false, false, false, false, false, false, true, true, false, true, false, false, false, false, false, false, false, false, false, false, false, false, false, false, false, false, false, false, false, false, false, false, false, false, false, false, false, false, false, false, false, false, false, true, true, true, true, true, true, true, true, true, true, true, true, true, true, true, true, true, true, true, true, true, true, true, true, true, true, true, true] (fun (k : Nat) => [(55, .d (I k)), (18, .d (I (runY (fun z => decide (z.q = l[i].Id) && ylQ l[i] M[i] z) (L.take k)).1)), (19, .d (.bool (runY (fun z => decide (z.q = l[i].Id) && ylQ l[i] M[i] z) (L.take k)).2))]) (fun (k : Nat) => [.var [.d (I x), .d (I y)], .var ((encQ l[i]).flat.map V.d), .var [.d (I M[i].1), .d (I M[i].2)]]) (fun (k : Nat) => k ≤ L.length) (fun (k : Nat) => L.length - k) (0) (Nat.zero_le _) (by simp [runY]) ?_
  rintro k hx
  have hkk := hx
  rcases Nat.lt_or_eq_of_le hkk with hk | hk
  · have hst := runY_take (p := fun z => decide (z.q = l[i].Id) && ylQ l[i] M[i] z) hk
    have hyi := ryields_spec l[i] M[i] L[k] (hsg i hiM) (o1 _ (List.getElem_mem hk))
    have hwk := wrap1 (show L.length ≤ maxLen by omega) hk
    generalize runY (fun z => decide (z.q = l[i].Id) && ylQ l[i] M[i] z) (L.take k) = r at *
    obtain ⟨la, so⟩ := r
    unfold stepY at hst
    simp only at hst
    by_cases hqi : L[k].q = l[i].Id
    · simp -implicitDefEqProofs [↓gd_tt, ↓gd_ff, ↓gd_tf, ↓gd_ft, hk, hqi]
      refine callK_pcall hyi (by simp [hqi]) rfl ?_
      cases hy : ylQ l[i] M[i] L[k] with
      | false =>
        have hst2 : runY (fun z => decide (z.q = l[i].Id) && ylQ l[i] M[i] z) (L.take (k + 1)) = (la, so) := by rw [hst]; simp [hy]
        simp -implicitDefEqProofs [↓gd_tt, ↓gd_ff, ↓gd_tf, ↓gd_ft, hk, hqi, hwk]
        exact ⟨k + 1, by omega, by omega, by rw [hst2], by rw [hst2], rfl⟩
      | true =>
        cases so with
        | false =>
          have hst2 : runY (fun z => decide (z.q = l[i].Id) && ylQ l[i] M[i] z) (L.take (k + 1)) = (L[k].t, true) := by rw [hst]; simp [hy, hqi]
          simp -implicitDefEqProofs [↓gd_tt, ↓gd_ff, ↓gd_tf, ↓gd_ft, hk, hqi, hwk]
          exact ⟨k + 1, by omega, by omega, by rw [hst2], by rw [hst2], rfl⟩
        | true =>
          by_cases ht : la < L[k].t
          · have hst2 : runY (fun z => decide (z.q = l[i].Id) && ylQ l[i] M[i] z) (L.take (k + 1)) = (L[k].t, true) := by rw [hst]; simp [hy, hqi, ht]
            simp -implicitDefEqProofs [↓gd_tt, ↓gd_ff, ↓gd_tf, ↓gd_ft, hk, hqi, hwk, ht]
            exact ⟨k + 1, by omega, by omega, by rw [hst2], by rw [hst2], rfl⟩
          · have hst2 : runY (fun z => decide (z.q = l[i].Id) && ylQ l[i] M[i] z) (L.take (k + 1)) = (la, true) := by rw [hst]; simp [hy, hqi, ht]
            simp -implicitDefEqProofs [↓gd_tt, ↓gd_ff, ↓gd_tf, ↓gd_ft, hk, hqi, hwk, ht]
            exact ⟨k + 1, by omega, by omega, by rw [hst2], by rw [hst2], rfl⟩
    · rw [if_neg (by simp [hqi])] at hst
      simp -implicitDefEqProofs [↓gd_tt, ↓gd_ff, ↓gd_tf, ↓gd_ft, hk, hqi, hwk]
      exact ⟨k + 1, by omega, by omega, by rw [hst], by rw [hst], rfl⟩
  · have htk2 : L.take k = L := by rw [hk]; exact List.take_length
    rw [htk2]
    have hrY := runY_ok (fun z => decide (z.q = l[i].Id) && ylQ l[i] M[i] z) L
    generalize runY (fun z => decide (z.q = l[i].Id) && ylQ l[i] M[i] z) L = r at *
    have hnx := BestS.queue (l := l) (F := frQ l M (x, y)) (ls := L) (Y := yl l M) (i := i) h hin hB hfo r ⟨fun h0 z hz => by rw [hyy z hz]; exact hrY.1 h0 z hz, fun h1 => ⟨by
      obtain ⟨z, z1, z2, z3⟩ := (hrY.2 h1).1
      exact ⟨z, z1, by rw [hyy z z1]; exact z2, z3⟩, fun z hz hz2 => (hrY.2 h1).2 z hz (by rw [hyy z hz] at hz2; exact hz2)⟩⟩
    obtain ⟨la, so⟩ := r
    simp only at hnx
    obtain ⟨n1, n2, n3⟩ := hnx
    have hwi := wrap1 hl h
    cases so with
    | false =>
      simp -implicitDefEqProofs [↓gd_tt, ↓gd_ff, ↓gd_tf, ↓gd_ft, hk, hwi]
      exact ⟨i + 1, bs, tk, ⟨by omega, n1 rfl⟩, by omega, rfl, rfl, rfl⟩
    | true =>
      rcases hB with ⟨e, hno⟩ | ⟨kb, hkb, e, hbb⟩
      · simp only at e; subst e
        simp -implicitDefEqProofs [↓gd_tt, ↓gd_ff, ↓gd_tf, ↓gd_ft, hk, hwi, idB_neg]
        exact ⟨i + 1, i, la, ⟨by omega, n2 rfl (.inl (by decide))⟩, by omega, (idB_nat h).symm, rfl, rfl⟩
      · simp only at e; subst e
        have h0 := hid kb hkb
        have hkM : kb < M.length := by omega
        have hhas2 : has l l[kb].Id = true := has_mem.2 ⟨_, List.getElem_mem hkb, rfl⟩
        have hpk := pos_at hri hkb
        have hsum2 := rsum_spec b false l M l[kb].Id hl hri hhas2 (by omega) (by rw [hpk]; exact hkM)
        simp only [hpk] at hsum2
        have hfind := find_spec b l l[kb].Id hl
        have hfe : find l l[kb].Id = l[kb] := find_at hri hkb
        rw [hfe] at hfind
        have hless := rless2_spec M[i] M[kb] (x, y) l[i].Wt l[kb].Wt (hsg i hiM) (hsg kb hkM) hg (check_wt hc h) (check_wt hc hkb)
        have hord : 0 < ordZ M[i] l[i].Wt M[kb] l[kb].Wt (x, y) ↔ ¬ (frQ l M (x, y) i).le (frQ l M (x, y) kb) := by
          rw [ordZ_fr (hsg i hiM) (hsg kb hkM) hg (check_wt hc h).1 (check_wt hc hkb).1, sgn_pos]
          unfold frQ Fr.le
          simp [h, hkb, hiM, hkM]
        generalize ordZ M[i] l[i].Wt M[kb] l[kb].Wt (x, y) = o at *
        simp -implicitDefEqProofs [↓gd_tt, ↓gd_ff, ↓gd_tf, ↓gd_ft, hk, hwi, idB_nat hkb, show ¬ l[kb].Id < 0 by omega]
        refine free_pcall hsum2 rfl rfl ?_
        simp -implicitDefEqProofs [↓gd_tt, ↓gd_ff, ↓gd_tf, ↓gd_ft]
        refine free_pcall hfind rfl rfl ?_
        simp -implicitDefEqProofs [↓gd_tt, ↓gd_ff, ↓gd_tf, ↓gd_ft]
        refine free_pcall hless rfl rfl ?_
        by_cases ho : 0 < o
        · simp -implicitDefEqProofs [↓gd_tt, ↓gd_ff, ↓gd_tf, ↓gd_ft, ho, hwi]
          exact ⟨i + 1, i, la, ⟨by omega, n2 rfl (.inr ⟨by omega, by simpa using hord.1 ho⟩)⟩, by omega, (idB_nat h).symm, rfl, rfl⟩
        · simp -implicitDefEqProofs [↓gd_tt, ↓gd_ff, ↓gd_tf, ↓gd_ft, ho, hwi]
          exact ⟨i + 1, kb, tk, ⟨by omega, n3 rfl (by omega) (by have := fun k => ho (hord.2 k); simpa using Classical.not_not.1 this)⟩, by omega, (idB_nat hkb).symm, rfl, rfl⟩
theorem victimChooses_spec (l : List Q) (ls : List Le) (t : Int × Int) (hl : l.length ≤ maxLen) (hls : ls.length ≤ maxLen) (hb : ls.length * 80 ≤ reachBytes) (hq : ∀ x ∈ ls, In64 x.q) : PCall Try.prog 20 [encL false l, encLs false ls, encV t] (.d (.bool true)) := by
  have hch := vchoose_spec false false l ls t hl hls hb hq
  have hrc := rvchoose_spec false false l ls t hl hls hb hq
  rw [vchooseV_eq] at hch hrc
  obtain ⟨x, y⟩ := t
  refine pcallS (fn := Try.f20) [] [] mixed (bodyOf Try.f20) [.tmp 6] Try.func20 rfl rfl (by decide) 32 rfl (by kernel_rfl) ?_
  simp -implicitDefEqProofs [↓gd_tt, ↓gd_ff, ↓gd_tf, ↓gd_ft, bodyOf, Try.f20, stripC, stripL, stripM, onsOf, upto, hintOf, freeOf, List.replicate]
  refine callK_pcall awake8_spec rfl rfl ?_
  simp -implicitDefEqProofs [↓gd_tt, ↓gd_ff, ↓gd_tf, ↓gd_ft]
  refine callK_pcall hch rfl rfl ?_
  simp -implicitDefEqProofs [↓gd_tt, ↓gd_ff, ↓gd_tf, ↓gd_ft]
  refine callK_pcall hrc rfl rfl ?_
  simp -implicitDefEqProofs [↓gd_tt, ↓gd_ff, ↓gd_tf, ↓gd_ft]
theorem victimChooses_row (l : List Q) (ls : List Le) (t : Int × Int) (hl : l.length ≤ maxLen) (hlb : l.length * 56 ≤ reachBytes) (hls : ls.length ≤ maxLen) (hb : ls.length * 80 ≤ reachBytes) (hw : ∀ x ∈ ls, x.ok) : PCall Try.prog 20 [encL false l, encLs false ls, encV t] (.d (.bool true)) := victimChooses_spec l ls t hl hls hb fun x hx => (hw x hx).q
end Go.Idl
