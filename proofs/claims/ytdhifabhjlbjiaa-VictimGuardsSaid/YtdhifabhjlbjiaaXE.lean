/- The program's victims: Choose. -/
import Derived.Test.YtdhifabhjlbjiaaXD
import Derived.Test.YtdhifabhjlbjiaaPK
import Derived.Test.YtdhifabhjlbjiaaIdlSc
set_option linter.all false
namespace Go.Idl
open Go.Proofs
set_option linter.unusedSimpArgs false
set_option linter.unusedVariables false
set_option maxRecDepth 8000
set_option maxHeartbeats 4000000
variable (b c : Bool)

def vchooseV (l : List Q) (ls : List Le) (t : Int × Int) : V := if vsumsE l ls ≠ 0 then .tup [.d (I 0), .d (I (vsumsE l ls))] else if good t.1 t.2 = false then .tup [.d (I 0), .d (I 1)]
  else if (runC l (sumsL l (usesL (liveL ls))) t (liveL ls)).1 < 0 then .tup [.d (I 0), .d (I 8)] else .tup [.d (I (runC l (sumsL l (usesL (liveL ls))) t (liveL ls)).2), .d (I 0)]
theorem vchoose_spec (l : List Q) (ls : List Le) (t : Int × Int) (hl : l.length ≤ maxLen) (hls : ls.length ≤ maxLen) (hb : ls.length * 80 ≤ reachBytes) (hq : ∀ x ∈ ls, In64 x.q) : PCall Try.prog 70 [encL b l, encLs c ls, encV t] (vchooseV l ls t) := by
  obtain ⟨x, y⟩ := t
  refine pcallS (fn := Try.f70) [] [] mixed (bodyOf Try.f70) [.tmp 6, .tmp 7] Try.func70 rfl rfl (by decide) 129 rfl (by kernel_rfl) ?_
  simp -implicitDefEqProofs [↓gd_tt, ↓gd_ff, ↓gd_tf, ↓gd_ft, bodyOf, Try.f70, stripC, stripL, stripM, onsOf, upto, hintOf, freeOf, List.replicate]
  refine scopeS [] [(12, 7)] mixed (by kernel_rfl) ?_
  simp -implicitDefEqProofs [↓gd_tt, ↓gd_ff, ↓gd_tf, ↓gd_ft, stripC, stripL, stripM, onsOf, upto, hintOf, freeOf, List.replicate]
  by_cases hE : vsumsE l ls = 0
  case neg =>
    have hv : vsumsV l ls = .tup [.nil 2, .d (I (vsumsE l ls))] := by unfold vsumsV; rw [if_neg hE]
    have hcv : vchooseV l ls (x, y) = .tup [.d (I 0), .d (I (vsumsE l ls))] := by unfold vchooseV; rw [if_pos hE]
    refine callK_pcall (vsums_spec b c l ls hl hls hb hq) rfl (by rw [hv]; rfl) ?_
    rw [hv, hcv]
    simp -implicitDefEqProofs [↓gd_tt, ↓gd_ff, ↓gd_tf, ↓gd_ft, hE]
  have hv : vsumsV l ls = .tup [.d (encVs false (sumsL l (usesL ls))), .d (I 0)] := by unfold vsumsV; rw [if_pos hE]
  refine callK_pcall (vsums_spec b c l ls hl hls hb hq) rfl (by rw [hv]; rfl) ?_
  rw [hv]
  simp -implicitDefEqProofs [↓gd_tt, ↓gd_ff, ↓gd_tf, ↓gd_ft]
  refine callK_pcall (vgood_spec x y) rfl rfl ?_
  by_cases hg : good x y = true
  case neg =>
    have hcv : vchooseV l ls (x, y) = .tup [.d (I 0), .d (I 1)] := by unfold vchooseV; rw [if_neg (by simp [hE]), if_pos (by simpa using hg)]
    rw [hcv]
    simp -implicitDefEqProofs [↓gd_tt, ↓gd_ff, ↓gd_tf, ↓gd_ft, hg]
  have hEl : vsumsE l (liveL ls) = 0 := vsums_filter _ hE
  have hcv : vchooseV l ls (x, y) = if (runC l (sumsL l (usesL (liveL ls))) (x, y) (liveL ls)).1 < 0 then .tup [.d (I 0), .d (I 8)] else .tup [.d (I (runC l (sumsL l (usesL (liveL ls))) (x, y) (liveL ls)).2), .d (I 0)] := by
    unfold vchooseV; rw [if_neg (by simp [hE]), if_neg (by simpa using hg)]
  rw [hcv]
  have hvl : vsumsV l (liveL ls) = .tup [.d (encVs false (sumsL l (usesL (liveL ls)))), .d (I 0)] := by unfold vsumsV; rw [if_pos hEl]
  have hql : ∀ x ∈ liveL ls, In64 x.q := fun x hx => hq x (List.mem_filter.1 hx).1
  have hll := liveL_len ls
  obtain ⟨hc, hu, hs⟩ := vsums_zero.1 hEl
  obtain ⟨o1, o2⟩ := ok_of hu
  obtain ⟨_, _, ho⟩ := sumsE_zero.1 hs
  have hpl := lease_place hEl
  have hsg : ∀ j (h : j < (sumsL l (usesL (liveL ls))).length), good (sumsL l (usesL (liveL ls)))[j].1 (sumsL l (usesL (liveL ls)))[j].2 = true := fun j h => by
    have h' : j < l.length := by simpa [sumsL] using h
    have := overs_iff.1 ho l[j] (List.getElem_mem h')
    simpa [sumsL, goodP] using this
  have hsl : (sumsL l (usesL (liveL ls))).length = l.length := by simp [sumsL]
  have hvp : (vsumsV l (liveL ls)).permP := by
    rw [hvl]
    intro w hw'
    simp only [List.mem_cons, List.not_mem_nil, or_false] at hw'
    rcases hw' with rfl | rfl
    · exact ⟨rfl, permL_map (f := encV) fun v _ => ⟨trivial, trivial, trivial⟩⟩
    · trivial
  simp -implicitDefEqProofs [↓gd_tt, ↓gd_ff, ↓gd_tf, ↓gd_ft, hg]
  by_cases hne : ls = []
  case pos =>
    subst hne
    have hL0 : liveL [] = [] := rfl
    have hrc : runC l (sumsL l (usesL (liveL []))) (x, y) (liveL []) = (-1, 0) := rfl
    rw [hrc]
    have hvs := vsums_spec b false l [] hl (by simp) (by simp) (by simp)
    have hvs2 := vsums_spec b true l [] hl (by simp) (by simp) (by simp)
    rw [hL0] at hvl hvp
    refine clonels_nil c ?_ ?_
    · simp -implicitDefEqProofs [↓gd_tt, ↓gd_ff, ↓gd_tf, ↓gd_ft]
      refine deletels_nil (by simp) ?_
      simp -implicitDefEqProofs [↓gd_tt, ↓gd_ff, ↓gd_tf, ↓gd_ft]
      refine callK_pcall hvs (by simp) (by rw [hvl]; rfl) ?_
      rw [hvl]
      simp -implicitDefEqProofs [↓gd_tt, ↓gd_ff, ↓gd_tf, ↓gd_ft]
      refine loopA mixed [false, false, false, false, false, false, false, false, false, false, false, false, false, true, true, false, true, true, true, true, false, false, false, false, false, false, false, false, false, false, false, false, false, false, false, false, false, false, false, false, false, false, false, true, true, true, true, true, true, true, true, true, true, true, true, true, true, true, true, true, true, true, true, true, true, true, true, true, true, true, true, true, true, true, true, true, true, true, true, true, true, true, true, true, true, true, true, true, true, true, true, true, true, true, true, true, true, true, true, true, true, true, true, true, true, true, true, true, true, true, true, true, true, true, true, true, true, true, true, true, true, true, true, true, true, true, true, true, true] (fun (i : Nat) => [(43, .d (I i)), (13, .d (I (-1))), (14, .d (I 0))]) (fun (i : Nat) => [.var [.d (I x), .d (I y)]]) (fun (i : Nat) => i = 0) (fun (i : Nat) => 0) (0) (rfl) (by simp) ?_
      rintro i hx
      subst hx
      simp -implicitDefEqProofs [↓gd_tt, ↓gd_ff, ↓gd_tf, ↓gd_ft]
    · simp -implicitDefEqProofs [↓gd_tt, ↓gd_ff, ↓gd_tf, ↓gd_ft]
      refine deletels_e x y ?_
      simp -implicitDefEqProofs [↓gd_tt, ↓gd_ff, ↓gd_tf, ↓gd_ft]
      refine callK_lend hvs2 (by simp) (by rw [hvl]; rfl) hvp ?_
      rw [hvl]
      simp -implicitDefEqProofs [↓gd_tt, ↓gd_ff, ↓gd_tf, ↓gd_ft]
      refine loopA mixed [false, false, false, false, false, false, false, false, false, false, false, false, false, true, true, false, true, true, true, true, false, false, false, false, false, false, false, false, false, false, false, false, false, false, false, false, false, false, false, false, false, false, false, true, true, true, true, true, true, true, true, true, true, true, true, true, true, true, true, true, true, true, true, true, true, true, true, true, true, true, true, true, true, true, true, true, true, true, true, true, true, true, true, true, true, true, true, true, true, true, true, true, true, true, true, true, true, true, true, true, true, true, true, true, true, true, true, true, true, true, true, true, true, true, true, true, true, true, true, true, true, true, true, true, true, true, true, true, true] (fun (i : Nat) => [(43, .d (I i)), (13, .d (I (-1))), (14, .d (I 0))]) (fun (i : Nat) => [.var [.d (I x), .d (I y)], .arr 8 []]) (fun (i : Nat) => i = 0) (fun (i : Nat) => 0) (0) (rfl) (by simp) ?_
      rintro i hx
      subst hx
      simp -implicitDefEqProofs [↓gd_tt, ↓gd_ff, ↓gd_tf, ↓gd_ft]
  have hpos : 0 < ls.length := List.length_pos_iff.2 hne
  refine clonels_mem c ls hpos hb (fun cap rest h1 h2 => ?_)
  simp -implicitDefEqProofs [↓gd_tt, ↓gd_ff, ↓gd_tf, ↓gd_ft]
  refine deletels_mem x y ls ls.length cap _ rfl hls h1 (by simp; omega) (by simp) (fun ys hy1 hy2 => ?_)
  have hvs := vsums_spec b true l (liveL ls) hl (by omega) (by omega) hql
  have hyl : cap ≤ ys.length := by rw [hy1]; simp; omega
  have hlc : (liveL ls).length ≤ cap := by omega
  simp -implicitDefEqProofs [↓gd_tt, ↓gd_ff, ↓gd_tf, ↓gd_ft]
  refine callK_lend hvs (by simp [hyl, hlc, hy2]) (by rw [hvl]; rfl) hvp ?_
  rw [hvl]
  generalize hM : sumsL l (usesL (liveL ls)) = M at *
  generalize hL : liveL ls = L at *
  simp -implicitDefEqProofs [↓gd_tt, ↓gd_ff, ↓gd_tf, ↓gd_ft]
  refine loopA mixed [false, false, false, false, false, false, false, false, false, false, false, false, false, true, true, false, true, true, true, true, false, false, false, false, false, false, false, false, false, false, false, false, false, false, false, false, false, false, false, false, false, false, false, true, true, true, true, true, true, true, true, true, true, true, true, true, true, true, true, true, true, true, true, true, true, true, true, true, true, true, true, true, true, true, true, true, true, true, true, true, true, true, true, true, true, true, true, true, true, true, true, true, true, true, true, true, true, true, true, true, true, true, true, true, true, true, true, true, true, true, true, true, true, true, true, true, true, true, true, true, true, true, true, true, true, true, true, true, true] (fun (i : Nat) => [(43, .d (I i)), (13, .d (I (runC l M (x, y) (L.take i)).1)), (14, .d (I (runC l M (x, y) (L.take i)).2))]) (fun (i : Nat) => [.var [.d (I x), .d (I y)], .arr 8 [], .arr 8 ys]) (fun (i : Nat) => i ≤ L.length) (fun (i : Nat) => L.length - i) (0) (Nat.zero_le _) (by simp [runC]) ?_
  rintro i hx
  rcases Nat.lt_or_eq_of_le hx with h | h
  case inr =>
    have htk : L.take i = L := by rw [h]; exact List.take_length
    rw [htk]
    by_cases hbs : (runC l M (x, y) L).1 < 0
    · simp -implicitDefEqProofs [↓gd_tt, ↓gd_ff, ↓gd_tf, ↓gd_ft, h, hbs]
    · simp -implicitDefEqProofs [↓gd_tt, ↓gd_ff, ↓gd_tf, ↓gd_ft, h, hbs]
  have hr := take_read hy2 rfl h
  obtain ⟨j, hj, hpj, hidj⟩ := hpl _ (List.getElem_mem h)
  have hst := runC_take (l := l) (M := M) (t := (x, y)) h
  have hrng := runC_range (l := l) (M := M) (t := (x, y)) (L.take i) fun z hz => by
    obtain ⟨a, b, c, _⟩ := hpl z (List.mem_of_mem_take hz)
    exact ⟨a, b, c⟩
  generalize runC l M (x, y) (L.take i) = s at *
  obtain ⟨bs, tk⟩ := s
  simp only at hrng hst
  have hjM : j < M.length := by omega
  have hgj := good_iff.1 (hsg j hjM)
  have hcsn := okLe_iff.1 (o1 _ (List.getElem_mem h))
  have hvat := vat_spec b l L[i].q hl
  rw [hpj] at hvat
  have hcost := cost_spec L[i]
  have hfit := vfits_spec l[j].MC l[j].MM (M[j].1 - L[i].cs.length) (M[j].2 - L[i].m)
  have w1 : IntKind.i64.wrap (M[j].1 - L[i].cs.length) = M[j].1 - L[i].cs.length := wrap_i64 (by omega) (by omega)
  have w2 : IntKind.i64.wrap (M[j].2 - L[i].m) = M[j].2 - L[i].m := wrap_i64 (by omega) (by omega)
  have hiy : i < ys.length := by omega
  have hic : i < cap := by omega
  have hrg : ys[i] = encLe L[i] := by have := List.getElem?_eq_getElem hiy; rw [hr] at this; exact (Option.some.inj this).symm
  have hwi := wrap1 (show L.length ≤ maxLen by omega) h
  have gl : l.getD j q0 = l[j] := by simp [hj]
  have gM : M.getD j (0, 0) = M[j] := by simp [hjM]
  unfold stepC at hst
  rw [hpj] at hst
  simp only [Int.toNat_natCast, gl, gM] at hst
  simp -implicitDefEqProofs [↓gd_tt, ↓gd_ff, ↓gd_tf, ↓gd_ft, h, hic, hiy, hr, hrg, hlc, hyl]
  refine free_pcall hvat rfl rfl ?_
  simp -implicitDefEqProofs [↓gd_tt, ↓gd_ff, ↓gd_tf, ↓gd_ft]
  refine free_pcall hcost rfl rfl ?_
  simp -implicitDefEqProofs [↓gd_tt, ↓gd_ff, ↓gd_tf, ↓gd_ft, hj, hjM, w1, w2]
  refine free_pcall hfit rfl rfl ?_
  cases hf : fits l[j].MC l[j].MM (M[j].1 - L[i].cs.length) (M[j].2 - L[i].m) with
  | false =>
    rw [if_pos hf] at hst
    simp -implicitDefEqProofs [↓gd_tt, ↓gd_ff, ↓gd_tf, ↓gd_ft, hwi]
    exact ⟨i + 1, by omega, by omega, by rw [hst], by rw [hst], rfl⟩
  | true =>
    rw [if_neg (by rw [hf]; decide)] at hst
    rcases hrng with rfl | ⟨bj, hbj, rfl⟩
    · rw [if_neg (by omega), if_pos (.inl (by omega))] at hst
      simp -implicitDefEqProofs [↓gd_tt, ↓gd_ff, ↓gd_tf, ↓gd_ft, hwi, show ¬ (j : Int) = -1 by omega]
      exact ⟨i + 1, by omega, by omega, by rw [hst], by rw [hst], rfl⟩
    · have gbl : l.getD bj q0 = l[bj] := by simp [hbj]
      have hbM : bj < M.length := by omega
      have gbM : M.getD bj (0, 0) = M[bj] := by simp [hbM]
      simp only [Int.toNat_natCast, gbl, gbM] at hst
      by_cases hjb : j = bj
      · subst hjb
        rw [if_neg (by omega)] at hst
        by_cases ht : tk < L[i].t
        · rw [if_pos (.inr ht)] at hst
          simp -implicitDefEqProofs [↓gd_tt, ↓gd_ff, ↓gd_tf, ↓gd_ft, hwi, ht]
          exact ⟨i + 1, by omega, by omega, by rw [hst], by rw [hst], rfl⟩
        · rw [if_neg (by omega)] at hst
          simp -implicitDefEqProofs [↓gd_tt, ↓gd_ff, ↓gd_tf, ↓gd_ft, hwi, ht]
          exact ⟨i + 1, by omega, by omega, by rw [hst], by rw [hst], rfl⟩
      · have hord := order_spec M[j] M[bj] (x, y) l[j].Wt l[bj].Wt (hsg j hjM) (hsg bj hbM) hg (check_wt hc hj) (check_wt hc hbj)
        have hjb' : ¬ (j : Int) = (bj : Int) := by omega
        have hjb2 : ¬ bj = j := fun e => hjb e.symm
        have hb0 : ¬ (bj : Int) < 0 := by omega
        simp -implicitDefEqProofs [↓gd_tt, ↓gd_ff, ↓gd_tf, ↓gd_ft, hjb, hjb', hjb2, hj, hjM, hbj, hbM, hb0]
        refine free_pcall hord rfl rfl ?_
        generalize ordZ M[j] l[j].Wt M[bj] l[bj].Wt (x, y) = o at *
        by_cases o0 : o < 0
        · rw [if_pos ⟨by omega, hjb', .inl o0⟩] at hst
          simp -implicitDefEqProofs [↓gd_tt, ↓gd_ff, ↓gd_tf, ↓gd_ft, hjb, hjb', hjb2, hb0, o0, hwi]
          exact ⟨i + 1, by omega, by omega, by rw [hst], by rw [hst], rfl⟩
        · by_cases o1' : o = 0
          · by_cases hlt : bj < j
            · rw [if_pos ⟨by omega, hjb', .inr ⟨o1', by omega⟩⟩] at hst
              simp -implicitDefEqProofs [↓gd_tt, ↓gd_ff, ↓gd_tf, ↓gd_ft, hjb, hjb', hjb2, hb0, o0, o1', hlt, hwi]
              exact ⟨i + 1, by omega, by omega, by rw [hst], by rw [hst], rfl⟩
            · rw [if_neg (by omega), if_pos (.inl hjb')] at hst
              simp -implicitDefEqProofs [↓gd_tt, ↓gd_ff, ↓gd_tf, ↓gd_ft, hjb, hjb', hjb2, hb0, o0, o1', hlt, hwi]
              exact ⟨i + 1, by omega, by omega, by rw [hst], by rw [hst], rfl⟩
          · rw [if_neg (by omega), if_pos (.inl hjb')] at hst
            simp -implicitDefEqProofs [↓gd_tt, ↓gd_ff, ↓gd_tf, ↓gd_ft, hjb, hjb', hjb2, hb0, o0, o1', hwi]
            exact ⟨i + 1, by omega, by omega, by rw [hst], by rw [hst], rfl⟩
end Go.Idl
