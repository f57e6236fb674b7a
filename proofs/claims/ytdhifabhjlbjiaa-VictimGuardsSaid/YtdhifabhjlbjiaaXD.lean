/- The program's victims: the leases that live, in memory. -/
import Derived.Test.YtdhifabhjlbjiaaXC
set_option linter.all false
namespace Go.Idl
open Go.Proofs
set_option linter.unusedSimpArgs false
set_option linter.unusedVariables false
set_option maxRecDepth 8000
set_option maxHeartbeats 2000000
variable (b c : Bool)

theorem clonels_mem {hp : List IObj} {K : V → List IObj → Prop} (ls : List Le) (hl : 0 < ls.length) (hb : ls.length * 80 ≤ reachBytes) (hk : ∀ cap rest, ls.length ≤ cap → ls.length + rest.length = cap → K (.ref (hp.length + 1) 8 0 ls.length cap) (hp ++ [.arr 8 [], .arr 8 (ls.map encLe ++ rest)])) :
    CallK Try.prog 148 [.d (encLs b ls)] hp K := by
  have hrb : reachBytes = 140737488351232 := rfl
  refine callS (fn := Try.f148) [(5, 1)] [] mixed (bodyOf Try.f148) [.tmp 2] Try.func148 rfl rfl (by decide) 7 rfl (by kernel_rfl) ?_
  simp -implicitDefEqProofs [↓gd_tt, ↓gd_ff, ↓gd_tf, ↓gd_ft, bodyOf, Try.f148, stripC, stripL, stripM, onsOf, upto, hintOf, freeOf, List.replicate]
  have hn : ls ≠ [] := by rintro rfl; simp at hl
  exact ⟨fun _ => ⟨by omega, fun e => absurd e hn, fun _ cap h => hk cap _ h (by simp; omega)⟩, fun e => absurd e hn⟩
theorem clonels_nil {hp : List IObj} {K : V → List IObj → Prop} (h1 : K (.nil 8) hp) (h2 : K (.ref hp.length 8 0 0 0) (hp ++ [.arr 8 []])) :
    CallK Try.prog 148 [.d (encLs b [])] hp K := by
  refine callS (fn := Try.f148) [(5, 1)] [] mixed (bodyOf Try.f148) [.tmp 2] Try.func148 rfl rfl (by decide) 7 rfl (by kernel_rfl) ?_
  simp -implicitDefEqProofs [↓gd_tt, ↓gd_ff, ↓gd_tf, ↓gd_ft, bodyOf, Try.f148, stripC, stripL, stripM, onsOf, upto, hintOf, freeOf, List.replicate]
  exact ⟨h2, h1⟩
theorem take_read {ls : List Le} {xs : List D} {n : Nat} (hx : xs.take n = ls.map encLe) (hn : n = ls.length) {i : Nat} (h : i < ls.length) : xs[i]? = some (encLe ls[i]) := by
  have := congrArg (·[i]?) hx
  simp only [List.getElem?_take_of_lt (show i < n by omega)] at this
  rw [this]; simp [h]
theorem indexst_mem (x y : Int) (ls : List Le) (n cap : Nat) (xs : List D) (hn : n = ls.length) (hl : ls.length ≤ maxLen) (hc : n ≤ cap) (hcx : cap ≤ xs.length) (hx : xs.take n = ls.map encLe) {K : V → List IObj → Prop} (hk : K (.d (I (match ls.findIdx? (·.st) with | some i => (i : Int) | none => -1))) [.var [.d (I x), .d (I y)], .arr 8 [], .arr 8 xs]) :
    CallK Try.prog 198 [.ref 2 8 0 n cap, .fn (.func 149) []] [.var [.d (I x), .d (I y)], .arr 8 [], .arr 8 xs] K := by
  refine callS (fn := Try.f198) [] [] mixed (bodyOf Try.f198) [.tmp 4] Try.func198 rfl rfl (by decide) 17 rfl (by kernel_rfl) ?_
  simp -implicitDefEqProofs [↓gd_tt, ↓gd_ff, ↓gd_tf, ↓gd_ft, bodyOf, Try.f198, stripC, stripL, stripM, onsOf, upto, hintOf, freeOf, List.replicate]
  refine loopA mixed [false, false, false, false, true, true, false, false, true, true, true, true, true, true, true, true, true, true, true] (fun (i : Nat) => [(8, .d (I i))]) (fun (i : Nat) => [.var [.d (I x), .d (I y)], .arr 8 [], .arr 8 xs]) (fun (i : Nat) => i ≤ ls.length ∧ ∀ j, j < i → ∀ h : j < ls.length, ls[j].st = false) (fun (i : Nat) => ls.length - i) (0) (⟨Nat.zero_le _, by simp⟩) (by simp) ?_
  rintro i hx
  obtain ⟨hi, hp⟩ := hx
  have hx0 := hx
  rcases Nat.lt_or_eq_of_le hi with h | h
  · have hr := take_read hx0 hn h
    have hin : i < n := by omega
    have hic : i < cap := by omega
    have hix : i < xs.length := by omega
    have hrg : xs[i] = encLe ls[i] := by have := List.getElem?_eq_getElem hix; rw [hr] at this; exact (Option.some.inj this).symm
    simp -implicitDefEqProofs [↓gd_tt, ↓gd_ff, ↓gd_tf, ↓gd_ft, hin, hic, hix, hr, hc, hcx, hrg]
    refine callK_pcall (lives_spec ls[i]) rfl rfl ?_
    simp -implicitDefEqProofs [↓gd_tt, ↓gd_ff, ↓gd_tf, ↓gd_ft, wrap1 hl h]
    refine ⟨fun e => ?_, fun e => ⟨⟨by omega, fun j hj hjl => ?_⟩, by omega⟩⟩
    · have : ls.findIdx? (·.st) = some i := List.findIdx?_eq_some_iff_getElem.2 ⟨h, e, fun j hj => by simp [hp j hj (by omega)]⟩
      rw [this] at hk
      exact hk
    · rcases Nat.lt_or_eq_of_le (Nat.le_of_lt_succ hj) with k | rfl
      · exact hp j k hjl
      · exact e
  · have : ls.findIdx? (·.st) = none := List.findIdx?_eq_none_iff.2 fun x hx => by
      obtain ⟨j, hj, rfl⟩ := List.getElem_of_mem hx
      exact hp j (by omega) hj
    rw [this] at hk
    simp -implicitDefEqProofs [↓gd_tt, ↓gd_ff, ↓gd_tf, ↓gd_ft, h, hn]
    exact hk
theorem liveL_take {ls : List Le} {i : Nat} (h : i < ls.length) : liveL (ls.take (i + 1)) = liveL (ls.take i) ++ (if ls[i].st = true then [] else [ls[i]]) := by
  unfold liveL
  rw [List.take_add_one, List.getElem?_eq_getElem h, Option.toList_some, List.filter_append]
  cases e : ls[i].st <;> simp [e]
theorem liveL_len (ls : List Le) : (liveL ls).length ≤ ls.length := List.length_filter_le _ _
theorem liveL_all {ls : List Le} (h : ∀ j (h : j < ls.length), ls[j].st = false) : liveL ls = ls := by
  unfold liveL
  rw [List.filter_eq_self]
  intro x hx
  obtain ⟨j, hj, rfl⟩ := List.getElem_of_mem hx
  rw [h j hj]; rfl
theorem deletels_mem (x y : Int) (ls : List Le) (n cap : Nat) (xs : List D) (hn : n = ls.length) (hl : ls.length ≤ maxLen) (hc : n ≤ cap) (hcx : cap ≤ xs.length) (hx : xs.take n = ls.map encLe) {K : V → List IObj → Prop}
    (hk : ∀ ys, ys.length = xs.length → ys.take (liveL ls).length = (liveL ls).map encLe → K (.ref 2 8 0 (liveL ls).length cap) [.var [.d (I x), .d (I y)], .arr 8 [], .arr 8 ys]) :
    CallK Try.prog 147 [.ref 2 8 0 n cap, .fn (.func 149) []] [.var [.d (I x), .d (I y)], .arr 8 [], .arr 8 xs] K := by
  refine callS (fn := Try.f147) [] [] mixed (bodyOf Try.f147) [.tmp 4] Try.func147 rfl rfl (by decide) 40 rfl (by kernel_rfl) ?_
  simp -implicitDefEqProofs [↓gd_tt, ↓gd_ff, ↓gd_tf, ↓gd_ft, bodyOf, Try.f147, stripC, stripL, stripM, onsOf, upto, hintOf, freeOf, List.replicate]
  refine indexst_mem x y ls n cap xs hn hl hc hcx hx ?_
  cases hf : ls.findIdx? (·.st) with
  | none =>
    have hall : liveL ls = ls := liveL_all fun j hj => by
      have := List.findIdx?_eq_none_iff.1 hf ls[j] (List.getElem_mem hj)
      simpa using this
    have := hk xs rfl (by rw [hall, ← hn]; exact hx)
    rw [hall, ← hn] at this
    simp -implicitDefEqProofs [↓gd_tt, ↓gd_ff, ↓gd_tf, ↓gd_ft]
    exact this
  | some i0 =>
    obtain ⟨h0, hst0, hbef⟩ := List.findIdx?_eq_some_iff_getElem.1 hf
    have hw0 := wrap1 hl h0
    have hneg : ¬ ((i0 : Int) = -1) := by omega
    have hl0 : liveL (ls.take i0) = ls.take i0 := liveL_all fun j hj => by
      simp only [List.length_take] at hj
      rw [List.getElem_take]
      have := hbef j (by omega)
      simpa using this
    have hl1 : liveL (ls.take (i0 + 1)) = ls.take i0 := by rw [liveL_take h0, if_pos hst0, List.append_nil, hl0]
    simp -implicitDefEqProofs [↓gd_tt, ↓gd_ff, ↓gd_tf, ↓gd_ft, hneg, hw0]
    refine loopA mixed [false, false, false, false, false, true, true, true, false, false, false, false, false, false, false, false, true, true, true, true, true, true, true, true, true, true, true, true, true, true, true, true, true, true, true, true] (fun (p : Nat × List D) => [(5, .d (I (liveL (ls.take p.1)).length)), (6, .d (I p.1))]) (fun (p : Nat × List D) => [.var [.d (I x), .d (I y)], .arr 8 [], .arr 8 p.2]) (fun (p : Nat × List D) => i0 < p.1 ∧ p.1 ≤ ls.length ∧ p.2.length = xs.length ∧ (liveL (ls.take p.1)).length < p.1 ∧ p.2.take (liveL (ls.take p.1)).length = (liveL (ls.take p.1)).map encLe ∧ ∀ t, p.1 ≤ t → p.2[t]? = xs[t]?) (fun (p : Nat × List D) => ls.length - p.1) ((i0 + 1, xs)) (⟨by omega, by omega, rfl, by rw [hl1]; simp; omega, by rw [hl1, List.length_take, Nat.min_eq_left (by omega), List.map_take, ← hx, List.take_take, Nat.min_eq_left (by omega)], fun t _ => rfl⟩) (by simp [hl1]; omega) ?_
    rintro p hx
    obtain ⟨j, ys⟩ := p
    obtain ⟨q1, q2, q3, q4, q5, q6⟩ := hx
    have hx0 := hx
    simp only at q1 q2 q3 q4 q5 q6
    have hcy : cap ≤ ys.length := by omega
    rcases Nat.lt_or_eq_of_le q2 with h | h
    · have hr := take_read hx0 hn h
      rw [← q6 j (Nat.le_refl _)] at hr
      have hjn : j < n := by omega
      have hjc : j < cap := by omega
      have hjy : j < ys.length := by omega
      have hrg : ys[j] = encLe ls[j] := by have := List.getElem?_eq_getElem hjy; rw [hr] at this; exact (Option.some.inj this).symm
      have hlt := liveL_take h
      have hwj := wrap1 hl h
      have hjn' : (j : Int) < (n : Int) := by omega
      simp -implicitDefEqProofs [↓gd_tt, ↓gd_ff, ↓gd_tf, ↓gd_ft, hjn, hjn', hjc, hjy, hr, hc, hcy, hrg]
      refine callK_pcall (lives_spec ls[j]) rfl rfl ?_
      cases hst : ls[j].st with
      | true =>
        rw [if_pos hst, List.append_nil] at hlt
        simp -implicitDefEqProofs [↓gd_tt, ↓gd_ff, ↓gd_tf, ↓gd_ft, hwj]
        exact ⟨j + 1, ys, ⟨by omega, by omega, q3, by rw [hlt]; omega, by rw [hlt]; exact q5, fun t ht => q6 t (by omega)⟩, by omega, ⟨by rw [hlt], rfl⟩, rfl⟩
      | false =>
        rw [if_neg (by rw [hst]; decide)] at hlt
        generalize liveL (ls.take j) = L at *
        have hLn : L.length < n := by omega
        have hLn' : (L.length : Int) < (n : Int) := by omega
        have hLc : L.length < cap := by omega
        have hLy : L.length < ys.length := by omega
        have hwL : IntKind.i64.wrap ((L.length : Int) + 1) = ((L.length + 1 : Nat) : Int) := wrap1 hl (by omega)
        simp -implicitDefEqProofs [↓gd_tt, ↓gd_ff, ↓gd_tf, ↓gd_ft, hwj, hLn, hLn', hLc, hLy, hc, hcy, hwL]
        refine ⟨j + 1, _, ⟨by omega, by omega, by simp [q3], by rw [hlt]; simp; omega, ?_, fun t ht => by rw [List.getElem?_set_ne (by omega)]; exact q6 t (by omega)⟩, by omega, ⟨by rw [hlt]; simp, rfl⟩, rfl⟩
        rw [hlt, List.length_append, List.length_singleton, List.take_add_one, List.take_set_of_le (Nat.le_refl _), q5, List.getElem?_set_self hLy, List.map_append]
        simp [hst]
    · have htk : ls.take j = ls := by rw [h]; exact List.take_length
      rw [htk] at q4 q5
      have hln := liveL_len ls
      have hjn : ¬ (ls.length : Int) < (n : Int) := by omega
      simp -implicitDefEqProofs [↓gd_tt, ↓gd_ff, ↓gd_tf, ↓gd_ft, h, hjn]
      refine ⟨by omega, by omega, by omega, by omega, by omega, hk _ (by simp; omega) ?_⟩
      rw [List.take_append_of_le_length (by simp; omega), List.take_take, Nat.min_self]
      exact q5
theorem indexst_e (x y : Int) {K : V → List IObj → Prop} (hk : K (.d (I (-1))) [.var [.d (I x), .d (I y)], .arr 8 []]) :
    CallK Try.prog 198 [.ref 1 8 0 0 0, .fn (.func 149) []] [.var [.d (I x), .d (I y)], .arr 8 []] K := by
  refine callS (fn := Try.f198) [] [] mixed (bodyOf Try.f198) [.tmp 4] Try.func198 rfl rfl (by decide) 17 rfl (by kernel_rfl) ?_
  simp -implicitDefEqProofs [↓gd_tt, ↓gd_ff, ↓gd_tf, ↓gd_ft, bodyOf, Try.f198, stripC, stripL, stripM, onsOf, upto, hintOf, freeOf, List.replicate]
  refine loopA mixed [false, false, false, false, true, true, false, false, true, true, true, true, true, true, true, true, true, true, true] (fun (i : Nat) => [(8, .d (I i))]) (fun (i : Nat) => [.var [.d (I x), .d (I y)], .arr 8 []]) (fun (i : Nat) => i = 0) (fun (i : Nat) => 0) (0) (rfl) (by simp) ?_
  rintro i hx
  subst hx
  simp -implicitDefEqProofs [↓gd_tt, ↓gd_ff, ↓gd_tf, ↓gd_ft]
  exact hk
theorem deletels_e (x y : Int) {K : V → List IObj → Prop} (hk : K (.ref 1 8 0 0 0) [.var [.d (I x), .d (I y)], .arr 8 []]) :
    CallK Try.prog 147 [.ref 1 8 0 0 0, .fn (.func 149) []] [.var [.d (I x), .d (I y)], .arr 8 []] K := by
  refine callS (fn := Try.f147) [] [] mixed (bodyOf Try.f147) [.tmp 4] Try.func147 rfl rfl (by decide) 40 rfl (by kernel_rfl) ?_
  simp -implicitDefEqProofs [↓gd_tt, ↓gd_ff, ↓gd_tf, ↓gd_ft, bodyOf, Try.f147, stripC, stripL, stripM, onsOf, upto, hintOf, freeOf, List.replicate]
  refine indexst_e x y ?_
  simp -implicitDefEqProofs [↓gd_tt, ↓gd_ff, ↓gd_tf, ↓gd_ft]
  exact hk
theorem deletels_nil {hp : List IObj} {K : V → List IObj → Prop} (hlo : ltObjs hp.length hp = true) (hk : K (.nil 8) hp) :
    CallK Try.prog 147 [.nil 8, .fn (.func 149) []] hp K := by
  refine callS (fn := Try.f147) [] [] mixed (bodyOf Try.f147) [.tmp 4] Try.func147 rfl rfl (by decide) 40 rfl (by kernel_rfl) ?_
  simp -implicitDefEqProofs [↓gd_tt, ↓gd_ff, ↓gd_tf, ↓gd_ft, bodyOf, Try.f147, stripC, stripL, stripM, onsOf, upto, hintOf, freeOf, List.replicate]
  refine callK_fcall (indexst_spec false [] (by simp)) (by simp) (by simp) (by simp [hlo]) (by simp) rfl ?_
  simp -implicitDefEqProofs [↓gd_tt, ↓gd_ff, ↓gd_tf, ↓gd_ft]
  exact hk
end Go.Idl
