/- The statement QueueRooms: what it computes. -/
import Derived.Test.YtdhifabhjlbjiaaQW
import Derived.Test.YtdhifabhjlbjiaaQJ
import Derived.Test.YtdhifabhjlbjiaaPT
set_option linter.all false
namespace Go.Idl
open Go.Proofs
set_option linter.unusedSimpArgs false
set_option linter.unusedVariables false
set_option maxRecDepth 8000

/-- do the first sums fit in their quotas, of those that are on the way? -/
def fitsTo (l : List Q) (us : List U) (leaf : Int) (i : Nat) : Bool := (l.take i).all fun q => !(decide (q.Id ∈ path l leaf)) || fits (tot l us q.Id).1 (tot l us q.Id).2 q.QC q.QM
theorem fitsTo_succ {l : List Q} {us : List U} {leaf : Int} {i : Nat} (h : i < l.length) : fitsTo l us leaf (i + 1) = (fitsTo l us leaf i && (!(decide (l[i].Id ∈ path l leaf)) || fits (tot l us l[i].Id).1 (tot l us l[i].Id).2 l[i].QC l[i].QM)) := by
  unfold fitsTo
  rw [List.take_add_one, List.getElem?_eq_getElem h, Option.toList_some, List.all_append]
  simp
theorem fitsTo_all {l : List Q} {us : List U} {leaf : Int} : fitsTo l us leaf l.length = true ↔ ∀ q ∈ l, q.Id ∈ path l leaf → fits (tot l us q.Id).1 (tot l us q.Id).2 q.QC q.QM = true := by
  unfold fitsTo
  rw [List.take_length, List.all_eq_true]
  constructor
  · intro h q hq hm
    have := h q hq
    simpa [hm] using this
  · intro h q hq
    by_cases hm : q.Id ∈ path l leaf
    · simp [h q hq hm]
    · simp [hm]
set_option maxHeartbeats 4000000 in
theorem rooms_spec (l : List Q) (uses : List U) (leaf : Int) (more : Int × Int) (hl : l.length ≤ maxLen) (hr : l.length * 56 ≤ reachBytes) (hu : uses.length ≤ maxLen) (hur : uses.length * 24 ≤ reachBytes) : PCall Try.prog 17 [encL false l, encUs false uses, I leaf, encV more] (.d (.bool true)) := by
  obtain ⟨x, y⟩ := more
  have hul : (uses ++ [⟨leaf, x, y⟩] : List U).length ≤ maxLen := by
    have : reachBytes = 140737488351232 := rfl
    have : 140737488355328 ≤ maxLen := by decide
    simp; omega
  have hum : uses.map encU ++ [D.agg [I leaf, I x, I y]] = (uses ++ [⟨leaf, x, y⟩] : List U).map encU := by simp
  refine pcallS (fn := Try.f17) [] [] mixed (bodyOf Try.f17) [.tmp 8] Try.func17 rfl rfl (by decide) 91 rfl (by kernel_rfl) ?_
  simp -implicitDefEqProofs [↓gd_tt, ↓gd_ff, ↓gd_tf, ↓gd_ft, bodyOf, Try.f17, stripC, stripL, stripM, onsOf, upto, hintOf, freeOf, List.replicate]
  refine callK_pcall awake_spec rfl rfl ?_
  simp -implicitDefEqProofs [↓gd_tt, ↓gd_ff, ↓gd_tf, ↓gd_ft]
  refine callK_pcall (qroom_spec false false l uses leaf x y hl hu) rfl rfl ?_
  simp -implicitDefEqProofs [↓gd_tt, ↓gd_ff, ↓gd_tf, ↓gd_ft]
  have hb : reachBytes = 140737488351232 := rfl
  refine ⟨by omega, by omega, free_pcall (r := sumsV l (uses ++ [⟨leaf, x, y⟩])) (qsums_spec false false l (uses ++ [⟨leaf, x, y⟩]) hl hul) (by simp) (by unfold sumsV; split <;> rfl) ?_⟩
  by_cases hs : sumsE l (uses ++ [⟨leaf, x, y⟩]) = 0
  case neg =>
    have hv : sumsV l (uses ++ [⟨leaf, x, y⟩]) = .tup [.nil 2, .d (I (sumsE l (uses ++ [⟨leaf, x, y⟩])))] := by simp [sumsV, hs]
    rw [hv]
    simp -implicitDefEqProofs [↓gd_tt, ↓gd_ff, ↓gd_tf, ↓gd_ft, hs, room_bad hs]
  have hv : sumsV l (uses ++ [⟨leaf, x, y⟩]) = .tup [.d (encVs false (sumsL l (uses ++ [⟨leaf, x, y⟩]))), .d (I 0)] := by simp [sumsV, hs]
  rw [hv]
  obtain ⟨r1, r2, r3, r4⟩ := room_sums hs
  have hc := (sumsE_zero.1 hs).1
  have h64 := check_len hc
  have hro := room_ok hs
  have ht : there l leaf = 0 := there_zero.2 ⟨hc, r2⟩
  have eP : pathV l leaf = .tup [.d (encI false (path l leaf)), .d (I 0)] := by simp [pathV, ht]
  simp -implicitDefEqProofs [↓gd_tt, ↓gd_ff, ↓gd_tf, ↓gd_ft]
  refine callK_pcall (qpath_spec false l leaf hl) rfl (by rw [eP]; rfl) ?_
  rw [eP]
  simp -implicitDefEqProofs [↓gd_tt, ↓gd_ff, ↓gd_tf, ↓gd_ft]
  refine loopA mixed [false, false, false, false, false, false, false, false, false, false, false, false, false, true, true, true, false, false, false, false, false, false, false, false, false, false, false, false, false, false, false, false, false, false, false, false, false, false, false, false, false, false, false, false, false, false, false, false, false, false, true, true, true, true, true, true, true, true, true, true, true, true, true, true, true, true, true, true, true, true, true, true, true, true, true, true, true, true, true, true, true, true] (fun (i : Nat) => [(13, .d (.bool (fitsTo l (uses ++ [⟨leaf, x, y⟩]) leaf i))), (50, .d (I i))]) (fun (i : Nat) => [.var [.d (I x), .d (I y)]]) (fun (i : Nat) => i ≤ l.length) (fun (i : Nat) => l.length - i) (0) (Nat.zero_le _) (by simp [fitsTo]) ?_
  rintro i hx
  rcases Nat.lt_or_eq_of_le hx with h | h
  · have hsl : i < (sumsL l (uses ++ [⟨leaf, x, y⟩])).length := by simpa [sumsL] using h
    have hval : (sumsL l (uses ++ [⟨leaf, x, y⟩]))[i] = tot l (uses ++ [⟨leaf, x, y⟩]) l[i].Id := by simp [sumsL]
    have hsu := fitsTo_succ (us := uses ++ [⟨leaf, x, y⟩]) (leaf := leaf) h
    simp -implicitDefEqProofs [↓gd_tt, ↓gd_ff, ↓gd_tf, ↓gd_ft, h]
    refine free_pcall (nhas_spec false (path l leaf) l[i].Id (by have := path_len l leaf; omega)) rfl rfl ?_
    simp -implicitDefEqProofs [↓gd_tt, ↓gd_ff, ↓gd_tf, ↓gd_ft, hsl, hval, wrap1 hl h, h]
    refine ⟨fun e1 => ⟨fun e2 => ⟨fun e3 => ⟨i + 1, by omega, by omega, ?_, rfl⟩, fun e3 => ⟨i + 1, by omega, by omega, ?_, rfl⟩⟩, fun e2 => ⟨i + 1, by omega, by omega, ?_, rfl⟩⟩, fun e1 => ⟨i + 1, by omega, by omega, ?_, rfl⟩⟩
    · have : ¬ (tot l (uses ++ [⟨leaf, x, y⟩]) l[i].Id).2 ≤ l[i].QM := by omega
      rw [hsu]; simp [fits, e1, this]
    · rw [hsu]; simp [fits, e1, e2, e3]
    · have : ¬ (tot l (uses ++ [⟨leaf, x, y⟩]) l[i].Id).1 ≤ l[i].QC := by omega
      rw [hsu]; simp [fits, e1, this]
    · rw [hsu]; simp [e1]
  · simp -implicitDefEqProofs [↓gd_tt, ↓gd_ff, ↓gd_tf, ↓gd_ft, h]
    by_cases hft : fitsTo l (uses ++ [⟨leaf, x, y⟩]) leaf l.length = true
    · rw [if_pos (fitsTo_all.1 hft)] at hro
      simp [hft, hro]
    · rw [if_neg fun k => hft (fitsTo_all.2 k)] at hro
      have hft' : fitsTo l (uses ++ [⟨leaf, x, y⟩]) leaf l.length = false := by simpa using hft
      simp [hft', hro]
end Go.Idl
