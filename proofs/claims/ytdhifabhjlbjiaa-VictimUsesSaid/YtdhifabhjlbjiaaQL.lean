/- What the statements on queues themselves compute: same, Ints, Has. -/
import Derived.Test.YtdhifabhjlbjiaaQC
set_option linter.all false
namespace Go.Idl
open Go.Proofs
set_option linter.unusedSimpArgs false
set_option linter.unusedVariables false
set_option maxRecDepth 8000
set_option maxHeartbeats 1000000
variable (b c : Bool)

theorem eqQ (x y : Q) : eqAt [.int .i64 x.Id, .int .i64 x.Par, .int .i64 x.Wt, .int .i64 x.QC, .int .i64 x.QM, .int .i64 x.MC, .int .i64 x.MM] [.int .i64 y.Id, .int .i64 y.Par, .int .i64 y.Wt, .int .i64 y.QC, .int .i64 y.QM, .int .i64 y.MC, .int .i64 y.MM] [(0, 0), (1, 0), (2, 0), (3, 0), (4, 0), (5, 0), (6, 0)] = some (decide (x = y)) := by
  cases x; cases y
  simp [eqAt]
theorem take_one {α : Type} {l m : List α} {i : Nat} (h : i < l.length) (h' : i < m.length) (hp : l.take i = m.take i) (e : l[i] = m[i]) : l.take (i + 1) = m.take (i + 1) := by
  rw [List.take_add_one, List.take_add_one, hp, List.getElem?_eq_getElem h, List.getElem?_eq_getElem h', e]
theorem same_spec (l m : List Q) (hl : l.length ≤ maxLen) : PCall Try.prog 39 [encL b l, encL c m] (.d (.bool (decide (l = m)))) := by
  refine pcallS (fn := Try.f39) [] [] mixed (bodyOf Try.f39) [.tmp 4] Try.func39 rfl rfl (by decide) 24 rfl (by kernel_rfl) ?_
  simp -implicitDefEqProofs [↓gd_tt, ↓gd_ff, ↓gd_tf, ↓gd_ft, bodyOf, Try.f39, stripC, stripL, stripM, onsOf, upto, hintOf, freeOf, List.replicate]
  refine ⟨fun h => ?_, fun h => ?_⟩
  · rintro rfl; exact h rfl
  have hlm : l.length = m.length := by omega
  refine loopA mixed [false, false, false, false, true, true, false, false, false, false, false, false, false, true, true, true, true, true, true, true, true, true, true, true, true, true] (fun (i : Nat) => [(13, .d (I i))]) (fun (i : Nat) => []) (fun (i : Nat) => i ≤ l.length ∧ l.take i = m.take i) (fun (i : Nat) => l.length - i) (0) (⟨Nat.zero_le _, rfl⟩) (by simp) ?_
  rintro i hx
  obtain ⟨hi, hp⟩ := hx
  rcases Nat.lt_or_eq_of_le hi with h | h
  · have h' : i < m.length := by omega
    simp -implicitDefEqProofs [↓gd_tt, ↓gd_ff, ↓gd_tf, ↓gd_ft, h, h', wrap1 hl h, eqQ]
    refine ⟨fun e => by rintro rfl; exact e rfl, fun e => ⟨⟨by omega, take_one h h' hp e⟩, by omega⟩⟩
  · simp -implicitDefEqProofs [↓gd_tt, ↓gd_ff, ↓gd_tf, ↓gd_ft, h]
    rw [h, List.take_length, hlm, List.take_length] at hp
    exact hp

theorem ints_spec (l m : List Int) (hl : l.length ≤ maxLen) : PCall Try.prog 40 [encI b l, encI c m] (.d (.bool (decide (l = m)))) := by
  refine pcallS (fn := Try.f40) [] [] mixed (bodyOf Try.f40) [.tmp 4] Try.func40 rfl rfl (by decide) 24 rfl (by kernel_rfl) ?_
  simp -implicitDefEqProofs [↓gd_tt, ↓gd_ff, ↓gd_tf, ↓gd_ft, bodyOf, Try.f40, stripC, stripL, stripM, onsOf, upto, hintOf, freeOf, List.replicate]
  refine ⟨fun h => by rintro rfl; exact h rfl, fun h => ?_⟩
  have hlm : l.length = m.length := by omega
  refine loopA mixed [false, false, false, false, true, true, false, false, false, false, false, false, false, true, true, true, true, true, true, true, true, true, true, true, true, true] (fun (i : Nat) => [(13, .d (I i))]) (fun (i : Nat) => []) (fun (i : Nat) => i ≤ l.length ∧ l.take i = m.take i) (fun (i : Nat) => l.length - i) (0) (⟨Nat.zero_le _, rfl⟩) (by simp) ?_
  rintro i hx
  obtain ⟨hi, hp⟩ := hx
  rcases Nat.lt_or_eq_of_le hi with h | h
  · have h' : i < m.length := by omega
    simp -implicitDefEqProofs [↓gd_tt, ↓gd_ff, ↓gd_tf, ↓gd_ft, h, h', wrap1 hl h]
    refine ⟨fun e => by rintro rfl; exact e rfl, fun e => ⟨⟨by omega, take_one h h' hp e⟩, by omega⟩⟩
  · simp -implicitDefEqProofs [↓gd_tt, ↓gd_ff, ↓gd_tf, ↓gd_ft, h]
    rw [h, List.take_length, hlm, List.take_length] at hp
    exact hp

/-- a list in memory of its own, with something behind it -/
theorem twin_mem {hp : List IObj} {K : V → List IObj → Prop} (l : List Q) (hl : (l.length + 1) * 56 ≤ 140737488355328) (hk : ∀ id cap hp' xs, hp.length ≤ id → hp'[id]? = some (.arr 7 (l.map encQ ++ encQ ⟨71, 0, 0, 0, 0, 0, 0⟩ :: xs)) → l.length + 1 ≤ cap → cap ≤ l.length + 1 + xs.length → hp'.take hp.length = hp → K (.ref id 7 0 l.length cap) hp') : CallK Try.prog 32 [.d (encL b l)] hp K := by
  refine callS (fn := Try.f32) [(3, 1)] [] mixed (bodyOf Try.f32) [.tmp 2] Try.func32 rfl rfl (by decide) 11 rfl (by kernel_rfl) ?_
  simp -implicitDefEqProofs [↓gd_tt, ↓gd_ff, ↓gd_tf, ↓gd_ft, bodyOf, Try.f32, stripC, stripL, stripM, onsOf, upto, hintOf, freeOf, List.replicate]
  have tk : List.take l.length (l.map encQ) = l.map encQ := List.take_of_length_le (by simp)
  simp only [tk]
  refine ⟨by omega, fun hn => ⟨hn, hl, fun cap' h => ⟨by omega, hk _ _ _ _ (Nat.le_succ _) (by simp; rfl) h (by simp; omega) (by simp)⟩⟩, fun hn cap1 h1 => ⟨h1, by omega, hl, fun h2 => ⟨by omega, hk _ _ _ _ (Nat.le_succ _) (by simp; rfl) h2 (by simp; omega) (by simp)⟩, fun h2 cap2 h3 => ?_⟩⟩
  exact ⟨by omega, hk _ _ _ _ (by omega) (by simp; rfl) h3 (by simp; omega) (by simp)⟩

theorem kept_mem {hp : List IObj} {K : V → List IObj → Prop} {id cap : Nat} {xs : List D} (l : List Q) (hl : (l.length + 1) * 56 ≤ 140737488355328) (hc : l.length + 1 ≤ cap) (hx : cap ≤ l.length + 1 + xs.length) (h : hp[id]? = some (.arr 7 (l.map encQ ++ encQ ⟨71, 0, 0, 0, 0, 0, 0⟩ :: xs))) (hk : K (.d (.bool true)) hp) :
    CallK Try.prog 45 [.ref id 7 0 l.length cap, .d (encL b l)] hp K := by
  refine callS (fn := Try.f45) [] [] mixed (bodyOf Try.f45) [.tmp 4] Try.func45 rfl rfl (by decide) 19 rfl (by kernel_rfl) ?_
  simp -implicitDefEqProofs [↓gd_tt, ↓gd_ff, ↓gd_tf, ↓gd_ft, bodyOf, Try.f45, stripC, stripL, stripM, onsOf, upto, hintOf, freeOf, List.replicate]
  have hm : l.length ≤ maxLen := by
    have : 140737488355328 ≤ maxLen := by decide
    omega
  have hlen : l.length ≤ cap := by omega
  have hlen2 : cap ≤ l.length + (xs.length + 1) := by omega
  have hx2 : lendL hp [.ref id 7 0 l.length cap, .d (encL b l)] = some [encL true l, encL b l] := by
    have : List.take l.length (l.map encQ ++ encQ ⟨71, 0, 0, 0, 0, 0, 0⟩ :: xs) = l.map encQ := List.take_left' (by simp)
    simp [h, hlen, hlen2]
  refine callK_lend (same_spec true b l l hm) hx2 rfl trivial ?_
  have hw : IntKind.i64.wrap ((l.length : Int) + 1) = (l.length : Int) + 1 := by
    rw [wrap_i64 (by omega) (by omega)]
  simp -implicitDefEqProofs [↓gd_tt, ↓gd_ff, ↓gd_tf, ↓gd_ft, hw, h]
  exact ⟨by omega, by omega, by omega, hk⟩
end Go.Idl
