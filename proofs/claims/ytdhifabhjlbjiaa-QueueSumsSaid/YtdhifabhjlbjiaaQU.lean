/- The statement QueueSums: what it computes. -/
import Derived.Test.YtdhifabhjlbjiaaQW
import Derived.Test.YtdhifabhjlbjiaaQJ
import Derived.Test.YtdhifabhjlbjiaaPT
set_option linter.all false
namespace Go.Idl
open Go.Proofs
set_option linter.unusedSimpArgs false
set_option linter.unusedVariables false
set_option maxRecDepth 8000
variable (b : Bool)

theorem eqV2 (a b c d : Int) : eqAt [.int .i64 a, .int .i64 b] [.int .i64 c, .int .i64 d] [(0, 0), (1, 0)] = some (decide (a = c ∧ b = d)) := by
  simp [eqAt]
/-- a list in memory of its own, with something behind it; what lies ahead of it stays -/
theorem twin_ext {hp : List IObj} {K : V → List IObj → Prop} (l : List Q) (hl : (l.length + 1) * 56 ≤ 140737488355328) (hk : ∀ id cap ext xs, hp.length ≤ id → (hp ++ ext)[id]? = some (.arr 7 (l.map encQ ++ encQ ⟨71, 0, 0, 0, 0, 0, 0⟩ :: xs)) → l.length + 1 ≤ cap → cap ≤ l.length + 1 + xs.length → (∀ n, ltObjs n ext = true) → K (.ref id 7 0 l.length cap) (hp ++ ext)) : CallK Try.prog 32 [.d (encL b l)] hp K := by
  refine callS (fn := Try.f32) [(3, 1)] [] mixed (bodyOf Try.f32) [.tmp 2] Try.func32 rfl rfl (by decide) 11 rfl (by kernel_rfl) ?_
  simp -implicitDefEqProofs [↓gd_tt, ↓gd_ff, ↓gd_tf, ↓gd_ft, bodyOf, Try.f32, stripC, stripL, stripM, onsOf, upto, hintOf, freeOf, List.replicate]
  have tk : List.take l.length (l.map encQ) = l.map encQ := List.take_of_length_le (by simp)
  simp only [tk]
  refine ⟨by omega, fun hn => ⟨hn, hl, fun cap' h => ⟨by omega, hk _ _ _ _ (Nat.le_succ _) (by simp; rfl) h (by simp; omega) (by intro n; simp)⟩⟩, fun hn cap1 h1 => ⟨h1, by omega, hl, fun h2 => ⟨by omega, hk _ _ _ _ (Nat.le_succ _) (by simp; rfl) h2 (by simp; omega) (by intro n; simp)⟩, fun h2 cap2 h3 => ?_⟩⟩
  exact ⟨by omega, hk _ _ _ _ (by omega) (by simp; rfl) h3 (by simp; omega) (by intro n; simp)⟩
theorem permLV : ∀ (m : List (Int × Int)), D.permL (m.map encV)
  | [] => trivial
  | x :: m => ⟨⟨trivial, trivial, trivial⟩, permLV m⟩
theorem sumsV_perm (l : List Q) (uses : List U) : (sumsV l uses).data = true ∧ V.permP (sumsV l uses) := by
  unfold sumsV
  split
  · refine ⟨rfl, fun v hv => ?_⟩
    rcases List.mem_cons.1 hv with rfl | hv
    · exact ⟨rfl, permLV _⟩
    · rcases List.mem_cons.1 hv with rfl | hv
      · trivial
      · cases hv
  · refine ⟨rfl, fun v hv => ?_⟩
    rcases List.mem_cons.1 hv with rfl | hv
    · trivial
    · rcases List.mem_cons.1 hv with rfl | hv
      · trivial
      · cases hv
set_option maxHeartbeats 4000000 in
theorem sums_spec (l : List Q) (uses : List U) (leaf : Int) (more : Int × Int) (hl : l.length ≤ maxLen) (hr : l.length * 56 ≤ reachBytes) (hu : uses.length ≤ maxLen) (hur : uses.length * 24 ≤ reachBytes) : PCall Try.prog 15 [encL false l, encUs false uses, I leaf, encV more] (.d (.bool true)) := by
  obtain ⟨x, y⟩ := more
  have hl2 : (l.length + 1) * 56 ≤ 140737488355328 := reach_more hr
  refine pcallS (fn := Try.f15) [] [(14, 1004009)] mixed (bodyOf Try.f15) [.tmp 8] Try.func15 rfl rfl (by decide) 68 rfl (by kernel_rfl) ?_
  simp -implicitDefEqProofs [↓gd_tt, ↓gd_ff, ↓gd_tf, ↓gd_ft, bodyOf, Try.f15, stripC, stripL, stripM, onsOf, upto, hintOf, freeOf, List.replicate]
  refine callK_pcall awake_spec rfl rfl ?_
  simp -implicitDefEqProofs [↓gd_tt, ↓gd_ff, ↓gd_tf, ↓gd_ft]
  refine twin_ext false l hl2 fun t cap ext xs k0 k1 k2 k3 k4 => ?_
  have hlen : l.length ≤ cap := by omega
  have hlen2 : cap ≤ l.length + (xs.length + 1) := by omega
  have hx : ∀ d : D, lendL ([.var [.d (I x), .d (I y)]] ++ ext) [.ref t 7 0 l.length cap, .d d] = some [encL true l, d] := fun d => by
    have : List.take l.length (l.map encQ ++ encQ ⟨71, 0, 0, 0, 0, 0, 0⟩ :: xs) = l.map encQ := List.take_left' (by simp)
    simp at k1
    simp [k1, hlen, hlen2]
  have hx4 : ∀ d1 d2 d3 : D, lendL ([.var [.d (I x), .d (I y)]] ++ ext) [.ref t 7 0 l.length cap, .d d1, .d d2, .d d3] = some [encL true l, d1, d2, d3] := fun d1 d2 d3 => by
    have : List.take l.length (l.map encQ ++ encQ ⟨71, 0, 0, 0, 0, 0, 0⟩ :: xs) = l.map encQ := List.take_left' (by simp)
    simp at k1
    simp [k1, hlen, hlen2]
  simp -implicitDefEqProofs [↓gd_tt, ↓gd_ff, ↓gd_tf, ↓gd_ft]
  refine callK_lend (qsums_spec true false l uses hl hu) (hx _) (sumsV_perm l uses).1 (sumsV_perm l uses).2 ?_
  by_cases hs : sumsE l uses = 0
  · have hv : sumsV l uses = .tup [.d (encVs false (sumsL l uses)), .d (I 0)] := by simp [sumsV, hs]
    have hsl : (sumsL l uses).length = l.length := by simp [sumsL]
    rw [hv]
    simp -implicitDefEqProofs [↓gd_tt, ↓gd_ff, ↓gd_tf, ↓gd_ft]
    refine callK_pcall (refSums_spec false false l uses hl hu) rfl (by rw [hv]; rfl) ?_
    rw [hv]
    simp -implicitDefEqProofs [↓gd_tt, ↓gd_ff, ↓gd_tf, ↓gd_ft]
    have ht : t < ext.length + 1 := by
      have := (List.getElem?_eq_some_iff.1 k1).1; simpa using this
    refine loopA mixed [false, false, false, false, false, false, false, false, true, false, false, false, false, false, true, false, false, false, false, false, false, false, false, false, false, false, false, false, false, false, false, false, false, false, false, false, false, false, false, false, false, false, false, true, true, true, true, true, true, true, true, true, true, true, true, true] (fun (i : Nat) => [(43, .d (I i))]) (fun (i : Nat) => (.var [.d (I x), .d (I y)] :: ext)) (fun (i : Nat) => i ≤ l.length) (fun (i : Nat) => l.length - i) (0) (Nat.zero_le _) (by simp [k4, ht]) ?_
    rintro i hx
    rcases Nat.lt_or_eq_of_le hx with h | h
    · have hsi : i < (sumsL l uses).length := by omega
      simp -implicitDefEqProofs [↓gd_tt, ↓gd_ff, ↓gd_tf, ↓gd_ft, h, hsi, hsl, eqV2, wrap1 hl h]
      exact ⟨i + 1, by omega, by omega, rfl, by omega, k4 _⟩
    simp -implicitDefEqProofs [↓gd_tt, ↓gd_ff, ↓gd_tf, ↓gd_ft, h, hsl]
    refine callK_lend (qroom_spec true false l uses leaf x y hl hu) (hx4 _ _ _) rfl trivial ?_
    refine ⟨⟨[], by simp⟩, ?_⟩
    ((try simp only [kont_run]); rw [anyGo]; simp -implicitDefEqProofs [↓gd_tt, ↓gd_ff, ↓gd_tf, ↓gd_ft, anyL])
    refine callK_pcall (refRoom_spec false false l uses leaf x y hl hu) rfl rfl ?_
    ((try simp only [kont_run]); rw [anyGo]; simp -implicitDefEqProofs [↓gd_tt, ↓gd_ff, ↓gd_tf, ↓gd_ft, anyL])
    ((try simp only [kont_run]); rw [anyGo]; simp -implicitDefEqProofs [↓gd_tt, ↓gd_ff, ↓gd_tf, ↓gd_ft, anyL])
    ((try simp only [kont_run]); rw [anyGo]; simp -implicitDefEqProofs [↓gd_tt, ↓gd_ff, ↓gd_tf, ↓gd_ft, anyL])
    constructor <;> (((try simp only [kont_run]); rw [anyGo]; simp -implicitDefEqProofs [↓gd_tt, ↓gd_ff, ↓gd_tf, ↓gd_ft, anyL]); ((try simp only [kont_run]); rw [anyGo]; simp -implicitDefEqProofs [↓gd_tt, ↓gd_ff, ↓gd_tf, ↓gd_ft, anyL]); refine kept_mem false l hl2 k2 (by omega) k1 ?_; ((try simp only [kont_run]); rw [anyGo]; simp -implicitDefEqProofs [↓gd_tt, ↓gd_ff, ↓gd_tf, ↓gd_ft, anyL]); ((try simp only [kont_run]); rw [anyGo]; simp -implicitDefEqProofs [↓gd_tt, ↓gd_ff, ↓gd_tf, ↓gd_ft, anyL]); rw [anyGo]; simp -implicitDefEqProofs [↓gd_tt, ↓gd_ff, ↓gd_tf, ↓gd_ft])
  · have hv : sumsV l uses = .tup [.nil 2, .d (I (sumsE l uses))] := by simp [sumsV, hs]
    rw [hv]
    simp -implicitDefEqProofs [↓gd_tt, ↓gd_ff, ↓gd_tf, ↓gd_ft]
    refine callK_pcall (refSums_spec false false l uses hl hu) rfl (by rw [hv]; rfl) ?_
    rw [hv]
    simp -implicitDefEqProofs [↓gd_tt, ↓gd_ff, ↓gd_tf, ↓gd_ft]
    have ht : t < ext.length + 1 := by
      have := (List.getElem?_eq_some_iff.1 k1).1; simpa using this
    refine loopA mixed [false, false, false, false, false, false, false, false, true, false, false, false, false, false, true, false, false, false, false, false, false, false, false, false, false, false, false, false, false, false, false, false, false, false, false, false, false, false, false, false, false, false, false, true, true, true, true, true, true, true, true, true, true, true, true, true] (fun (i : Nat) => [(43, .d (I 0))]) (fun (i : Nat) => (.var [.d (I x), .d (I y)] :: ext)) (fun (i : Nat) => i = 0) (fun (i : Nat) => 0) (0) (rfl) (by simp [k4, ht]) ?_
    rintro i hx
    simp -implicitDefEqProofs [↓gd_tt, ↓gd_ff, ↓gd_tf, ↓gd_ft]
    refine callK_lend (qroom_spec true false l uses leaf x y hl hu) (hx4 _ _ _) rfl trivial ?_
    refine ⟨⟨[], by simp⟩, ?_⟩
    ((try simp only [kont_run]); rw [anyGo]; simp -implicitDefEqProofs [↓gd_tt, ↓gd_ff, ↓gd_tf, ↓gd_ft, anyL])
    refine callK_pcall (refRoom_spec false false l uses leaf x y hl hu) rfl rfl ?_
    ((try simp only [kont_run]); rw [anyGo]; simp -implicitDefEqProofs [↓gd_tt, ↓gd_ff, ↓gd_tf, ↓gd_ft, anyL])
    ((try simp only [kont_run]); rw [anyGo]; simp -implicitDefEqProofs [↓gd_tt, ↓gd_ff, ↓gd_tf, ↓gd_ft, anyL])
    ((try simp only [kont_run]); rw [anyGo]; simp -implicitDefEqProofs [↓gd_tt, ↓gd_ff, ↓gd_tf, ↓gd_ft, anyL])
    constructor <;> (((try simp only [kont_run]); rw [anyGo]; simp -implicitDefEqProofs [↓gd_tt, ↓gd_ff, ↓gd_tf, ↓gd_ft, anyL]); ((try simp only [kont_run]); rw [anyGo]; simp -implicitDefEqProofs [↓gd_tt, ↓gd_ff, ↓gd_tf, ↓gd_ft, anyL]); refine kept_mem false l hl2 k2 (by omega) k1 ?_; ((try simp only [kont_run]); rw [anyGo]; simp -implicitDefEqProofs [↓gd_tt, ↓gd_ff, ↓gd_tf, ↓gd_ft, anyL]); ((try simp only [kont_run]); rw [anyGo]; simp -implicitDefEqProofs [↓gd_tt, ↓gd_ff, ↓gd_tf, ↓gd_ft, anyL]); rw [anyGo]; simp -implicitDefEqProofs [↓gd_tt, ↓gd_ff, ↓gd_tf, ↓gd_ft])
end Go.Idl
