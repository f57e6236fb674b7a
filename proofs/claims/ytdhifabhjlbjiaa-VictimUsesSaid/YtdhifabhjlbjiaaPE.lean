/- The program's queues: Clone, Insert, Delete of the library, in memory. -/
import Derived.Test.YtdhifabhjlbjiaaPQ
import Derived.Test.YtdhifabhjlbjiaaIdlEx
set_option linter.all false
namespace Go.Idl
open Go.Proofs
set_option linter.unusedSimpArgs false
set_option linter.unusedVariables false
set_option maxRecDepth 8000
variable (b : Bool)

theorem made_mem {hp : List IObj} {id off n cap : Nat} {xs : List D} {K : V → List IObj → Prop} (l : List Q) (h : hp[id]? = some (.arr 7 xs)) (hc : n ≤ cap) (hl : off + cap ≤ xs.length) (he : (xs.drop off).take n = l.map encQ) (hm : l.length ≤ maxLen)
    (h0 : check l = 0 → K (.tup [.ref id 7 off n cap, .d (I 0)]) hp) (h1 : check l ≠ 0 → K (.tup [.nil 7, .d (I (check l))]) hp) : CallK Try.prog 103 [.ref id 7 off n cap] hp K := by
  refine callS (fn := Try.f103) [] [] mixed (bodyOf Try.f103) [.tmp 2, .tmp 3] Try.func103 rfl rfl (by decide) 10 rfl (by kernel_rfl) ?_
  simp -implicitDefEqProofs [↓gd_tt, ↓gd_ff, ↓gd_tf, ↓gd_ft, bodyOf, Try.f103, stripC, stripL, stripM, onsOf, upto, hintOf, freeOf, List.replicate]
  have hx : lendL hp [.ref id 7 off n cap] = some [encL true l] := by simp [h, he, hc, hl]
  refine callK_lend (qcheck_spec true l hm) hx rfl trivial ?_
  simp -implicitDefEqProofs [↓gd_tt, ↓gd_ff, ↓gd_tf, ↓gd_ft]
  exact ⟨h1, h0⟩

theorem clone_mem {hp : List IObj} {K : V → List IObj → Prop} (l : List Q) (hl : 0 < l.length) (hm : l.length ≤ 64) (hk : ∀ cap, l.length ≤ cap → K (.ref (hp.length + 1) 7 0 l.length cap) (hp ++ [.arr 7 [], .arr 7 (l.map encQ ++ List.replicate (cap - l.length) (encQ q0))])) :
    CallK Try.prog 105 [.d (encL b l)] hp K := by
  refine callS (fn := Try.f105) [(5, 1)] [] mixed (bodyOf Try.f105) [.tmp 2] Try.func105 rfl rfl (by decide) 7 rfl (by kernel_rfl) ?_
  simp -implicitDefEqProofs [↓gd_tt, ↓gd_ff, ↓gd_tf, ↓gd_ft, bodyOf, Try.f105, stripC, stripL, stripM, onsOf, upto, hintOf, freeOf, List.replicate]
  have hn : l ≠ [] := by rintro rfl; simp at hl
  exact ⟨fun _ => ⟨by omega, fun e => absurd e hn, fun _ cap h => hk cap h⟩, fun e => absurd e hn⟩

theorem overlaps_spec {l : Bool} {j oj lj cj : Nat} {hp : List IObj} {xs ys : List D} {K : V → List IObj → Prop} (h2 : hp[j]? = some (.arr 7 ys)) (hx : xs ≠ []) (hy : ys ≠ []) (hc2 : 0 < cj)
    (hk : K (.d (.bool false)) hp) : CallE Try.prog 183 [.d (.sl l 7 xs), .ref j 7 oj lj cj] hp K := by
  obtain ⟨e, ii, _, hut, hi, _, _, _, _⟩ := elI_inv (elI22)
  exact overlaps_data (tS := 22) (tR := 4) (e := e) (fn := Try.f183) rfl (by kernel_rfl) (by kernel_rfl) (by kernel_rfl) (by kernel_rfl) hut (fun w => run_sizeOf hi) h2 hx hy (by decide) hc2 hk

theorem wr {n : Int} (h : -9223372036854775808 ≤ n) (h' : n ≤ 9223372036854775807) : IntKind.i64.wrap n = n := wrap_i64 (by omega) (by omega)

theorem insert_end {hp : List IObj} {bq : Bool} {id n cap : Nat} {xs : List D} {x : D} {K : V → List IObj → Prop} (h : hp[id]? = some (.arr 7 xs)) (hc : n ≤ cap) (hl : cap ≤ xs.length) (hn : 0 < n) (hm : n ≤ 64)
    (hk : ∀ id' cap' hp' ys, hp'[id']? = some (.arr 7 ys) → n + 1 ≤ cap' → cap' ≤ ys.length → ys.take (n + 1) = xs.take n ++ [x] → K (.ref id' 7 0 (n + 1) cap') hp') :
    CallK Try.prog 104 [.ref id 7 0 n cap, .d (I n), .d (.sl bq 7 [x])] hp K := by
  refine callS (fn := Try.f104) [] [(11, 8), (15, 8)] mixed (bodyOf Try.f104) [.tmp 6] Try.func104 rfl rfl (by decide) 92 rfl (by kernel_rfl) ?_
  simp -implicitDefEqProofs [↓gd_tt, ↓gd_ff, ↓gd_tf, ↓gd_ft, bodyOf, Try.f104, stripC, stripL, stripM, onsOf, upto, hintOf, freeOf, List.replicate, h, hc, hl]
  have hlt : id < hp.length := (List.getElem?_eq_some_iff.1 h).1
  refine ⟨by omega, fun hr => hk _ _ _ _ (by simp [hlt]; rfl) hr (by simp; omega) ?_, fun hr cap' h' => hk _ _ _ _ (by simp; rfl) h' (by simp; omega) ?_⟩
  · rw [List.take_append, List.take_of_length_le (by simp; omega)]
    simp [show min n xs.length = n by omega, show n + 1 - n = 1 by omega]
  · rw [List.take_append, List.take_of_length_le (by simp; omega)]
    simp [show min n xs.length = n by omega, show n + 1 - n = 1 by omega]
theorem ins_take {α : Type} {xs : List α} {x : α} {i n : Nat} (hi : i < n) (hx : n ≤ xs.length) (T T' : List α) :
    List.take (n + 1) (List.take (i + 1) (List.take i xs ++ (List.take (n + 1 - i) [x] ++ T)) ++ (List.take (n - i) (List.take (n - i) (List.drop i xs)) ++ T')) = List.take i xs ++ [x] ++ List.take (n - i) (List.drop i xs) := by
  have e1 : List.take (n + 1 - i) [x] = [x] := List.take_of_length_le (by simp; omega)
  have e2 : List.take (i + 1) (List.take i xs ++ ([x] ++ T)) = List.take i xs ++ [x] := by
    rw [← List.append_assoc, List.take_left' (by simp; omega)]
  rw [e1, e2, List.take_take, Nat.min_self, ← List.append_assoc, List.take_left' (by simp; omega)]
theorem shift_take {α : Type} {xs : List α} {x : α} {i n : Nat} (hi : i < n) (hx : n + 1 ≤ xs.length) (W : List α) :
    List.take (n + 1) (List.take i (List.take (i + 1) xs ++ (List.take (n - i) (List.take (n + 1 - i) (List.drop i xs)) ++ W)) ++ (List.take (n + 1 - i) [x] ++ List.drop (i + min (n + 1 - i) 1) (List.take (i + 1) xs ++ (List.take (n - i) (List.take (n + 1 - i) (List.drop i xs)) ++ W)))) =
      List.take i xs ++ [x] ++ List.take (n - i) (List.drop i xs) := by
  have e1 : List.take (n + 1 - i) [x] = [x] := List.take_of_length_le (by simp; omega)
  have e2 : ∀ Z : List α, List.take i (List.take (i + 1) xs ++ Z) = List.take i xs := fun Z => by
    rw [List.take_append_of_le_length (by simp; omega), List.take_take, Nat.min_eq_left (by omega)]
  have e3 : ∀ Z : List α, List.drop (i + min (n + 1 - i) 1) (List.take (i + 1) xs ++ Z) = Z := fun Z => by
    rw [show i + min (n + 1 - i) 1 = i + 1 by omega, List.drop_left' (by simp; omega)]
  have e4 : List.take (n - i) (List.take (n + 1 - i) (List.drop i xs)) = List.take (n - i) (List.drop i xs) := by
    rw [List.take_take, Nat.min_eq_left (by omega)]
  rw [e2, e3, e1, e4, ← List.append_assoc, ← List.append_assoc, List.take_left' (by simp; omega)]
theorem insert_grow {hp : List IObj} {bq : Bool} {id n cap i : Nat} {xs : List D} {x : D} {K : V → List IObj → Prop} (h : hp[id]? = some (.arr 7 xs)) (hc : n ≤ cap) (hl : cap ≤ xs.length) (hi : i < n) (hm : n ≤ 64) (hg : cap < n + 1)
    (hk : ∀ id' cap' hp' ys, hp'[id']? = some (.arr 7 ys) → n + 1 ≤ cap' → cap' ≤ ys.length → ys.take (n + 1) = xs.take i ++ [x] ++ (xs.drop i).take (n - i) → K (.ref id' 7 0 (n + 1) cap') hp') :
    CallK Try.prog 104 [.ref id 7 0 n cap, .d (I i), .d (.sl bq 7 [x])] hp K := by
  have w1 : IntKind.i64.wrap ((n : Int) + 1) = (n : Int) + 1 := wr (by omega) (by omega)
  have w2 : IntKind.i64.wrap ((n : Int) + 1 - i) = (n : Int) + 1 - i := wr (by omega) (by omega)
  have w3 : IntKind.i64.wrap ((i : Int) + 1) = (i : Int) + 1 := wr (by omega) (by omega)
  have t2 : ((n : Int) + 1 - i).toNat = n + 1 - i := by omega
  have t3 : ((i : Int) + 1).toNat = i + 1 := by omega
  have c1 : ¬ (i : Int) = (n : Int) := by omega
  have c2 : (cap : Int) < (n : Int) + 1 := by omega
  have c3 : i ≤ n := by omega
  have c4 : (i : Int) ≤ (n : Int) + 1 := by omega
  have c7 : ((n : Int) + 1 - i) * 56 ≤ 140737488355328 := by omega
  have c8 : (n : Int) + 1 - i ≤ 140737488355328 := by omega
  have c9 : i + (n + 1 - i) = n + 1 := by omega
  have c10 : (i : Int) + ((n + 1 - i : Nat) : Int) = (n : Int) + 1 := by omega
  have c11 : ((n : Int) + 1).toNat = n + 1 := by omega
  have c12 : i ≤ n + 1 := by omega
  have hg' : ¬ n + 1 ≤ cap := by omega
  have c5 : i ≤ cap := by omega
  have c6 : i ≤ xs.length := by omega
  refine callS (fn := Try.f104) [] [(11, 8), (15, 8)] mixed (bodyOf Try.f104) [.tmp 6] Try.func104 rfl rfl (by decide) 92 rfl (by kernel_rfl) ?_
  simp -implicitDefEqProofs [↓gd_tt, ↓gd_ff, ↓gd_tf, ↓gd_ft, bodyOf, Try.f104, stripC, stripL, stripM, onsOf, upto, hintOf, freeOf, List.replicate, h, hc, hl, w1, w2, w3, t2, t3, c1, c2, c3, c4, c5, c6, c7, c8, c9, c10, c11, c12, hg']
  have hlt : id < hp.length := (List.getElem?_eq_some_iff.1 h).1
  refine ⟨by omega, fun _ cap' h' => ?_⟩
  have d1 : (n : Int) + 1 ≤ (cap' : Int) := by omega
  have d2 : 0 ≤ (i : Int) + 1 := by omega
  have d3 : n + 1 - i ≤ cap' - i := by omega
  have d4 : n - i ≤ cap' - (i + 1) := by omega
  simp -implicitDefEqProofs [↓gd_tt, ↓gd_ff, ↓gd_tf, ↓gd_ft, h, h', d1, d2, d3, d4, List.getElem?_append_left hlt, hc, hl, c6]
  refine ⟨by omega, by omega, by omega, hk _ _ _ _ (by simp; rfl) h' (by simp; omega) (ins_take (by omega) (by omega) _ _)⟩

theorem insert_shift {hp : List IObj} {bq : Bool} {id n cap i : Nat} {xs : List D} {x : D} {K : V → List IObj → Prop} (h : hp[id]? = some (.arr 7 xs)) (hc : n ≤ cap) (hl : cap ≤ xs.length) (hi : i < n) (hm : n ≤ 64) (hg : n + 1 ≤ cap)
    (hk : ∀ id' cap' hp' ys, hp'[id']? = some (.arr 7 ys) → n + 1 ≤ cap' → cap' ≤ ys.length → ys.take (n + 1) = xs.take i ++ [x] ++ (xs.drop i).take (n - i) → K (.ref id' 7 0 (n + 1) cap') hp') :
    CallK Try.prog 104 [.ref id 7 0 n cap, .d (I i), .d (.sl bq 7 [x])] hp K := by
  have w1 : IntKind.i64.wrap ((n : Int) + 1) = (n : Int) + 1 := wr (by omega) (by omega)
  have w3 : IntKind.i64.wrap ((i : Int) + 1) = (i : Int) + 1 := wr (by omega) (by omega)
  have t3 : ((i : Int) + 1).toNat = i + 1 := by omega
  have c1 : ¬ (i : Int) = (n : Int) := by omega
  have c2 : ¬ (cap : Int) < (n : Int) + 1 := by omega
  have c3 : i ≤ n := by omega
  have c11 : ((n : Int) + 1).toNat = n + 1 := by omega
  have c12 : (n : Int) + 1 ≤ (cap : Int) := by omega
  have c13 : 0 ≤ (n : Int) + 1 := by omega
  have c14 : 0 ≤ (i : Int) + 1 := by omega
  have c15 : (i : Int) ≤ (n : Int) := by omega
  have hlt : id < hp.length := (List.getElem?_eq_some_iff.1 h).1
  refine callS (fn := Try.f104) [] [(11, 8), (15, 8)] mixed (bodyOf Try.f104) [.tmp 6] Try.func104 rfl rfl (by decide) 92 rfl (by kernel_rfl) ?_
  simp -implicitDefEqProofs [↓gd_tt, ↓gd_ff, ↓gd_tf, ↓gd_ft, bodyOf, Try.f104, stripC, stripL, stripM, onsOf, upto, hintOf, freeOf, List.replicate, h, hc, hl, w1, w3, t3, c1, c2, c3, c11, c12, c13, c14, c15, hg]
  refine overlaps_spec h (by simp) (by rintro rfl; simp at hl; omega) (by omega) ?_
  have f1 : (i : Int) ≤ (n : Int) + 1 := by omega
  have f2 : n + 1 ≤ cap - i + i := by omega
  have f3 : i + (cap - i) ≤ xs.length := by omega
  have f4 : n - i ≤ cap - (i + 1) := by omega
  have f5 : i + 1 + (cap - (i + 1)) ≤ xs.length := by omega
  have f6 : n + 1 - i ≤ cap - i := by omega
  have g1 : ∀ A : IObj, (hp.set id A)[id]? = some A := fun A => by rw [List.getElem?_set_self hlt]
  have g3 : ∀ A B : IObj, ((hp.set id A).set id B)[id]? = some B := fun A B => by rw [List.set_set, g1]
  simp -implicitDefEqProofs [↓gd_tt, ↓gd_ff, ↓gd_tf, ↓gd_ft, h, g1, f1, f2, f3, f4, f5, f6, hg, hc, hl, w1, w3, t3, c1, c2, c3, c11, c12, c13, c14, c15]
  refine ⟨by omega, hk _ _ _ _ (g1 _) hg (by simp; omega) (shift_take hi (by omega) _)⟩

theorem insert_mem {hp : List IObj} {bq : Bool} {id n cap i : Nat} {xs : List D} {x : D} {K : V → List IObj → Prop} (h : hp[id]? = some (.arr 7 xs)) (hc : n ≤ cap) (hl : cap ≤ xs.length) (hi : i ≤ n) (hn : 0 < n) (hm : n ≤ 64)
    (hk : ∀ id' cap' hp' ys, hp'[id']? = some (.arr 7 ys) → n + 1 ≤ cap' → cap' ≤ ys.length → ys.take (n + 1) = xs.take i ++ [x] ++ (xs.drop i).take (n - i) → K (.ref id' 7 0 (n + 1) cap') hp') :
    CallK Try.prog 104 [.ref id 7 0 n cap, .d (I i), .d (.sl bq 7 [x])] hp K := by
  rcases Nat.lt_or_eq_of_le hi with h' | rfl
  · rcases Nat.lt_or_ge cap (n + 1) with hg | hg
    · exact insert_grow h hc hl h' hm hg hk
    · exact insert_shift h hc hl h' hm hg hk
  · exact insert_end h hc hl hn hm fun id' cap' hp' ys h1 h2 h3 h4 => hk id' cap' hp' ys h1 h2 h3 (by simpa using h4)

theorem delete_mem {hp : List IObj} {id n cap i : Nat} {xs : List D} {K : V → List IObj → Prop} (h : hp[id]? = some (.arr 7 xs)) (hc : n ≤ cap) (hl : cap ≤ xs.length) (hi : i < n) (hm : n ≤ 64)
    (hk : ∀ hp' ys, hp'[id]? = some (.arr 7 ys) → cap ≤ ys.length → ys.take (n - 1) = xs.take i ++ (xs.drop (i + 1)).take (n - (i + 1)) → K (.ref id 7 0 (n - 1) cap) hp') :
    CallK Try.prog 115 [.ref id 7 0 n cap, .d (I i), .d (I (i + 1))] hp K := by
  have t3 : ((i : Int) + 1).toNat = i + 1 := by omega
  have hlt : id < hp.length := (List.getElem?_eq_some_iff.1 h).1
  have g1 : ∀ A : IObj, (hp.set id A)[id]? = some A := fun A => by rw [List.getElem?_set_self hlt]
  have a1 : 0 ≤ (i : Int) + 1 := by omega
  have a2 : (i : Int) + 1 ≤ (n : Int) := by omega
  have a3 : (i : Int) ≤ (i : Int) + 1 := by omega
  have a4 : ¬ (i : Int) = (i : Int) + 1 := by omega
  have a5 : i ≤ cap := by omega
  have a6 : i + 1 ≤ n := by omega
  have a7 : i + (n - (i + 1)) ≤ cap := by omega
  have a8 : i + (n - (i + 1)) = n - 1 := by omega
  have a9 : n - 1 ≤ n := by omega
  have b1 : n ≤ cap - (i + 1) + (i + 1) := by omega
  have b2 : i + 1 + (cap - (i + 1)) ≤ xs.length := by omega
  have b3 : min (n - (i + 1)) (xs.length - (i + 1)) = n - (i + 1) := by omega
  have b4 : (i : Int) + ((n - (i + 1) : Nat) : Int) = ((n - 1 : Nat) : Int) := by omega
  have b5 : ¬ cap < n - 1 := by omega
  have b6 : n - 1 ≤ cap := by omega
  have b7 : n ≤ cap - (n - 1) + (n - 1) := by omega
  have b8 : n - 1 + (cap - (n - 1)) ≤ xs.length := by omega
  have b9 : (n - 1) * 56 ≤ 140737488355328 := by omega
  have b10 : ((n - 1 : Nat) : Int) ≤ (n : Int) := by omega
  refine callS (fn := Try.f115) [] [(5, 6)] mixed (bodyOf Try.f115) [.tmp 6] Try.func115 rfl rfl (by decide) 30 rfl (by kernel_rfl) ?_
  simp -implicitDefEqProofs [↓gd_tt, ↓gd_ff, ↓gd_tf, ↓gd_ft, bodyOf, Try.f115, stripC, stripL, stripM, onsOf, upto, hintOf, freeOf, List.replicate, h, hc, hl, t3, g1, a1, a2, a3, a4, a5, a6, a7, a8, a9, b1, b2, b3, b4, b5, b6, b7, b8, b9, b10]
  refine ⟨by omega, hk _ _ (g1 _) (by simp; omega) ?_⟩
  rw [List.take_append_of_le_length (by simp; omega), List.take_take, Nat.min_self, ← List.append_assoc, List.take_left' (by simp; omega)]
end Go.Idl
