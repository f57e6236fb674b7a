/- What the model itself answers: slices.overlaps of two rows that lie apart.; The program's queues: Clone, Insert, Delete of the library, in memory.; The program's queues: Add, Set, Drop.; The program's queues: down, with its map.; The program's queues: Leaves, there, leaf.; The program's queues: up, Path, Children, Below.; Whose turn it is, as plain data: wishes, and how many lie below each queue. No program here.; A scope through which the run goes without a jump.; The program's turns: marks.; The program's amounts and sums: vec.Add, queue.Sums.; The program's turns: pick.; The program's turns: Choose.; The program's turns: Order.; Where one leaf alone wants something it is chosen.; The order of all turns: each wish once, the chosen one first.; Weighted shares are ordered totally; the best son has the least of them.; The way to the chosen leaf is the way down: at each queue the best son.; Who uses more has no lesser share: the choice stays.; The document's answer for turns: Check, Pick, Choose.; Leases as plain data: what leaves use by them. No program here.; A state as plain data: nodes, tasks, leases, who is hungry.; What is wrong in a state, as the document has it. No program here.; The document's audit: exact sums; queues and nodes. -/
import Derived.Lib.Overlaps
import Derived.Test.YtkfpaffcglijeaaAuditOrderPart13
import Derived.Test.YtkfpaffcglijeaaAuditOrderPart15
set_option linter.all false
section
namespace Go.Idl
set_option linter.unusedSimpArgs false
set_option linter.unusedVariables false

section
variable {P : Program}
theorem ref_args {Φ : CM} {B : List Nat} {au : Auth} {w : World} {i z oi li ci : Nat} {v : Value} (h : RepS Φ B (.ref i z oi li ci) v) (hc : 0 < ci) : ∃ b, B[i]? = some b ∧ v = .slice (some ⟨b, oi * z, none⟩) li ci := by
  cases h with
  | ref e l q => exact ⟨_, e, by rw [q hc]⟩
  | ref0 => omega

/-- a datum is answered, all else is as it was -/
theorem answer {Φ : CM} {B : List Nat} {au : Auth} {w : World} {args : List V} {cargs : Array Value} {hp : List IObj} {x : D} {v : Value} (hi : Inv (Ctx.at_ Φ B au w) Φ B au ⟨args, hp, hp.length⟩ ⟨cargs, []⟩ w) (hv : RepD Φ x v) :
    Rel (Ctx.at_ Φ B au w) ⟨[.d x], hp, hp.length⟩ ⟨#[v], []⟩ w := by
  refine ⟨Φ, B, au, { phi := hi.phi, phia := hi.phia, auw := hi.auw, size := hi.size, keep := hi.keep, pre := hi.pre, lePhi := hi.lePhi, tl := rfl, tm := fun i V u hV hu => ?_, hl := hi.hl, nb := hi.nb, hp := hi.hp, df := ⟨[], rfl, List.nodup_nil, by simp⟩, rd := hi.rd, lp := hi.lp, src := hi.src, wo := hi.wo }⟩
  cases i with
  | zero => simp at hV hu; subst hV; subst hu; exact ⟨.d hv, trivial⟩
  | succ i => simp at hV

theorem overlaps_apart {f : FuncId} {fn : Func} {tS tR e : TypeId} {size : Nat} (hf : P.funcs[f]? = some fn) (hname : (fn.name == "runtime.NumGoroutine") = false) (hb : fn.body.isNone = true) (hn : Extern.findNext fn = none)
    (he : Extern.find fn = some (Extern.SlicesOverlaps.overlaps #[tS, tS] #[tR])) (ht : P.underlying tS = some (.slice e)) (hz : ∀ w, (Go.sizeOf e).run P w = .ok size w)
    {i j z oi li ci oj lj cj : Nat} {hp : List IObj} {xs ys : List D} {K : V → List IObj → Prop} (hij : i ≠ j) (h1 : hp[i]? = some (.arr z xs)) (h2 : hp[j]? = some (.arr z ys)) (hx : xs ≠ []) (hy : ys ≠ []) (h0 : 0 < z) (hc1 : 0 < ci) (hc2 : 0 < cj)
    (hk : K (.d (.bool false)) hp) : CallE P f [.ref i z oi li ci, .ref j z oj lj cj] hp K := by
  intro Φ B au w cargs hi
  have hl : cargs.size = 2 := hi.tl.symm
  obtain ⟨u, v, rfl⟩ : ∃ u v, cargs = #[u, v] := by
    rcases cargs with ⟨_ | ⟨x, _ | ⟨y, _ | ⟨q, l⟩⟩⟩⟩ <;> simp at hl
    exact ⟨x, y, rfl⟩
  obtain ⟨b1, e1, rfl⟩ := ref_args (w := w) (au := au) (hi.tm 0 _ _ rfl rfl).1 hc1
  obtain ⟨b2, e2, rfl⟩ := ref_args (w := w) (au := au) (hi.tm 1 _ _ rfl rfl).1 hc2
  obtain ⟨a1, c1, el1, q1, s1, _⟩ := hi.hp i _ b1 h1 e1 hx
  obtain ⟨a2, c2, el2, q2, s2, _⟩ := hi.hp j _ b2 h2 e2 hy
  have hne : b1 ≠ b2 := by
    rintro rfl
    rw [a1] at a2
    simp at a2
    exact hij a2
  have hs2 : c2.size ≠ 0 := by
    rw [s2]
    have : 0 < ys.length := List.length_pos_iff.2 hy
    exact Nat.ne_of_gt (Nat.mul_pos this h0)
  have hr := Lib.run_overlaps_apart w tS tR e ht size hz ⟨b1, oi * z, none⟩ ⟨b2, oj * z, none⟩ li ci lj cj hne el1 el2 c1.size c2.size (by simp [World.shape?, q1]) (by simp [World.shape?, q2]) hs2
    (by simp [World.frozen?, q1]) (by simp [World.frozen?, q1])
  refine ⟨.bool false, .d (.bool false), hp, w, ?_, hk, ?_⟩
  · rw [run_callFunc_extern hf hname hb hn he, hr]; rfl
  · exact answer hi (.bool false)

theorem run_overlaps2 {w : World} (tS tR e : TypeId) (ht : P.underlying tS = some (.slice e)) (size : Nat) (hz : ∀ w, (Go.sizeOf e).run P w = .ok size w)
    (a b : Addr) (la ca lb cb : Nat) (hne : a.block ≠ b.block) (tA tB : TypeId) (kA kB : Nat)
    (hsa : w.shape? a.block = some (tA, kA)) (hsb : w.shape? b.block = some (tB, kB)) (hkA : kA ≠ 0) (hkB : kB ≠ 0)
    (hfb : w.frozen? b = false) (hfe : w.frozen? { block := b.block, off := kB } = false) :
    (Extern.SlicesOverlaps.overlaps #[tS, tS] #[tR] #[.slice (some a) la ca, .slice (some b) lb cb]).run P w = .ok (.bool false) w := by
  have hnb : (a.block != b.block) = true := by simpa using hne
  have hnb' : (a.block == b.block) = false := by simpa using hne
  change Sem.run P (α := Value) (do
    let some t := (#[tS, tS] : Array TypeId)[0]? | stuck "slices.overlaps: no parameter types"
    let .slice elem ← underlying t | stuck "slices.overlaps: slice type expected"
    let size ← sizeOf elem
    match (some a : Option Addr), (some b : Option Addr) with
    | some a, some b =>
      if la = 0 ∨ lb = 0 ∨ size = 0 then pure (Value.bool false)
      else if a.block != b.block && (← frozen a) && (← frozen b) then unsupported .addressObserved
      else do
        if a.block != b.block then do
          noView a; noView b
          if ← mayBeOne a b then return Value.bool ((← choose (.extern "sameAddr.stringBytes" 2)) == 1)
        pure (Value.bool (a.block == b.block && a.off < b.off + lb * size && b.off < a.off + la * size))
    | _, _ => pure (Value.bool false)) w = _
  by_cases h0 : la = 0 ∨ lb = 0 ∨ size = 0
  · simp [run_underlying ht, hz, h0]
  · cases kA with
    | zero => exact absurd rfl hkA
    | succ kA => cases kB with
      | zero => exact absurd rfl hkB
      | succ kB =>
        cases hfa : w.frozen? a <;> cases hfe2 : w.frozen? { block := a.block, off := kA + 1 } <;>
        simp [run_underlying ht, hz, h0, hnb, hnb', frozen, noView, viewAt, mayBeOne, stringish, shape, Sem.run, hsa, hsb, hfa, hfe, hfb, hfe2]

theorem overlaps_data {f : FuncId} {fn : Func} {tS tR e : TypeId} {size : Nat} (hf : P.funcs[f]? = some fn) (hname : (fn.name == "runtime.NumGoroutine") = false) (hb : fn.body.isNone = true) (hn : Extern.findNext fn = none)
    (he : Extern.find fn = some (Extern.SlicesOverlaps.overlaps #[tS, tS] #[tR])) (ht : P.underlying tS = some (.slice e)) (hz : ∀ w, (Go.sizeOf e).run P w = .ok size w)
    {j z oj lj cj : Nat} {hp : List IObj} {l : Bool} {xs ys : List D} {K : V → List IObj → Prop} (h2 : hp[j]? = some (.arr z ys)) (hx : xs ≠ []) (hy : ys ≠ []) (h0 : 0 < z) (hc2 : 0 < cj)
    (hk : K (.d (.bool false)) hp) : CallE P f [.d (.sl l z xs), .ref j z oj lj cj] hp K := by
  intro Φ B au w cargs hi
  have hl : cargs.size = 2 := hi.tl.symm
  obtain ⟨u, v, rfl⟩ : ∃ u v, cargs = #[u, v] := by
    rcases cargs with ⟨_ | ⟨x, _ | ⟨y, _ | ⟨q, l⟩⟩⟩⟩ <;> simp at hl
    exact ⟨x, y, rfl⟩
  have hd := (hi.tm 0 _ _ rfl rfl).1
  obtain ⟨b2, e2, rfl⟩ := ref_args (w := w) (au := au) (hi.tm 1 _ _ rfl rfl).1 hc2
  obtain ⟨a2, c2, el2, q2, s2, _⟩ := hi.hp j _ b2 h2 e2 hy
  cases hd with | d hd =>
  obtain ⟨ad, cap, rfl, _, hel⟩ := hd.sl_inv
  obtain ⟨b1, o1, e1, hel2⟩ := hel hx
  subst e1
  obtain ⟨x0, hx0⟩ : ∃ x0, xs[0]? = some x0 := by
    cases xs with
    | nil => exact absurd rfl hx
    | cons x xs => exact ⟨x, rfl⟩
  obtain ⟨hz0, hcells⟩ := hel2.get 0 x0 hx0
  obtain ⟨d0, hd0⟩ : ∃ d0, x0.flat[0]? = some d0 := ⟨_, List.getElem?_eq_getElem (by omega)⟩
  obtain ⟨v0, hv0, _, _⟩ := hcells.get 0 d0 hd0
  have hcell := hi.phi _ _ _ _ hv0
  have hne : b1 ≠ b2 := by
    rintro rfl
    have := hi.phia _ _ _ _ _ _ hv0 a2
    omega
  have hs2 : c2.size ≠ 0 := by
    rw [s2]
    have : 0 < ys.length := List.length_pos_iff.2 hy
    exact Nat.ne_of_gt (Nat.mul_pos this h0)
  obtain ⟨tA, kA, hsa, hkA⟩ : ∃ tA kA, w.shape? b1 = some (tA, kA) ∧ kA ≠ 0 := by
    unfold World.cell? at hcell
    unfold World.shape?
    split at hcell
    · rename_i c el fr hh
      rw [hh]
      refine ⟨el, c.size, rfl, ?_⟩
      split at hcell
      · cases hcell
      · have := (Array.getElem?_eq_some_iff.1 hcell).1; omega
    · cases hcell
  have hr := run_overlaps2 (P := P) (w := w) tS tR e ht size hz ⟨b1, o1, none⟩ ⟨b2, oj * z, none⟩ xs.length cap lj cj hne tA el2 kA c2.size hsa (by simp [World.shape?, q2]) hkA hs2
    (by simp [World.frozen?, q2]) (by simp [World.frozen?, q2])
  refine ⟨.bool false, .d (.bool false), hp, w, ?_, hk, ?_⟩
  · rw [run_callFunc_extern hf hname hb hn he, hr]; rfl
  · exact answer hi (.bool false)
end
end Go.Idl
end
section
namespace Go.Idl
open Go.Proofs
set_option linter.unusedSimpArgs false
set_option linter.unusedVariables false
set_option maxRecDepth 8000
variable (b : Bool)

end Go.Idl
end
section
namespace Go.Idl
open Go.Proofs
set_option linter.unusedSimpArgs false
set_option linter.unusedVariables false
set_option maxRecDepth 8000
variable (b : Bool)



theorem small {α : Type} {l : List α} (h : l.length ≤ 64) : l.length ≤ 140737488355328 := by omega
end Go.Idl
end
section
namespace Go.Idl
open Go.Proofs
set_option linter.unusedSimpArgs false
set_option linter.unusedVariables false
set_option maxRecDepth 8000
variable (b : Bool)

end Go.Idl
end
section
namespace Go.Idl
open Go.Proofs
set_option linter.unusedSimpArgs false
set_option linter.unusedVariables false
set_option maxRecDepth 8000
variable (b : Bool)

end Go.Idl
end
section
namespace Go.Idl
open Go.Proofs
set_option linter.unusedSimpArgs false
set_option linter.unusedVariables false
set_option maxRecDepth 8000
set_option maxHeartbeats 1000000
variable (b : Bool)

theorem ltObjs_set {m : Nat} {A : IObj} : ∀ {os : List IObj} {i : Nat}, ltObjs m os = true → A.lt m = true → ltObjs m (os.set i A) = true
  | [], _, _, _ => rfl
  | o :: os, 0, h, ha => by
    simp only [ltObjs, Bool.and_eq_true] at h
    simp only [List.set_cons_zero, ltObjs, Bool.and_eq_true]
    exact ⟨ha, h.2⟩
  | o :: os, i + 1, h, ha => by
    simp only [ltObjs, Bool.and_eq_true] at h
    simp only [List.set_cons_succ, ltObjs, Bool.and_eq_true]
    exact ⟨h.1, ltObjs_set h.2 ha⟩
/-- the numbers on the way up -/
def upx (l : List Q) (id : Int) : Nat → Int
  | 0 => id
  | k + 1 => (find l (upx l id k)).Par
theorem up_drop {l : List Q} (h : form l = true) (id : Int) : ∀ k, k ≤ (up l id).length → up l (upx l id k) = (up l id).drop k
  | 0, _ => by simp [upx]
  | k + 1, hk => by
    have ih := up_drop h id k (by omega)
    have e := up_eq h (upx l id k)
    rw [ih, List.drop_eq_getElem_cons (by omega)] at e
    split at e
    · have := congrArg List.tail e
      simpa [upx] using this.symm
    · cases e
theorem up_at_k {l : List Q} (h : form l = true) (id : Int) {k : Nat} (hk : k < (up l id).length) : has l (upx l id k) = true ∧ (up l id)[k] = (pos l (upx l id k), find l (upx l id k)) := by
  have ih := up_drop h id k (by omega)
  have e := up_eq h (upx l id k)
  rw [ih, List.drop_eq_getElem_cons hk] at e
  split at e
  · rename_i hh
    exact ⟨hh, (List.cons.inj e).1⟩
  · cases e
theorem up_end {l : List Q} (h : form l = true) (id : Int) : has l (upx l id (up l id).length) = false := by
  have ih := up_drop h id _ (Nat.le_refl _)
  have e := up_eq h (upx l id (up l id).length)
  rw [ih, List.drop_length] at e
  cases hh : has l (upx l id (up l id).length) with
  | false => rfl
  | true => rw [if_pos hh] at e; cases e
theorem up_yields (l : List Q) (id : Int) (ka kb : Nat) (hl : l.length ≤ 140737488355328) (hf : form l = true) (hne : kb ≠ ka) :
    YieldsS Try.prog 161 [.ptr ka 0, .ptr kb 0] (fun i hp => hp[ka]? = some (.var [.d (I (upx l id (i - 1)))]) ∧ hp[kb]? = some (.var [.d (encL b l)])) (fun i hp => hp.set ka (.var [.d (I (upx l id i))])) ((up l id).map yQ) := by
  intro y hp J E hy h0 hJ hround hend
  have hr := form_rises hf
  obtain ⟨g1, g2, g3, g4⟩ := hJ 0 hp h0
  have hka : ka < hp.length := (List.getElem?_eq_some_iff.1 g3).1
  have hkb : kb < hp.length := (List.getElem?_eq_some_iff.1 g4).1
  have hset : hp.set ka (.var [.d (I (upx l id 0))]) = hp := by
    refine List.ext_getElem? fun i => ?_
    rw [List.getElem?_set]
    by_cases e : ka = i
    · subst e; simpa [hka] using g3.symm
    · simp [e]
  refine callS (fn := Try.f161) [] [] mixed (bodyOf Try.f161) [] Try.func161 rfl rfl (by decide) 28 rfl (by kernel_rfl) ?_
  simp -implicitDefEqProofs [↓gd_tt, ↓gd_ff, ↓gd_tf, ↓gd_ft, bodyOf, Try.f161, stripC, stripL, stripM, onsOf, upto, hintOf, freeOf, List.replicate]
  refine loopA mixed [false, false, false, false, true, true, true, true, true, true, true, true, true, true, true, true, true, true, true, true, true, true, true, true, true, true, true, true, true, true, true] (fun (x : Nat × List IObj) => []) (fun (x : Nat × List IObj) => x.2.set ka (.var [.d (I (upx l id x.1))])) (fun (x : Nat × List IObj) => J x.1 x.2 ∧ x.1 ≤ (up l id).length) (fun (x : Nat × List IObj) => (up l id).length - x.1) ((0, hp)) (⟨h0, Nat.zero_le _⟩) (by rw [hset]; simp [hy, hka, hkb, g2]) ?_
  rintro x hx
  obtain ⟨k, hp1⟩ := x
  obtain ⟨hj, hk⟩ := hx
  simp only at hj hk ⊢
  obtain ⟨p1, p2, p3, p4⟩ := hJ k hp1 hj
  have hka1 : ka < hp1.length := by omega
  have hkb1 : kb < hp1.length := by omega
  have s1 : ∀ A : IObj, (hp1.set ka A)[ka]? = some A := fun A => by rw [List.getElem?_set_self hka1]
  have s2 : ∀ A : IObj, (hp1.set ka A)[kb]? = some (.var [.d (encL b l)]) := fun A => by rw [List.getElem?_set_ne (by omega), p4]
  rcases Nat.lt_or_eq_of_le hk with h | h
  · obtain ⟨u1, u2⟩ := up_at_k hf id h
    have u3 := has_nonneg hf u1
    obtain ⟨_, u4, u5⟩ := place_pos hr u1
    have u6 := find_pos hr u1 u4
    simp -implicitDefEqProofs [↓gd_tt, ↓gd_ff, ↓gd_tf, ↓gd_ft, s1, s2, u3]
    refine callK_pcall (qfind_spec b l (upx l id k) hl hr) rfl rfl ?_
    simp -implicitDefEqProofs [↓gd_tt, ↓gd_ff, ↓gd_tf, ↓gd_ft, s1, s2, u1, u4]
    have hr' := hround k hp1 hj (by simpa using h)
    simp only [List.getElem_map, u2, yQ, u6] at hr'
    refine hr'.mono ?_
    rintro r hp2 ⟨b2, rfl, q1, q2, q3, q4⟩
    cases b2
    · simp -implicitDefEqProofs [↓gd_tt, ↓gd_ff, ↓gd_tf, ↓gd_ft]
      exact ⟨by omega, by rw [← q1, List.take_length]; exact q4 rfl⟩
    · obtain ⟨r1, r2, r3, r4⟩ := hJ (k + 1) hp2 (q3 rfl)
      simp -implicitDefEqProofs [↓gd_tt, ↓gd_ff, ↓gd_tf, ↓gd_ft, r3, r4, u4]
      have e1 : upx l id (k + 1) = l[pos l (upx l id k)].Par := by rw [upx, u6]
      refine ⟨k + 1, hp2, ⟨q3 rfl, by omega⟩, by omega, ⟨by omega, by omega, by omega⟩, ?_, by omega, ?_, Nat.le_refl _⟩
      · rw [r1]; exact ltObjs_set r2 rfl
      · rw [e1, List.take_of_length_le (by simp)]
  · have u1 := up_end hf id
    rw [← h] at u1
    have hfin : hp.length ≤ hp1.length ∧ E (List.take hp.length (hp1.set ka (IObj.var [V.d (I (upx l id k))]))) := by
      refine ⟨by omega, ?_⟩
      rw [List.take_of_length_le (by simp; omega)]
      have := hend hp1 (by simpa [← h] using hj)
      simpa [← h] using this
    by_cases hx0 : 0 ≤ upx l id k
    · simp -implicitDefEqProofs [↓gd_tt, ↓gd_ff, ↓gd_tf, ↓gd_ft, s1, s2, hx0]
      refine callK_pcall (qfind_spec b l (upx l id k) hl hr) rfl rfl ?_
      simp -implicitDefEqProofs [↓gd_tt, ↓gd_ff, ↓gd_tf, ↓gd_ft, s1, s2, u1]
      exact hfin
    · simp -implicitDefEqProofs [↓gd_tt, ↓gd_ff, ↓gd_tf, ↓gd_ft, s1, s2, hx0]
      exact hfin
theorem up_spec (l : List Q) (id : Int) (hp : List IObj) (K : V → List IObj → Prop) (hk : K (.fn (.func 161) [.ptr (hp.length + 1) 0, .ptr hp.length 0]) (hp ++ [.var [.d (encL b l)], .var [.d (I id)]])) : CallK Try.prog 140 [.d (encL b l), .d (I id)] hp K := by
  refine callS (fn := Try.f140) [] [] mixed (bodyOf Try.f140) [.tmp 4] Try.func140 rfl rfl (by decide) 4 rfl (by kernel_rfl) ?_
  simp -implicitDefEqProofs [↓gd_tt, ↓gd_ff, ↓gd_tf, ↓gd_ft, bodyOf, Try.f140, stripC, stripL, stripM, onsOf, upto, hintOf, freeOf, List.replicate]
  simpa using hk

end Go.Idl
end
section
namespace Go.Idl
set_option linter.unusedSimpArgs false
set_option linter.unusedVariables false

def Rising (w : List Int) : Prop := ∀ j (h : j + 1 < w.length), w[j] < w[j + 1]
noncomputable instance (w : List Int) : Decidable (Rising w) := Classical.propDecidable _
/-- the wishes below a queue -/
abbrev onWay (l : List Q) (id : Int) (w : Int) : Int := if id ∈ path l w then 1 else 0
def cntI (l : List Q) (want : List Int) (id : Int) : Int := sumI (onWay l id) want
def cnts (l : List Q) (want : List Int) : List Int := l.map fun q => cntI l want q.Id
def wantsE (l : List Q) (want : List Int) : Int := if want.any (fun w => !has l w) then 8 else if want.any (fun w => !decide (sonIds l w = [])) then 14 else 0
noncomputable def marksE (l : List Q) (want : List Int) (x y : Int) : Int := if good x y = false then 1 else if Rising want then (if want = [] then 8 else wantsE l want) else 4
theorem cntI_bound (l : List Q) (id : Int) : ∀ (want : List Int), 0 ≤ cntI l want id ∧ cntI l want id ≤ want.length
  | [] => by simp [cntI, sumI]
  | w :: r => by
    have ih := cntI_bound l id r
    unfold cntI at ih ⊢
    rw [sumI_cons]
    simp only [List.length_cons, onWay]
    split <;> omega
end Go.Idl
end
section
namespace Go.Idl
section
variable {P : Program} {b : Frame} {a : Act} {k : List Item} {cs : List Frame} {w : World} {F : Fence} {n : Nat}
theorem stepR_scope {c : Code} : step P (lone (b.atR a (.code (.scope c) :: k)) cs w) = .next (lone (b.atR a (.code c :: .inScope c :: k)) cs w) :=
  step_lone_go (by simp [stepG, stepG.exec, Frame.atR])
theorem stepR_inScope {c : Code} : step P (lone (b.atR a (.inScope c :: k)) cs w) = .next (lone (b.atR a k) cs w) :=
  step_lone_go (by simp [stepG, stepG.exec, Frame.atR])
def noG (Q : Exit → Act → World → Prop) : Exit → Act → World → Prop
  | .goto _, _, _ => False
  | e, a, w => Q e a w
theorem wpIn_scope {Q : Exit → Act → World → Prop} {c : Code} (h : c.wpIn F n P (noG Q) a w) : (Code.scope c).wpIn F n P Q a w := by
  intro b k cs hro hb hr
  have h0 : (lone (b.atR a (.code (.scope c) :: k)) cs w).fenced P F := fenced_calm hb hr rfl
  obtain ⟨e, a₁, w₁, hq, harr⟩ := h b (.inScope c :: k) cs hro hb hr
  cases e with
  | normal => exact ⟨.normal, a₁, w₁, hq, .head h0 stepR_scope (StepsIn.trans harr (.one (fenced_calm hb hr rfl) stepR_inScope))⟩
  | exit id' =>
    have hx : exitTo id' (.inScope c :: k) = exitTo id' k := by simp [exitTo]
    exact ⟨.exit id', a₁, w₁, hq, fun k' hk => .head h0 stepR_scope (harr.1 k' (by rw [hx]; exact hk)),
      fun hr' hk => let ⟨k₁, h1, h2⟩ := harr.2 hr' (by rw [hx]; exact hk); ⟨k₁, h1, .head h0 stepR_scope h2⟩⟩
  | goto l => exact hq.elim
  | ret => exact ⟨_, a₁, w₁, hq, .of_steps (.one h0 stepR_scope) harr⟩
  | panic ch => exact ⟨_, a₁, w₁, hq, .of_steps (.one h0 stepR_scope) harr⟩
  | outgrown => exact ⟨_, a₁, w₁, hq, .of_steps (.one h0 stepR_scope) harr⟩
end
section
variable {P : Program} {s : St}
def noGK (Q : Ex → St → Prop) (e : Ex) (s : St) : Prop := match e with
  | .goto _ => False
  | e => Q e s
@[simp] theorem ng_normal {Q : Ex → St → Prop} : noGK Q .normal s = Q .normal s := rfl
@[simp] theorem ng_ret {Q : Ex → St → Prop} : noGK Q .ret s = Q .ret s := rfl
@[simp] theorem ng_exit {Q : Ex → St → Prop} {id : Nat} : noGK Q (.exit id) s = Q (.exit id) s := rfl
theorem scope_sem {c : Code} {Q : Ex → St → Prop} (h : SemC P c (noGK Q) s) : SemC P (.scope c) Q s := by
  intro κ a w hr
  refine wpIn_scope (wpIn_mono (h κ a w hr) ?_)
  rintro e a' w' ⟨e', s', rfl, h1, h2⟩
  cases e' with
  | normal => exact ⟨.normal, s', rfl, h1, h2⟩
  | exit i => exact ⟨.exit i, s', rfl, h1, h2⟩
  | goto l => exact h1.elim
  | ret => exact ⟨.ret, s', rfl, h1, h2⟩
/-- a scope, stripped -/
theorem scopeS (H M : List (Nat × Nat)) (hmo : P.follows .mixedOrders = true) {c : Code} {Q : Ex → St → Prop} (hd : drawsOK M c = true) (h : eK P (stripC H M c) (noGK Q) s) : SemC P (.scope c) Q s := scope_sem (e_sound hmo _ _ _ hd h)
end
end Go.Idl
end
section
namespace Go.Idl
open Go.Proofs
set_option linter.unusedSimpArgs false
set_option linter.unusedVariables false
set_option maxRecDepth 8000
set_option maxHeartbeats 2000000
variable (b c : Bool)

theorem upw_spec (l : List Q) (id : Int) (hp : List IObj) (K : V → List IObj → Prop) (hk : K (.fn (.func 161) [.ptr (hp.length + 1) 0, .ptr hp.length 0]) (hp ++ [.var [.d (encL b l)], .var [.d (I id)]])) : CallK Try.prog 100 [.d (encL b l), .d (I id)] hp K := by
  refine callS (fn := Try.f100) [] [] mixed (bodyOf Try.f100) [.tmp 4] Try.func100 rfl rfl (by decide) 6 rfl (by kernel_rfl) ?_
  simp -implicitDefEqProofs [↓gd_tt, ↓gd_ff, ↓gd_tf, ↓gd_ft, bodyOf, Try.f100, stripC, stripL, stripM, onsOf, upto, hintOf, freeOf, List.replicate]
  refine up_spec b l id _ _ ?_
  simpa using hk
end Go.Idl
end
section
namespace Go.Idl
open Go.Proofs
set_option linter.unusedSimpArgs false
set_option linter.unusedVariables false
set_option maxRecDepth 8000
set_option maxHeartbeats 2000000
variable (b c : Bool)

end Go.Idl
end
section
namespace Go.Idl
open Go.Proofs
set_option linter.unusedSimpArgs false
set_option linter.unusedVariables false
set_option maxRecDepth 8000
set_option maxHeartbeats 4000000
variable (b c d : Bool)

/-- the best of some sons, with one that was found before -/
def bestF (l : List Q) (sums : List (Int × Int)) (cnt : List Int) (t : Int × Int) : List (Nat × Q) → Int → Int
  | [], best => best
  | p :: r, best => if cnt.getD p.1 0 = 0 then bestF l sums cnt t r best
    else if best < 0 ∨ ordZ (sums.getD p.1 (0, 0)) p.2.Wt (sums.getD best.toNat (0, 0)) (l.getD best.toNat q0).Wt t < 0 then bestF l sums cnt t r p.1
    else bestF l sums cnt t r best
def bestZ (l : List Q) (sums : List (Int × Int)) (cnt : List Int) (t : Int × Int) (at_ : Nat) : Int := bestF l sums cnt t (sons l (l.getD at_ q0).Id) (-1)
/-- the way down -/
def pickF (l : List Q) (sums : List (Int × Int)) (cnt : List Int) (t : Int × Int) : Nat → Nat → Nat
  | 0, a => a
  | n + 1, a => if bestZ l sums cnt t a < 0 then a else pickF l sums cnt t n (bestZ l sums cnt t a).toNat
def pickN (l : List Q) (sums : List (Int × Int)) (cnt : List Int) (t : Int × Int) : Nat := pickF l sums cnt t l.length 0
theorem sonsF_at (l : List Q) (id : Int) : ∀ (r : List Q) (i : Nat), (∀ j (h : j < r.length), ∃ h' : i + j < l.length, l[i + j] = r[j]) → ∀ p ∈ sonsF id r i, ∃ h : p.1 < l.length, p.2 = l[p.1] ∧ p.2.Par = id
  | [], _, _, p, hp => by cases hp
  | q :: r, i, h, p, hp => by
    have hr : ∀ j (h : j < r.length), ∃ h' : i + 1 + j < l.length, l[i + 1 + j] = r[j] := fun j hj => by
      obtain ⟨a, e⟩ := h (j + 1) (by simp; omega)
      have e2 : i + (j + 1) = i + 1 + j := by omega
      simp only [e2] at a e
      exact ⟨a, by simpa using e⟩
    unfold sonsF at hp
    split at hp
    · rename_i e
      rcases List.mem_cons.1 hp with rfl | hp
      · obtain ⟨a, e2⟩ := h 0 (by simp)
        exact ⟨by simpa using a, by simpa using e2.symm, e⟩
      · exact sonsF_at l id r (i + 1) hr p hp
    · exact sonsF_at l id r (i + 1) hr p hp
theorem sons_at {l : List Q} {id : Int} {p : Nat × Q} (hp : p ∈ sons l id) : ∃ h : p.1 < l.length, p.2 = l[p.1] ∧ p.2.Par = id :=
  sonsF_at l id l 0 (fun j h => ⟨by simpa using h, by simp⟩) p hp
theorem son_above {l : List Q} (hf : form l = true) {a : Nat} (ha : a < l.length) {p : Nat × Q} (hp : p ∈ sons l l[a].Id) : a < p.1 := by
  obtain ⟨h1, h2, h3⟩ := sons_at hp
  have hr := form_rises hf
  rcases Nat.eq_zero_or_pos p.1 with e | e
  · have := (form_root hf (form_pos hf)).2
    have e2 : p.2 = l[0] := by rw [h2]; simp only [e]
    rw [e2, this] at h3
    have := id_nonneg hf ha
    omega
  · obtain ⟨j, hj, hjp, e2⟩ := form_par hf h1 e
    rw [← h2, h3] at e2
    have := rises_inj hr hj ha e2
    omega
theorem bestF_range {l : List Q} {sums : List (Int × Int)} {cnt : List Int} {t : Int × Int} : ∀ (r : List (Nat × Q)) (best : Int), bestF l sums cnt t r best = best ∨ ∃ p ∈ r, bestF l sums cnt t r best = p.1
  | [], best => .inl rfl
  | p :: r, best => by
    unfold bestF
    split
    · rcases bestF_range r best with h | ⟨q, hq, h⟩
      · exact .inl h
      · exact .inr ⟨q, by simp [hq], h⟩
    · split
      · rcases bestF_range r (p.1 : Int) with h | ⟨q, hq, h⟩
        · exact .inr ⟨p, by simp, h⟩
        · exact .inr ⟨q, by simp [hq], h⟩
      · rcases bestF_range r best with h | ⟨q, hq, h⟩
        · exact .inl h
        · exact .inr ⟨q, by simp [hq], h⟩
theorem bestZ_range {l : List Q} {sums : List (Int × Int)} {cnt : List Int} {t : Int × Int} (hf : form l = true) {a : Nat} (ha : a < l.length) : bestZ l sums cnt t a = -1 ∨ ∃ j : Nat, bestZ l sums cnt t a = j ∧ j < l.length ∧ a < j := by
  unfold bestZ
  have e : l.getD a q0 = l[a] := by simp [ha]
  rw [e]
  rcases bestF_range (l := l) (sums := sums) (cnt := cnt) (t := t) (sons l l[a].Id) (-1) with h | ⟨p, hp, h⟩
  · exact .inl h
  · obtain ⟨h1, _, _⟩ := sons_at hp
    exact .inr ⟨p.1, h, h1, son_above hf ha hp⟩
end Go.Idl
end
section
namespace Go.Idl
open Go.Proofs
set_option linter.unusedSimpArgs false
set_option linter.unusedVariables false
set_option maxRecDepth 8000
set_option maxHeartbeats 4000000
variable (b c d : Bool)

noncomputable def chooseE (l : List Q) (uses : List U) (want : List Int) (t : Int × Int) : Int := if sumsE l uses ≠ 0 then sumsE l uses else marksE l want t.1 t.2
end Go.Idl
end
section
namespace Go.Idl
open Go.Proofs
set_option linter.unusedSimpArgs false
set_option linter.unusedVariables false
set_option maxRecDepth 8000
set_option maxHeartbeats 4000000
variable (b c d : Bool)

/-- the counts without one turn -/
def lessZ (l : List Q) (w : Int) (m : List Int) : List Int := (List.range m.length).map fun j => if j ∈ (up l w).map (·.1) then IntKind.i64.wrap (m.getD j 0 - 1) else m.getD j 0
noncomputable def pickAt (l : List Q) (sums : List (Int × Int)) (t : Int × Int) (cnt : List Int) : Int := (l.getD (pickN l sums cnt t) q0).Id
/-- so many turns -/
noncomputable def turns (l : List Q) (sums : List (Int × Int)) (t : Int × Int) : Nat → List Int → List Int × List Int
  | 0, cnt => ([], cnt)
  | n + 1, cnt => ((turns l sums t n cnt).1 ++ [pickAt l sums t (turns l sums t n cnt).2], lessZ l (pickAt l sums t (turns l sums t n cnt).2) (turns l sums t n cnt).2)
end Go.Idl
end
section
namespace Go.Idl
set_option linter.unusedSimpArgs false
set_option linter.unusedVariables false

/-- the son on the way, of a queue on the way -/
theorem way_son {l : List Q} (hf : form l = true) {id : Int} {a : Nat} (ha : a < l.length) (hm : l[a].Id ∈ path l id) (hne : l[a].Id ≠ id) :
    ∃ s, ∃ hs : s < l.length, l[s].Par = l[a].Id ∧ l[s].Id ∈ path l id ∧ ∀ c (hc : c < l.length), l[c].Par = l[a].Id → l[c].Id ∈ path l id → c = s := by
  have hr := form_rises hf
  obtain ⟨k, hk, ek⟩ := List.getElem_of_mem hm
  have hhas : has l id = true := by
    cases e : has l id with
    | true => rfl
    | false => rw [path_eq hf, if_neg (by simp [e])] at hk; simp at hk
  have hk0 : 0 < k := by
    rcases Nat.eq_zero_or_pos k with rfl | h
    · obtain ⟨r, e1, _⟩ := path_head hf hhas
      simp only [e1, List.getElem_cons_zero] at ek
      exact absurd ek.symm hne
    · exact h
  have hson := path_son hf id (i := k - 1) (by omega)
  have hk1 : k - 1 + 1 = k := by omega
  simp only [hk1, ek] at hson
  unfold sonIds at hson
  obtain ⟨q, hq, eq⟩ := List.mem_map.1 hson
  obtain ⟨hq1, hq2⟩ := List.mem_filter.1 hq
  obtain ⟨s, hs, rfl⟩ := List.getElem_of_mem hq1
  refine ⟨s, hs, by simpa using hq2, by rw [eq]; exact List.getElem_mem _, fun c hc hp hcm => ?_⟩
  obtain ⟨k2, hk2, ek2⟩ := List.getElem_of_mem hcm
  have hlen : (path l id).length = (up l id).length := by simp [path]
  have pa : ∀ i (h : i < (path l id).length), ∃ h2 : (up l id)[i].1 < l.length, l[(up l id)[i].1].Id = (path l id)[i] := fun i h => by
    obtain ⟨g1, g2⟩ := up_mem hf (List.getElem_mem (show i < (up l id).length by omega))
    exact ⟨g1, by simp [path, ← g2]⟩
  have ord : ∀ i j (hi : i < (path l id).length) (hj : j < (path l id).length), i < j → (up l id)[j].1 < (up l id)[i].1 := fun i j hi hj hij => by
    have := List.pairwise_iff_getElem.1 (up_sorted hf _ id (Nat.le_refl _)) i j (by simp; omega) (by simp; omega) hij
    simpa using this
  obtain ⟨b1, b2⟩ := pa k hk
  obtain ⟨c1, c2⟩ := pa k2 hk2
  obtain ⟨s1, s2⟩ := pa (k - 1) (by omega)
  have ea : (up l id)[k].1 = a := rises_inj hr b1 ha (by rw [b2, ek])
  have ec : (up l id)[k2].1 = c := rises_inj hr c1 hc (by rw [c2, ek2])
  have es : (up l id)[k - 1].1 = s := rises_inj hr s1 hs (by rw [s2, eq])
  have habove : a < c := by
    rcases Nat.eq_zero_or_pos c with e0 | e0
    · subst e0
      have := (form_root hf (form_pos hf)).2
      rw [this] at hp
      have := id_nonneg hf ha
      omega
    · obtain ⟨j, hj, hjc, e⟩ := form_par hf hc e0
      rw [hp] at e
      have := rises_inj hr hj ha e
      omega
  rcases Nat.lt_trichotomy k2 (k - 1) with h | h | h
  · -- the parent of c comes behind it
    have hson2 := path_son hf id (i := k2) (by omega)
    rw [ek2] at hson2
    unfold sonIds at hson2
    obtain ⟨q2, hq2', e2⟩ := List.mem_map.1 hson2
    obtain ⟨hm2, hp2⟩ := List.mem_filter.1 hq2'
    obtain ⟨c', hc', rfl⟩ := List.getElem_of_mem hm2
    have : c' = c := rises_inj hr hc' hc e2
    subst this
    have hpp : l[c'].Par = (path l id)[k2 + 1] := by simpa using hp2
    obtain ⟨d1, d2⟩ := pa (k2 + 1) (by omega)
    rw [← d2, hp] at hpp
    have := rises_inj hr ha d1 hpp
    have h3 := ord (k2 + 1) k (by omega) hk (by omega)
    omega
  · subst h; rw [← ec, es]
  · rcases Nat.lt_or_eq_of_le (show k ≤ k2 by omega) with h2 | h2
    · have := ord k k2 hk hk2 h2; omega
    · subst h2; omega
theorem sonsF_nodup (id : Int) : ∀ (r : List Q) (i : Nat), ((sonsF id r i).map (·.1)).Nodup ∧ ∀ p ∈ sonsF id r i, i ≤ p.1
  | [], _ => ⟨List.nodup_nil, by simp [sonsF]⟩
  | q :: r, i => by
    obtain ⟨h1, h2⟩ := sonsF_nodup id r (i + 1)
    unfold sonsF
    split
    · refine ⟨?_, fun p hp => ?_⟩
      · rw [List.map_cons, List.nodup_cons]
        refine ⟨fun hm => ?_, h1⟩
        obtain ⟨p, hp, e⟩ := List.mem_map.1 hm
        have := h2 p hp
        omega
      · rcases List.mem_cons.1 hp with rfl | hp
        · exact Nat.le_refl _
        · have := h2 p hp; omega
    · exact ⟨h1, fun p hp => by have := h2 p hp; omega⟩
theorem sonsF_has (id : Int) : ∀ (r : List Q) (i j : Nat) (h : j < r.length), r[j].Par = id → (i + j, r[j]) ∈ sonsF id r i
  | q :: r, i, 0, h, e => by
    unfold sonsF
    rw [if_pos (by simpa using e)]; simp
  | q :: r, i, j + 1, h, e => by
    have := sonsF_has id r (i + 1) j (by simpa using h) (by simpa using e)
    have e2 : i + 1 + j = i + (j + 1) := by omega
    rw [e2] at this
    unfold sonsF
    split
    · exact List.mem_cons_of_mem _ (by simpa using this)
    · simpa using this
end Go.Idl
end
section
namespace Go.Idl
set_option linter.unusedSimpArgs false
set_option linter.unusedVariables false

theorem cntI_pos {l : List Q} {id : Int} : ∀ {want : List Int}, cntI l want id ≠ 0 ↔ ∃ w ∈ want, id ∈ path l w
  | [] => by simp [cntI, sumI]
  | w :: r => by
    have ih := cntI_pos (l := l) (id := id) (want := r)
    have hb := cntI_bound l id r
    unfold cntI at ih hb ⊢
    rw [sumI_cons]
    by_cases h : id ∈ path l w
    · simp only [onWay, if_pos h]
      constructor
      · intro _; exact ⟨w, by simp, h⟩
      · intro _; omega
    · simp only [onWay, if_neg h, Int.zero_add]
      rw [ih]
      constructor
      · rintro ⟨x, hx, e⟩; exact ⟨x, by simp [hx], e⟩
      · rintro ⟨x, hx, e⟩
        rcases List.mem_cons.1 hx with rfl | hx
        · exact absurd e h
        · exact ⟨x, hx, e⟩
theorem cnts_get {l : List Q} {want : List Int} {i : Nat} (h : i < l.length) : (cnts l want).getD i 0 = cntI l want l[i].Id := by
  simp [cnts, h]
theorem bestF_in {l : List Q} {sums : List (Int × Int)} {t : Int × Int} {cnt : List Int} : ∀ (r : List (Nat × Q)) (best : Int), bestF l sums cnt t r best = best ∨ ∃ q ∈ r, bestF l sums cnt t r best = q.1 ∧ cnt.getD q.1 0 ≠ 0
  | [], best => .inl rfl
  | p :: r, best => by
    unfold bestF
    split
    · rcases bestF_in r best with h | ⟨q, hq, h⟩
      · exact .inl h
      · exact .inr ⟨q, by simp [hq], h⟩
    · rename_i hp
      split
      · rcases bestF_in r (p.1 : Int) with h | ⟨q, hq, h⟩
        · exact .inr ⟨p, by simp, h, hp⟩
        · exact .inr ⟨q, by simp [hq], h⟩
      · rcases bestF_in r best with h | ⟨q, hq, h⟩
        · exact .inl h
        · exact .inr ⟨q, by simp [hq], h⟩
theorem bestF_some {l : List Q} {sums : List (Int × Int)} {t : Int × Int} {cnt : List Int} : ∀ (r : List (Nat × Q)), (∃ p ∈ r, cnt.getD p.1 0 ≠ 0) → ∃ q ∈ r, bestF l sums cnt t r (-1) = q.1 ∧ cnt.getD q.1 0 ≠ 0
  | [], ⟨p, hp, _⟩ => by cases hp
  | p :: r, hex => by
    unfold bestF
    split
    · rename_i h0
      obtain ⟨q, hq, e⟩ := hex
      rcases List.mem_cons.1 hq with rfl | hq
      · exact absurd h0 e
      · obtain ⟨q2, hq2, h⟩ := bestF_some r ⟨q, hq, e⟩
        exact ⟨q2, by simp [hq2], h⟩
    · rename_i hp
      rw [if_pos (.inl (by decide))]
      rcases bestF_in (l := l) (sums := sums) (t := t) (cnt := cnt) r (p.1 : Int) with h | ⟨q, hq, h⟩
      · exact ⟨p, by simp, h, hp⟩
      · exact ⟨q, by simp [hq], h⟩
def others (want : List Int) (w : Int) : List Int := want.filter fun x => decide (x ≠ w)
theorem wants_zero {l : List Q} {want : List Int} : wantsE l want = 0 ↔ (∀ w ∈ want, has l w = true) ∧ ∀ w ∈ want, sonIds l w = [] := by
  unfold wantsE
  by_cases h1 : want.any (fun w => !has l w) = true
  · rw [if_pos h1]
    constructor
    · intro h; cases h
    · rintro ⟨h, _⟩
      obtain ⟨w, hw, e⟩ := List.any_eq_true.1 h1
      rw [h w hw] at e; cases e
  · rw [if_neg h1]
    have g1 : ∀ w ∈ want, has l w = true := fun w hw => by
      cases e : has l w with
      | true => rfl
      | false => exact absurd (List.any_eq_true.2 ⟨w, hw, by simp [e]⟩) h1
    by_cases h2 : want.any (fun w => !decide (sonIds l w = [])) = true
    · rw [if_pos h2]
      constructor
      · intro h; cases h
      · rintro ⟨_, h⟩
        obtain ⟨w, hw, e⟩ := List.any_eq_true.1 h2
        simp [h w hw] at e
    · rw [if_neg h2]
      refine ⟨fun _ => ⟨g1, fun w hw => ?_⟩, fun _ => rfl⟩
      rcases Decidable.em (sonIds l w = []) with h | h
      · exact h
      · exact absurd (List.any_eq_true.2 ⟨w, hw, by simp [h]⟩) h2
theorem marks_zero {l : List Q} {want : List Int} {x y : Int} : marksE l want x y = 0 ↔ good x y = true ∧ Rising want ∧ want ≠ [] ∧ wantsE l want = 0 := by
  unfold marksE
  by_cases h1 : good x y = false
  · simp [h1]
  · rw [if_neg h1]
    have h1' : good x y = true := by simpa using h1
    by_cases h2 : Rising want
    · rw [if_pos h2]
      by_cases h3 : want = []
      · simp [h3]
      · simp [h1', h2, h3]
    · simp [h2]
end Go.Idl
end
section
namespace Go.Idl
set_option linter.unusedSimpArgs false
set_option linter.unusedVariables false

/-- a share by its weight: the upper and the lower part of a fraction (the lower may be 0: the greatest of all) -/
structure Fr where
  x : Int
  y : Int
def Fr.ok (f : Fr) : Prop := 0 ≤ f.x ∧ 0 ≤ f.y ∧ (0 < f.x ∨ 0 < f.y)
def Fr.le (f g : Fr) : Prop := f.x * g.y ≤ g.x * f.y
theorem Fr.le_refl (f : Fr) : f.le f := Int.le_refl _
theorem Fr.le_total (f g : Fr) : f.le g ∨ g.le f := by
  unfold Fr.le; exact Int.le_total _ _
theorem Fr.le_trans {f g h : Fr} (hf : f.ok) (hg : g.ok) (hh : h.ok) (h1 : f.le g) (h2 : g.le h) : f.le h := by
  unfold Fr.le at *
  obtain ⟨fx, fy, fp⟩ := hf
  obtain ⟨gx, gy, gp⟩ := hg
  obtain ⟨hx, hy, hp⟩ := hh
  rcases Int.lt_or_eq_of_le gy with g0 | g0
  · have a1 := Int.mul_le_mul_of_nonneg_right h1 hy
    have a2 := Int.mul_le_mul_of_nonneg_right h2 fy
    have e1 : g.x * f.y * h.y = g.x * h.y * f.y := by grind
    have a3 : f.x * g.y * h.y ≤ h.x * g.y * f.y := by omega
    have e2 : f.x * g.y * h.y = (f.x * h.y) * g.y := by grind
    have e3 : h.x * g.y * f.y = (h.x * f.y) * g.y := by grind
    rw [e2, e3] at a3
    exact Int.le_of_mul_le_mul_right a3 g0
  · have g1 : 0 < g.x := by omega
    rw [← g0] at h1 h2
    simp at h2
    have : h.y = 0 := by
      rcases Int.lt_or_eq_of_le hy with k | k
      · have := Int.mul_pos g1 k; omega
      · omega
    rw [this]
    have := Int.mul_nonneg hx fy
    simp; exact this
/-- the weighted share of an amount -/
def frZ (a : Int × Int) (w : Int) (t : Int × Int) : Fr := ⟨(shareZ a t).1, (shareZ a t).2 * w⟩
theorem frZ_ok {a t : Int × Int} {w : Int} (ha : good a.1 a.2 = true) (ht : good t.1 t.2 = true) (hw : 1 ≤ w) : (frZ a w t).ok := by
  obtain ⟨h1, h2, h3⟩ := shareZ_bound ha ht
  refine ⟨h1.1, Int.mul_nonneg h2.1 (by omega), ?_⟩
  rcases h3 with h | h
  · exact .inl h
  · exact .inr (Int.mul_pos h (by omega))
theorem ordZ_fr {a b t : Int × Int} {wa wb : Int} (ha : good a.1 a.2 = true) (hb : good b.1 b.2 = true) (ht : good t.1 t.2 = true) (hwa : 1 ≤ wa) (hwb : 1 ≤ wb) :
    ordZ a wa b wb t = sgn ((frZ a wa t).x * (frZ b wb t).y) ((frZ b wb t).x * (frZ a wa t).y) := by
  obtain ⟨a1, a2, a3⟩ := shareZ_bound ha ht
  obtain ⟨b1, b2, b3⟩ := shareZ_bound hb ht
  unfold ordZ frZ
  simp only
  generalize (shareZ a t).1 = an at *
  generalize (shareZ a t).2 = ad at *
  generalize (shareZ b t).1 = bn at *
  generalize (shareZ b t).2 = bd at *
  by_cases h : ad = 0 ∨ bd = 0
  · rw [if_pos h]
    by_cases h1 : ad = 0
    · subst h1
      by_cases h2 : bd = 0
      · subst h2; simp [sgn]
      · have p1 : 0 < an := by omega
        have p2 : 0 < bd * wb := Int.mul_pos (by omega) (by omega)
        have p3 := Int.mul_pos p1 p2
        simp only [Int.zero_mul, Int.mul_zero]
        unfold sgn
        rw [if_neg (by omega), if_pos p3]
        omega
    · have h2 : bd = 0 := by rcases h with k | k; exact absurd k h1; exact k
      subst h2
      have p1 : 0 < bn := by omega
      have p2 : 0 < ad * wa := Int.mul_pos (by omega) (by omega)
      have p3 := Int.mul_pos p1 p2
      simp only [Int.zero_mul, Int.mul_zero]
      unfold sgn
      rw [if_pos p3]
      omega
  · rw [if_neg h, Int.mul_assoc, Int.mul_assoc]
theorem sgn_neg {x y : Int} : sgn x y < 0 ↔ x < y := by
  unfold sgn; split
  · constructor <;> intro _ <;> omega
  · split <;> constructor <;> intro _ <;> omega
/-- the best one: none that counts is lesser, and of those that are alike it stands first -/
theorem bestF_least {l : List Q} {sums : List (Int × Int)} {cnt : List Int} {t : Int × Int} (F : Nat → Fr) (B : Nat → Prop) (R : Nat × Q → Prop) (hF : ∀ b, B b → (F b).ok) (hord : ∀ (p : Nat × Q) (b : Nat), R p → B b → (ordZ (sums.getD p.1 (0, 0)) p.2.Wt (sums.getD ((b : Int)).toNat (0, 0)) (l.getD ((b : Int)).toNat q0).Wt t < 0 ↔ ¬ (F b).le (F p.1))) :
    ∀ (r : List (Nat × Q)) (b0 : Int), (∀ p ∈ r, R p ∧ B p.1) → (b0 = -1 ∨ ∃ b : Nat, b0 = b ∧ B b ∧ ∀ p ∈ r, b < p.1) → (r.map (·.1)).Pairwise (· < ·) → ∀ b : Nat, bestF l sums cnt t r b0 = b →
      B b ∧ (∀ p ∈ r, cnt.getD p.1 0 ≠ 0 → (F b).le (F p.1) ∧ ((F p.1).le (F b) → b ≤ p.1)) ∧ (∀ c : Nat, b0 = c → (F b).le (F c) ∧ ((F c).le (F b) → b ≤ c))
  | [], b0, _, hb0, _, b, h => by
    rw [bestF] at h
    rcases hb0 with e | ⟨c0, e, hB, _⟩
    · omega
    · have : c0 = b := by omega
      subst this
      refine ⟨hB, by simp, fun c hc => ?_⟩
      have : c0 = c := by omega
      subst this; exact ⟨Fr.le_refl _, fun _ => Nat.le_refl _⟩
  | p :: r, b0, hr, hb0, hp, b, h => by
    rw [List.map_cons, List.pairwise_cons] at hp
    have hlt : ∀ q ∈ r, p.1 < q.1 := fun q hq => hp.1 _ (List.mem_map.2 ⟨q, hq, rfl⟩)
    have hr' : ∀ q ∈ r, R q ∧ B q.1 := fun q hq => hr q (by simp [hq])
    obtain ⟨hRp, hBp⟩ := hr p (by simp)
    rw [bestF] at h
    by_cases h0 : cnt.getD p.1 0 = 0
    · rw [if_pos h0] at h
      obtain ⟨g0, g1, g2⟩ := bestF_least F B R hF hord r b0 hr' (hb0.imp id fun ⟨c, e, k0, k⟩ => ⟨c, e, k0, fun q hq => k q (by simp [hq])⟩) hp.2 b h
      refine ⟨g0, fun q hq hc => ?_, g2⟩
      rcases List.mem_cons.1 hq with rfl | hq
      · exact absurd h0 hc
      · exact g1 q hq hc
    rw [if_neg h0] at h
    split at h
    · rename_i hc
      obtain ⟨g0, g1, g2⟩ := bestF_least F B R hF hord r (p.1 : Int) hr' (.inr ⟨p.1, rfl, hBp, hlt⟩) hp.2 b h
      obtain ⟨k1, k2⟩ := g2 p.1 rfl
      refine ⟨g0, fun q hq hq2 => ?_, fun c hc2 => ?_⟩
      · rcases List.mem_cons.1 hq with rfl | hq
        · exact ⟨k1, k2⟩
        · exact g1 q hq hq2
      · have hBc : B c := by
          rcases hb0 with e | ⟨c', e, k, _⟩
          · omega
          · have : c' = c := by omega
            subst this; exact k
        subst hc2
        have h1 : ¬ (F c).le (F p.1) := by
          rcases hc with k | k
          · omega
          · exact (hord p c hRp hBc).1 k
        have h2 : (F p.1).le (F c) := ((F c).le_total (F p.1)).resolve_left h1
        refine ⟨Fr.le_trans (hF _ g0) (hF _ hBp) (hF _ hBc) k1 h2, fun h3 => ?_⟩
        exact absurd (Fr.le_trans (hF _ hBc) (hF _ g0) (hF _ hBp) h3 k1) h1
    · rename_i hc
      have hb : ∃ c : Nat, b0 = c ∧ B c ∧ ∀ q ∈ p :: r, c < q.1 := by
        rcases hb0 with e | e
        · exact absurd (.inl (by omega)) hc
        · exact e
      obtain ⟨c, rfl, hBc, hcl⟩ := hb
      obtain ⟨g0, g1, g2⟩ := bestF_least F B R hF hord r (c : Int) hr' (.inr ⟨c, rfl, hBc, fun q hq => hcl q (by simp [hq])⟩) hp.2 b h
      obtain ⟨k1, k2⟩ := g2 c rfl
      have h1 : (F c).le (F p.1) := Classical.byContradiction fun k => hc (.inr ((hord p c hRp hBc).2 k))
      refine ⟨g0, fun q hq hq2 => ?_, g2⟩
      rcases List.mem_cons.1 hq with rfl | hq
      · refine ⟨Fr.le_trans (hF _ g0) (hF _ hBc) (hF _ hBp) k1 h1, fun h3 => ?_⟩
        have := k2 (Fr.le_trans (hF _ hBc) (hF _ hBp) (hF _ g0) h1 h3)
        have := hcl q (by simp)
        omega
      · exact g1 q hq hq2
end Go.Idl
end
section
namespace Go.Idl
set_option linter.unusedSimpArgs false
set_option linter.unusedVariables false

theorem path_idx {l : List Q} (hf : form l = true) (id : Int) {k : Nat} (hk : k < (path l id).length) (hk2 : k < (up l id).length) : ∃ h : (up l id)[k].1 < l.length, l[(up l id)[k].1].Id = (path l id)[k] := by
  obtain ⟨g1, g2⟩ := up_mem hf (List.getElem_mem hk2)
  exact ⟨g1, by simp [path, ← g2]⟩
theorem up_dec {l : List Q} (hf : form l = true) (id : Int) {i j : Nat} (hi : i < (up l id).length) (hj : j < (up l id).length) (hij : i < j) : (up l id)[j].1 < (up l id)[i].1 := by
  have := List.pairwise_iff_getElem.1 (up_sorted hf _ id (Nat.le_refl _)) i j (by simpa using hi) (by simpa using hj) hij
  simpa using this
/-- where a queue stands on a way, its parent comes next -/
theorem path_next {l : List Q} (hf : form l = true) {id : Int} {j a : Nat} (hj : j < l.length) (ha : a < l.length) (hp : l[j].Par = l[a].Id) {k : Nat} (hk : k < (path l id).length) (e : (path l id)[k] = l[j].Id) : ∃ h : k + 1 < (path l id).length, (path l id)[k + 1] = l[a].Id := by
  have hr := form_rises hf
  have hhas : has l id = true := by
    cases e : has l id with
    | true => rfl
    | false => rw [path_eq hf, if_neg (by simp [e])] at hk; simp at hk
  rcases Nat.lt_or_ge (k + 1) (path l id).length with h | h
  · refine ⟨h, ?_⟩
    have hson := path_son hf id (i := k) h
    rw [e] at hson
    unfold sonIds at hson
    obtain ⟨q, hq, eq⟩ := List.mem_map.1 hson
    obtain ⟨hq1, hq2⟩ := List.mem_filter.1 hq
    obtain ⟨s, hs, rfl⟩ := List.getElem_of_mem hq1
    have : s = j := rises_inj hr hs hj eq
    subst this
    have : l[s].Par = (path l id)[k + 1] := by simpa using hq2
    rw [← this, hp]
  · exfalso
    obtain ⟨r, e1, e2⟩ := path_head hf hhas
    rw [List.getLast?_eq_getElem?, List.getElem?_eq_getElem (by omega)] at e2
    have e3 : (path l id).length - 1 = k := by omega
    simp only [e3, Option.some.injEq] at e2
    rw [e] at e2
    have h0 := form_root hf (form_pos hf)
    have : j = 0 := rises_inj hr hj (form_pos hf) (by rw [e2, h0.1])
    subst this
    rw [h0.2] at hp
    have := id_nonneg hf ha
    omega
theorem path_up {l : List Q} (hf : form l = true) {id : Int} {j a : Nat} (hj : j < l.length) (ha : a < l.length) (hp : l[j].Par = l[a].Id) (hm : l[j].Id ∈ path l id) : l[a].Id ∈ path l id := by
  obtain ⟨k, hk, e⟩ := List.getElem_of_mem hm
  obtain ⟨h, e2⟩ := path_next hf hj ha hp hk e
  rw [← e2]; exact List.getElem_mem h
theorem path_gap {l : List Q} (hf : form l = true) {id : Int} {j a b : Nat} (hj : j < l.length) (ha : a < l.length) (hb : b < l.length) (hp : l[j].Par = l[a].Id) (hm : l[j].Id ∈ path l id) (hbm : l[b].Id ∈ path l id) (h1 : a < b) (h2 : b < j) : False := by
  have hr := form_rises hf
  obtain ⟨k, hk, e⟩ := List.getElem_of_mem hm
  obtain ⟨h, e2⟩ := path_next hf hj ha hp hk e
  obtain ⟨m, hm2, e3⟩ := List.getElem_of_mem hbm
  have hlen : (path l id).length = (up l id).length := by simp [path]
  obtain ⟨g1, g2⟩ := path_idx hf id hk (by omega)
  obtain ⟨g3, g4⟩ := path_idx hf id h (by omega)
  obtain ⟨g5, g6⟩ := path_idx hf id hm2 (by omega)
  have ej : (up l id)[k].1 = j := rises_inj hr g1 hj (by rw [g2, e])
  have ea : (up l id)[k + 1].1 = a := rises_inj hr g3 ha (by rw [g4, e2])
  have eb : (up l id)[m].1 = b := rises_inj hr g5 hb (by rw [g6, e3])
  rcases Nat.lt_trichotomy m k with h3 | h3 | h3
  · have := up_dec hf id (i := m) (j := k) (by omega) (by omega) h3; omega
  · subst h3; omega
  · rcases Nat.lt_or_eq_of_le (show k + 1 ≤ m by omega) with h4 | h4
    · have := up_dec hf id (i := k + 1) (j := m) (by omega) (by omega) h4; omega
    · subst h4; omega
theorem path_le {l : List Q} (hf : form l = true) {a s : Nat} (ha : a < l.length) (hs : s < l.length) (hm : l[s].Id ∈ path l l[a].Id) : s ≤ a := by
  have hr := form_rises hf
  unfold path at hm
  obtain ⟨p, hp, e⟩ := List.mem_map.1 hm
  have h1 := up_lt hf _ l[a].Id (Nat.le_refl _) p hp
  obtain ⟨g1, g2⟩ := up_mem hf hp
  rw [g2] at e
  have := rises_inj hr g1 hs e
  have e2 : rank l l[a].Id = a + 1 := by simp [rank, has_at ha, pos_at hr ha]
  omega
theorem par_above {l : List Q} (hf : form l = true) {s b : Nat} (hs : s < l.length) (hb : b < l.length) (hp : l[s].Par = l[b].Id) : b < s := by
  have := sonsF_has l[b].Id l 0 s hs hp
  have := son_above hf hb this
  simpa using this
/-- the way down -/
theorem pick_way {l : List Q} {sums : List (Int × Int)} {cnt : List Int} {t : Int × Int} (hf : form l = true) : ∀ (n a : Nat) (ha : a < l.length), l.length - n ≤ a → ∃ hz : pickF l sums cnt t n a < l.length, l[a].Id ∈ path l l[pickF l sums cnt t n a].Id ∧
    ∀ s b (hs : s < l.length) (hb : b < l.length), a ≤ b → l[s].Id ∈ path l l[pickF l sums cnt t n a].Id → l[s].Par = l[b].Id → bestZ l sums cnt t b = s
  | 0, a, ha, hn => by omega
  | n + 1, a, ha, hn => by
    have hr := form_rises hf
    rw [pickF]
    by_cases hb : bestZ l sums cnt t a < 0
    · rw [if_pos hb]
      refine ⟨ha, path_self hf (has_at ha), fun s b hs hb2 hab hm hp => ?_⟩
      have h1 := path_le hf ha hs hm
      have h2 := par_above hf hs hb2 hp
      omega
    · rw [if_neg hb]
      rcases bestZ_range (sums := sums) (cnt := cnt) (t := t) hf ha with h | ⟨j, h, hj, haj⟩
      · rw [h] at hb; exact absurd (by decide) hb
      have hpar : l[j].Par = l[a].Id := by
        have hga : l.getD a q0 = l[a] := by simp [ha]
        have h' := h
        unfold bestZ at h'
        rw [hga] at h'
        rcases bestF_range (l := l) (sums := sums) (cnt := cnt) (t := t) (sons l l[a].Id) (-1) with h2 | ⟨p, hp, h2⟩
        · omega
        · obtain ⟨g1, g2, g3⟩ := sons_at hp
          have : p.1 = j := by omega
          subst this
          rw [← g2]; exact g3
      have hj0 : (bestZ l sums cnt t a).toNat = j := by omega
      rw [hj0]
      obtain ⟨hz, i1, i2⟩ := pick_way (sums := sums) (cnt := cnt) (t := t) hf n j hj (by omega)
      have hzj := path_le hf hz hj i1
      refine ⟨hz, path_up hf hj ha hpar i1, fun s b hs hb2 hab hm hp => ?_⟩
      rcases Nat.lt_or_ge b j with hlt | hge
      · rcases Nat.lt_or_eq_of_le hab with h3 | h3
        · exact (path_gap hf hj ha hb2 hpar i1 (path_up hf hs hb2 hp hm) h3 hlt).elim
        · subst h3
          have hne : l[a].Id ≠ l[pickF l sums cnt t n j].Id := fun e => by
            have := rises_inj hr ha hz e
            omega
          obtain ⟨s0, hs0, _, _, huni⟩ := way_son hf ha (path_up hf hj ha hpar i1) hne
          have e1 := huni j hj hpar i1
          have e2 := huni s hs hp hm
          rw [h, e1, e2]
      · exact i2 s b hs hb2 hge hm hp
end Go.Idl
end
section
namespace Go.Idl
set_option linter.unusedSimpArgs false
set_option linter.unusedVariables false

theorem sonsF_sorted (id : Int) : ∀ (r : List Q) (i : Nat), ((sonsF id r i).map (·.1)).Pairwise (· < ·)
  | [], _ => List.Pairwise.nil
  | q :: r, i => by
    unfold sonsF
    split
    · rw [List.map_cons, List.pairwise_cons]
      refine ⟨fun a ha => ?_, sonsF_sorted id r (i + 1)⟩
      obtain ⟨p, hp, rfl⟩ := List.mem_map.1 ha
      have := (sonsF_nodup id r (i + 1)).2 p hp
      simp only; omega
    · exact sonsF_sorted id r (i + 1)
theorem check_wt {l : List Q} (hc : check l = 0) {c : Nat} (h : c < l.length) : 1 ≤ l[c].Wt ∧ l[c].Wt ≤ 1048576 := by
  have := args_mem (check_args hc) _ (List.getElem_mem h)
  simp only [okQ, Bool.and_eq_true, decide_eq_true_eq] at this
  omega
theorem tot_good {l : List Q} {uses : List U} (ho : overs l uses = false) {c : Nat} (h : c < l.length) : good (tot l uses l[c].Id).1 (tot l uses l[c].Id).2 = true := overs_iff.1 ho _ (List.getElem_mem h)
/-- no son that is wished has a lesser share by its weight than the best one -/
theorem best_frac {l : List Q} {uses : List U} {want : List Int} {t : Int × Int} (hc : check l = 0) (ho : overs l uses = false) (ht : good t.1 t.2 = true) {a s : Nat} (ha : a < l.length) (hb : bestZ l (sumsL l uses) (cnts l want) t a = s) :
    ∃ hs : s < l.length, ∀ k (hk : k < l.length), l[k].Par = l[a].Id → cntI l want l[k].Id ≠ 0 →
      (frZ (tot l uses l[s].Id) l[s].Wt t).le (frZ (tot l uses l[k].Id) l[k].Wt t) ∧ ((frZ (tot l uses l[k].Id) l[k].Wt t).le (frZ (tot l uses l[s].Id) l[s].Wt t) → s ≤ k) := by
  have hwt : ∀ c (h : c < l.length), 1 ≤ l[c].Wt := fun c h => (check_wt hc h).1
  have hgd : ∀ c (h : c < l.length), good (tot l uses l[c].Id).1 (tot l uses l[c].Id).2 = true := fun c h => tot_good ho h
  have hF : ∀ c (h : c < l.length), frZ (tot l uses (l.getD c q0).Id) (l.getD c q0).Wt t = frZ (tot l uses l[c].Id) l[c].Wt t := fun c h => by simp [h]
  have hga : l.getD a q0 = l[a] := by simp [ha]
  unfold bestZ at hb
  rw [hga] at hb
  obtain ⟨hs, g1, _⟩ := bestF_least (l := l) (sums := sumsL l uses) (cnt := cnts l want) (t := t) (fun c => frZ (tot l uses (l.getD c q0).Id) (l.getD c q0).Wt t) (fun c => c < l.length) (fun p => ∃ h : p.1 < l.length, p.2 = l[p.1])
    (fun c h => by rw [hF c h]; exact frZ_ok (hgd c h) ht (hwt c h))
    (fun p c hp' hc' => by
      obtain ⟨h1, h2⟩ := hp'
      have e1 : (sumsL l uses).getD p.1 (0, 0) = tot l uses l[p.1].Id := by simp [sumsL, h1]
      have e2 : (sumsL l uses).getD ((c : Int)).toNat (0, 0) = tot l uses l[c].Id := by simp [sumsL, hc']
      have e3 : l.getD ((c : Int)).toNat q0 = l[c] := by simp [hc']
      rw [e1, e2, e3, h2, hF c hc', hF p.1 h1, ordZ_fr (hgd _ h1) (hgd c hc') ht (hwt _ h1) (hwt c hc'), sgn_neg]
      unfold Fr.le
      omega)
    (sons l l[a].Id) (-1) (fun p hp' => by obtain ⟨h1, h2, _⟩ := sons_at hp'; exact ⟨⟨h1, h2⟩, h1⟩) (.inl rfl) (sonsF_sorted _ l 0) s hb
  refine ⟨hs, fun k hk hp hw => ?_⟩
  have hin := sonsF_has l[a].Id l 0 k hk hp
  obtain ⟨h1, h2⟩ := g1 _ hin (by simp only [Nat.zero_add]; rw [cnts_get hk]; exact hw)
  simp only [Nat.zero_add] at h1 h2
  rw [hF s hs, hF k hk] at h1 h2
  exact ⟨h1, h2⟩
/-- a part of the way of a queue -/
theorem path_trans_n {l : List Q} (hf : form l = true) {x y : Int} (h1 : y ∈ path l x) : ∀ (n : Nat) (w : Int), rank l w ≤ n → x ∈ path l w → y ∈ path l w
  | n, w, hn, h2 => by
    rw [path_eq hf] at h2
    split at h2
    · rename_i hh
      rcases List.mem_cons.1 h2 with rfl | h2
      · exact h1
      · have hr := rank_par hf hh
        rw [path_eq hf, if_pos hh]
        cases n with
        | zero => omega
        | succ n => exact List.mem_cons_of_mem _ (path_trans_n hf h1 n _ (by omega) h2)
    · cases h2
theorem path_trans {l : List Q} (hf : form l = true) {x y w : Int} (h1 : y ∈ path l x) (h2 : x ∈ path l w) : y ∈ path l w := path_trans_n hf h1 _ w (Nat.le_refl _) h2
def frP (p : Int × Int) : Fr := ⟨p.1, p.2⟩
theorem partZ_ok {x y : Int} (hx : 0 ≤ x ∧ x ≤ 1099511627776) (hy : 0 ≤ y ∧ y ≤ 1099511627776) : (frP (partZ x y)).ok := by
  obtain ⟨h1, h2, h3⟩ := partZ_bound hx hy
  exact ⟨h1.1, h2.1, h3⟩
theorem partZ_mono {x x' y : Int} (h : x ≤ x') (h0 : 0 ≤ x) (hy : 0 ≤ y) : (frP (partZ x y)).le (frP (partZ x' y)) := by
  unfold partZ frP Fr.le
  split
  · split <;> split <;> simp only <;> omega
  · exact Int.mul_le_mul_of_nonneg_right h hy
theorem shareZ_mono {a b t : Int × Int} (ha : good a.1 a.2 = true) (hb : good b.1 b.2 = true) (ht : good t.1 t.2 = true) (h1 : a.1 ≤ b.1) (h2 : a.2 ≤ b.2) : (frP (shareZ a t)).le (frP (shareZ b t)) := by
  have ga := good_iff'.1 ha
  have gb := good_iff'.1 hb
  have gt := good_iff'.1 ht
  have o1 := partZ_ok ga.1 gt.1
  have o2 := partZ_ok ga.2 gt.2
  have o3 := partZ_ok gb.1 gt.1
  have o4 := partZ_ok gb.2 gt.2
  have m1 := partZ_mono h1 ga.1.1 gt.1.1
  have m2 := partZ_mono h2 ga.2.1 gt.2.1
  have top : ∀ u : Int × Int, (frP (partZ u.1 t.1)).le (frP (shareZ u t)) ∧ (frP (partZ u.2 t.2)).le (frP (shareZ u t)) := fun u => by
    unfold shareZ frP Fr.le
    split
    · simp only; omega
    · simp only; omega
  have os : (frP (shareZ b t)).ok := by unfold shareZ; split; exact o4; exact o3
  obtain ⟨k1, k2⟩ := top b
  have e : shareZ a t = partZ a.2 t.2 ∨ shareZ a t = partZ a.1 t.1 := by unfold shareZ; split; exact .inl rfl; exact .inr rfl
  rcases e with e | e
  · rw [e]; exact Fr.le_trans o2 o4 os m2 k2
  · rw [e]; exact Fr.le_trans o1 o3 os m1 k1
theorem frZ_mono {a b t : Int × Int} {w : Int} (ha : good a.1 a.2 = true) (hb : good b.1 b.2 = true) (ht : good t.1 t.2 = true) (hw : 1 ≤ w) (h1 : a.1 ≤ b.1) (h2 : a.2 ≤ b.2) : (frZ a w t).le (frZ b w t) := by
  have h := shareZ_mono ha hb ht h1 h2
  unfold frP Fr.le at h
  unfold frZ Fr.le
  simp only at h ⊢
  have := Int.mul_le_mul_of_nonneg_right h (show 0 ≤ w by omega)
  rw [Int.mul_assoc, Int.mul_assoc] at this
  exact this
theorem bestF_congr {l : List Q} {sums sums' : List (Int × Int)} {cnt : List Int} {t : Int × Int} : ∀ (r : List (Nat × Q)) (best : Int), (∀ p ∈ r, sums.getD p.1 (0, 0) = sums'.getD p.1 (0, 0)) → (0 ≤ best → sums.getD best.toNat (0, 0) = sums'.getD best.toNat (0, 0)) → bestF l sums cnt t r best = bestF l sums' cnt t r best
  | [], _, _, _ => rfl
  | p :: r, best, h, hb => by
    have h1 := h p (by simp)
    have h2 : ∀ q ∈ r, sums.getD q.1 (0, 0) = sums'.getD q.1 (0, 0) := fun q hq => h q (by simp [hq])
    unfold bestF
    rw [bestF_congr r best h2 hb, bestF_congr r (p.1 : Int) h2 (fun _ => by simpa using h1)]
    by_cases h0 : best < 0
    · simp [h0]
    · rw [h1, hb (by omega)]
theorem sumsL_get {l : List Q} {uses : List U} {i : Nat} (h : i < l.length) : (sumsL l uses).getD i (0, 0) = tot l uses l[i].Id := by simp [sumsL, h]
/-- in a part of the tree of which all sums stay, the way down stays -/
theorem pick_congr {l : List Q} {uses uses' : List U} {want : List Int} {t : Int × Int} (hf : form l = true) (T : Nat → Prop) (hT : ∀ a (ha : a < l.length) j (hj : j < l.length), T a → l[j].Par = l[a].Id → T j) (hs : ∀ a (ha : a < l.length), T a → tot l uses l[a].Id = tot l uses' l[a].Id) :
    ∀ (n a : Nat) (ha : a < l.length), T a → pickF l (sumsL l uses) (cnts l want) t n a = pickF l (sumsL l uses') (cnts l want) t n a
  | 0, a, ha, _ => rfl
  | n + 1, a, ha, hTa => by
    have hga : l.getD a q0 = l[a] := by simp [ha]
    have e : bestZ l (sumsL l uses) (cnts l want) t a = bestZ l (sumsL l uses') (cnts l want) t a := by
      unfold bestZ
      rw [hga]
      refine bestF_congr _ _ (fun p hp => ?_) (fun h => by omega)
      obtain ⟨h1, h2, h3⟩ := sons_at hp
      rw [sumsL_get h1, sumsL_get h1]
      exact hs _ h1 (hT a ha _ h1 hTa (by rw [← h2]; exact h3))
    rw [pickF, pickF, e]
    split
    · rfl
    · rename_i h0
      rcases bestZ_range (sums := sumsL l uses') (cnt := cnts l want) (t := t) hf ha with h | ⟨j, h, hj, haj⟩
      · rw [h] at h0; exact absurd (by decide) h0
      have hj2 : l[j].Par = l[a].Id := by
        have h' := h
        unfold bestZ at h'
        rw [hga] at h'
        rcases bestF_range (l := l) (sums := sumsL l uses') (cnt := cnts l want) (t := t) (sons l l[a].Id) (-1) with h2 | ⟨p, hp, h2⟩
        · omega
        · obtain ⟨g1, g2, g3⟩ := sons_at hp
          have : p.1 = j := by omega
          subst this
          rw [← g2]; exact g3
      rw [show (bestZ l (sumsL l uses') (cnts l want) t a).toNat = j by omega]
      exact pick_congr hf T hT hs n j hj (hT a ha j hj hTa hj2)
/-- the choice stays where another part of the tree uses more -/
theorem grows {l : List Q} {uses : List U} {want : List Int} {t : Int × Int} {u : U} (hE : chooseE l uses want t = 0) (hE' : chooseE l (uses ++ [u]) want t = 0)
    (hd : ∀ s (hs : s < l.length), l[s].Par = 0 → l[s].Id ∈ path l (pickAt l (sumsL l uses) t (cnts l want)) → l[s].Id ∉ path l u.q) :
    pickAt l (sumsL l (uses ++ [u])) t (cnts l want) = pickAt l (sumsL l uses) t (cnts l want) := by
  have hs : sumsE l uses = 0 := by
    rcases Decidable.em (sumsE l uses = 0) with h | h
    · exact h
    · simp [chooseE, h] at hE
  have hs' : sumsE l (uses ++ [u]) = 0 := by
    rcases Decidable.em (sumsE l (uses ++ [u]) = 0) with h | h
    · exact h
    · simp [chooseE, h] at hE'
  have hM : marksE l want t.1 t.2 = 0 := by simpa [chooseE, hs] using hE
  obtain ⟨hgd, hR, hne, hWz⟩ := marks_zero.1 hM
  obtain ⟨hh, hlf⟩ := wants_zero.1 hWz
  obtain ⟨hc, hu0, ho⟩ := sumsE_zero.1 hs
  obtain ⟨_, hu0', ho'⟩ := sumsE_zero.1 hs'
  have hf := check_form hc
  have hr := check_rises hc
  have h0 := form_pos hf
  have hroot := form_root hf h0
  have hgu : good u.c u.m = true := by
    have := usesE_mem hu0' u (by simp)
    unfold useE at this
    split at this
    · cases this
    · split at this
      · cases this
      · split at this
        · cases this
        · rename_i h; simpa using h
  have gu := good_iff.1 hgu
  unfold pickAt pickN at hd ⊢
  have hga : l.getD 0 q0 = l[0] := by simp [h0]
  have hlen : l.length = l.length - 1 + 1 := by omega
  have hcnt : cntI l want l[0].Id ≠ 0 := by
    obtain ⟨w, r, rfl⟩ := List.exists_cons_of_ne_nil hne
    exact cntI_pos.2 ⟨w, by simp, by rw [hroot.1]; exact root_mem hf (hh w (by simp))⟩
  -- the first step
  by_cases hex : ∃ p ∈ sons l l[0].Id, (cnts l want).getD p.1 0 ≠ 0
  case neg =>
    have e : ∀ sums, bestZ l sums (cnts l want) t 0 = -1 := fun sums => by
      unfold bestZ
      rw [hga]
      rcases bestF_in (l := l) (sums := sums) (t := t) (cnt := cnts l want) (sons l l[0].Id) (-1) with h | ⟨q, hq, _, h⟩
      · exact h
      · exact absurd ⟨q, hq, h⟩ hex
    have e2 : ∀ sums, pickF l sums (cnts l want) t l.length 0 = 0 := fun sums => by
      rw [hlen, pickF, if_pos (by rw [e]; decide)]
    rw [e2, e2]
  have hb := fun sums => bestF_some (l := l) (sums := sums) (t := t) (cnt := cnts l want) (sons l l[0].Id) hex
  obtain ⟨q1, hq1, e1, c1⟩ := hb (sumsL l uses)
  obtain ⟨q2, hq2, e2, c2⟩ := hb (sumsL l (uses ++ [u]))
  obtain ⟨l1, v1, p1⟩ := sons_at hq1
  obtain ⟨l2, v2, p2⟩ := sons_at hq2
  rw [v1] at p1
  rw [v2] at p2
  generalize q1.1 = i at *
  generalize q2.1 = j at *
  have b1 : bestZ l (sumsL l uses) (cnts l want) t 0 = i := by unfold bestZ; rw [hga]; exact e1
  have b2 : bestZ l (sumsL l (uses ++ [u])) (cnts l want) t 0 = j := by unfold bestZ; rw [hga]; exact e2
  rw [cnts_get l1] at c1
  rw [cnts_get l2] at c2
  obtain ⟨_, g1⟩ := best_frac hc ho hgd h0 b1
  obtain ⟨_, g2⟩ := best_frac hc ho' hgd h0 b2
  have st1 : pickF l (sumsL l uses) (cnts l want) t l.length 0 = pickF l (sumsL l uses) (cnts l want) t (l.length - 1) i := by
    rw [hlen, pickF, if_neg (by rw [b1]; omega), b1]; simp
  have st2 : pickF l (sumsL l (uses ++ [u])) (cnts l want) t l.length 0 = pickF l (sumsL l (uses ++ [u])) (cnts l want) t (l.length - 1) j := by
    rw [hlen, pickF, if_neg (by rw [b2]; omega), b2]; simp
  have hi0 := par_above hf l1 h0 p1
  have hway := (pick_way (sums := sumsL l uses) (cnt := cnts l want) (t := t) hf (l.length - 1) i l1 (by omega))
  rw [st1] at hd ⊢
  rw [st2]
  obtain ⟨hz, hw1, _⟩ := hway
  have hgz : l.getD (pickF l (sumsL l uses) (cnts l want) t (l.length - 1) i) q0 = l[pickF l (sumsL l uses) (cnts l want) t (l.length - 1) i] := by simp [hz]
  have hnot : l[i].Id ∉ path l u.q := hd i l1 (by rw [p1]; exact hroot.1) (by rw [hgz]; exact hw1)
  have hsame : ∀ a (ha : a < l.length), l[i].Id ∈ path l l[a].Id → tot l uses l[a].Id = tot l (uses ++ [u]) l[a].Id := fun a ha h => by
    rw [tot_snoc, if_neg (fun k => hnot (path_trans hf h k))]
  have hmono : (frZ (tot l uses l[j].Id) l[j].Wt t).le (frZ (tot l (uses ++ [u]) l[j].Id) l[j].Wt t) := by
    refine frZ_mono (tot_good ho l2) (tot_good ho' l2) hgd (check_wt hc l2).1 ?_ ?_ <;>
    · rw [tot_snoc]; split
      · simp only; omega
      · exact Int.le_refl _
  have eself := hsame i l1 (path_self hf (has_at l1))
  have o1 := frZ_ok (w := l[i].Wt) (tot_good ho l1) hgd (check_wt hc l1).1
  have o2 := frZ_ok (w := l[j].Wt) (tot_good ho l2) hgd (check_wt hc l2).1
  have o3 := frZ_ok (w := l[j].Wt) (tot_good ho' l2) hgd (check_wt hc l2).1
  obtain ⟨a1, a2⟩ := g1 j l2 p2 c2
  obtain ⟨a3, a4⟩ := g2 i l1 p1 c1
  rw [← eself] at a3 a4
  have eij : j = i := by
    have k1 := a2 (Fr.le_trans o2 o3 o1 hmono a3)
    have k2 := a4 (Fr.le_trans o1 o2 o3 a1 hmono)
    omega
  subst eij
  have := pick_congr (uses := uses) (uses' := uses ++ [u]) (want := want) (t := t) hf (fun a => ∃ ha : a < l.length, l[j].Id ∈ path l l[a].Id)
    (fun a ha k hk hTa hp => ⟨hk, by
      obtain ⟨_, hTa⟩ := hTa
      refine path_trans hf hTa ?_
      have hk' := path_self hf (has_at hk)
      exact path_up hf hk ha hp hk'⟩)
    (fun a ha hTa => hsame a ha hTa.2) (l.length - 1) j l2 ⟨l2, path_self hf (has_at l2)⟩
  rw [this]
end Go.Idl
end
section
namespace Go.Idl
open Go.Proofs
set_option linter.unusedSimpArgs false
set_option linter.unusedVariables false
set_option maxRecDepth 8000
set_option maxHeartbeats 2000000
variable (b c d : Bool)

end Go.Idl
end
section
namespace Go.Idl
set_option linter.unusedSimpArgs false
set_option linter.unusedVariables false

/-- a lease -/
structure Le where
  t : Int
  q : Int
  n : Int
  cs : List Int
  m : Int
  s : Int
  u : Int
  st : Bool
@[simp] def encLe (x : Le) : D := .agg [.int .i64 x.t, .int .i64 x.q, .int .i64 x.n, .sl false 1 (x.cs.map fun n => .int .i64 n), .int .i64 x.m, .int .i64 x.s, .int .i64 x.u, .bool x.st]
def cpuOf (q : Int) (x : Le) : Int := if x.q = q then (x.cs.length : Int) else 0
def memOf (q : Int) (x : Le) : Int := if x.q = q then x.m else 0
/-- what the leases of a queue use together -/
def sumL (ls : List Le) (q : Int) : Int × Int := (sumI (cpuOf q) ls, sumI (memOf q) ls)
/-! ### the program's way: an assoc list -/
def lookA : List (Int × Int × Int) → Int → Int × Int
  | [], _ => (0, 0)
  | p :: r, q => if p.1 = q then p.2 else lookA r q
def putA : List (Int × Int × Int) → Int → Int × Int → List (Int × Int × Int)
  | [], q, v => [(q, v)]
  | p :: r, q, v => if p.1 = q then (q, v) :: r else p :: putA r q v
def nextV (A : List (Int × Int × Int)) (x : Le) : Int × Int := ((lookA A x.q).1 + x.cs.length, (lookA A x.q).2 + x.m)
def stepA (s : List (Int × Int × Int) × Bool) (x : Le) : List (Int × Int × Int) × Bool :=
  if good (nextV s.1 x).1 (nextV s.1 x).2 = true then (putA s.1 x.q (nextV s.1 x), s.2) else (putA s.1 x.q (lookA s.1 x.q), true)
def runA (ls : List Le) : List (Int × Int × Int) × Bool := ls.foldl stepA ([], false)
structure RunOK (ls : List Le) : Prop where
  nodup : ((runA ls).1.map (·.1)).Nodup
  mem : ∀ q, q ∈ (runA ls).1.map (·.1) ↔ ∃ x ∈ ls, x.q = q
  vals : ∀ p ∈ (runA ls).1, goodP p.2 = true
  len : (runA ls).1.length ≤ ls.length
  sums : (runA ls).2 = false → ∀ q, lookA (runA ls).1 q = sumL ls q
  over : (runA ls).2 = true → ∃ x ∈ ls, goodP (sumL ls x.q) = false
end Go.Idl
end
section
namespace Go.Idl
set_option linter.unusedVariables false

structure Nd where
  id : Int
  k : Int
  m : Int
  i : Int
  b : Int
  deriving DecidableEq
structure Tk where
  id : Int
  q : Int
  c : Int
  m : Int
  w : Int
  tk : List Int
  st : Int
  deriving DecidableEq
structure Hu where
  q : Int
  s : Int
  deriving DecidableEq
structure Sta where
  long : Int
  pat : Int
  now : Int
  qs : List Q
  ns : List Nd
  ts : List Tk
  ls : List Le
  hs : List Hu
@[simp] def encNd (n : Nd) : D := .agg [.int .i64 n.id, .int .i64 n.k, .int .i64 n.m, .int .i64 n.i, .int .i64 n.b]
@[simp] def encTk (b : Bool) (t : Tk) : D := .agg [.int .i64 t.id, .int .i64 t.q, .int .i64 t.c, .int .i64 t.m, .int .i64 t.w, .sl b 1 (t.tk.map fun n => .int .i64 n), .int .i64 t.st]
@[simp] def encHu (h : Hu) : D := .agg [.int .i64 h.q, .int .i64 h.s]
/-- a lease, its list's cells marked -/
@[simp] def encLf (b : Bool) (x : Le) : D := .agg [.int .i64 x.t, .int .i64 x.q, .int .i64 x.n, .sl b 1 (x.cs.map fun n => .int .i64 n), .int .i64 x.m, .int .i64 x.s, .int .i64 x.u, .bool x.st]
abbrev encLfs (b : Bool) (l : List Le) : D := .sl b 8 (l.map (encLf b))
abbrev encNs (b : Bool) (l : List Nd) : D := .sl b 5 (l.map encNd)
abbrev encTs (b : Bool) (l : List Tk) : D := .sl b 7 (l.map (encTk b))
abbrev encHs (b : Bool) (l : List Hu) : D := .sl b 2 (l.map encHu)
@[simp] def encSt (b : Bool) (s : Sta) : D := .agg [.int .i64 s.long, .int .i64 s.pat, .int .i64 s.now, .sl b 7 (s.qs.map encQ), .sl b 5 (s.ns.map encNd), .sl b 7 (s.ts.map (encTk b)), .sl b 8 (s.ls.map (encLf b)), .sl b 2 (s.hs.map encHu)]
/-- what the type says of a state's numbers, and how much there can be -/
structure Nd.ok (n : Nd) : Prop where
  id : In64 n.id
  k : In64 n.k
  m : In64 n.m
  i : In64 n.i
  b : In64 n.b
structure Tk.ok (t : Tk) : Prop where
  id : In64 t.id
  q : In64 t.q
  c : In64 t.c
  m : In64 t.m
  w : In64 t.w
  st : In64 t.st
  len : t.tk.length ≤ maxLen
  bytes : t.tk.length * 8 ≤ reachBytes
  tk : ∀ x ∈ t.tk, In64 x
end Go.Idl
end
section
namespace Go.Idl
set_option linter.unusedSimpArgs false
set_option linter.unusedVariables false

/-- is an exact sum above a number, or no int64? -/
def bey (s most : Int) : Bool := decide (s < -9223372036854775808) || decide (9223372036854775807 < s) || decide (most < s)
/-- what the leases below a queue have of cores, of memory -/
def cpuAt (l : List Q) (id : Int) (ls : List Le) : List Int := (ls.filter fun x => decide (id ∈ path l x.q)).map fun x => (x.cs.length : Int)
def memAt (l : List Q) (id : Int) (ls : List Le) : List Int := (ls.filter fun x => decide (id ∈ path l x.q)).map (·.m)
def overQ (l : List Q) (ls : List Le) (q : Q) : Bool := bey (cpuAt l q.Id ls).sum q.QC || bey (memAt l q.Id ls).sum q.QM
/-- the leases of a node -/
def onN (id : Int) (ls : List Le) : List Le := ls.filter fun x => decide (x.n = id)
def badCs (n : Nd) (cs : List Int) : Bool := cs.any (fun c => decide (c < 0) || decide (n.k ≤ c)) || !decide cs.Nodup
def badLe (n : Nd) (x : Le) : Bool := badCs n x.cs || (decide (x.cs = []) || decide (x.m < 0))
def wrongN (ls : List Le) (n : Nd) : Bool := (onN n.id ls).any (badLe n) || bey ((onN n.id ls).map (·.m)).sum n.m
/-- no core stands in two leases -/
def apart (ls : List Le) : Prop := ls.Pairwise fun y x => ∀ c ∈ x.cs, c ∉ y.cs
instance (ls : List Le) : Decidable (apart ls) := by unfold apart; infer_instance
def twiceN (ls : List Le) (n : Nd) : Bool := !decide (apart (onN n.id ls))
def tkOf (ts : List Tk) (id : Int) : Option Tk := ts.find? fun t => decide (t.id = id)
def fitT (x : Le) (t : Tk) : Bool := (decide (t.st = 2) || decide (t.st = 4)) && decide (t.q = x.q) && decide (t.c = x.cs.length) && decide (t.m = x.m)
def astrayB (ns : List Nd) (ts : List Tk) (x : Le) : Bool := !(ns.any fun n => decide (n.id = x.n)) || (match tkOf ts x.t with
  | some t => !fitT x t
  | none => true)
def bareB (ls : List Le) (t : Tk) : Bool := decide (t.st = 2) && !(ls.any fun x => decide (x.t = t.id))
def timelessB (now long : Int) (x : Le) : Bool := decide (x.u ≤ now) || decide (long < x.u - now) || decide (now < x.s)
def formA (s : Sta) : Prop := check s.qs = 0 ∧ Rising (s.ns.map (·.id)) ∧ Rising (s.ts.map (·.id)) ∧ Rising (s.ls.map (·.t)) ∧ Rising (s.hs.map (·.q))
def probQ (s : Sta) : List (Int × Int) := (s.qs.filter (overQ s.qs s.ls)).map fun q => (2, q.Id)
def probN (s : Sta) : List (Int × Int) := (s.ns.filter (wrongN s.ls)).map fun n => (3, n.id)
def probT (s : Sta) : List (Int × Int) := (s.ns.filter (twiceN s.ls)).map fun n => (4, n.id)
def probA (s : Sta) : List (Int × Int) := (s.ls.filter (astrayB s.ns s.ts)).map fun x => (5, x.t)
def probB (s : Sta) : List (Int × Int) := (s.ts.filter (bareB s.ls)).map fun t => (6, t.id)
def probL (s : Sta) : List (Int × Int) := (s.ls.filter (timelessB s.now s.long)).map fun x => (7, x.t)
def probs (s : Sta) : List (Int × Int) := probQ s ++ (probN s ++ (probT s ++ (probA s ++ (probB s ++ probL s))))
open Classical in
noncomputable def auditL (s : Sta) : List (Int × Int) := if formA s then probs s else [(1, 0)]
theorem filter_take {α : Type} {p : α → Bool} {l : List α} {i : Nat} (h : i < l.length) : (l.take (i + 1)).filter p = (l.take i).filter p ++ (if p l[i] = true then [l[i]] else []) := by
  rw [List.take_add_one, List.getElem?_eq_getElem h, Option.toList_some, List.filter_append]
  cases e : p l[i] <;> simp [e]
theorem filtmap_take {α β : Type} {p : α → Bool} {f : α → β} {l : List α} {i : Nat} (h : i < l.length) : ((l.take (i + 1)).filter p).map f = ((l.take i).filter p).map f ++ (if p l[i] = true then [f l[i]] else []) := by
  rw [filter_take h, List.map_append]
  split <;> rfl
/-- of rising numbers each one stands once -/
theorem rising_pair : ∀ {w : List Int}, Rising w → w.Pairwise (· < ·)
  | [], _ => List.Pairwise.nil
  | [x], _ => List.pairwise_singleton _ _
  | x :: y :: r, h => by
    have h2 : Rising (y :: r) := fun j hj => by
      have := h (j + 1) (by simpa using hj)
      simpa using this
    have ih := rising_pair h2
    have h0 : x < y := by have := h 0 (by simp); simpa using this
    refine List.pairwise_cons.2 ⟨fun z hz => ?_, ih⟩
    rcases List.mem_cons.1 hz with rfl | hz
    · exact h0
    · have := (List.pairwise_cons.1 ih).1 z hz; omega
theorem rising_inj {w : List Int} (h : Rising w) {i j : Nat} (hi : i < w.length) (hj : j < w.length) (e : w[i] = w[j]) : i = j := by
  have hp := List.pairwise_iff_getElem.1 (rising_pair h)
  rcases Nat.lt_trichotomy i j with k | k | k
  · have := hp i j hi hj k; omega
  · exact k
  · have := hp j i hj hi k; omega
theorem tkOf_at {ts : List Tk} (h : Rising (ts.map (·.id))) {i : Nat} (hi : i < ts.length) : tkOf ts ts[i].id = some ts[i] := by
  unfold tkOf
  have hex : (ts.find? fun t => decide (t.id = ts[i].id)).isSome = true := by
    rw [List.find?_isSome]; exact ⟨ts[i], List.getElem_mem hi, by simp⟩
  obtain ⟨t, ht⟩ := Option.isSome_iff_exists.1 hex
  rw [ht]
  have h1 := List.find?_some ht
  obtain ⟨j, hj, rfl⟩ := List.getElem_of_mem (List.mem_of_find?_eq_some ht)
  have : j = i := rising_inj h (i := j) (j := i) (by simpa using hj) (by simpa using hi) (by simpa using h1)
  subst this; rfl
theorem tkOf_none {ts : List Tk} {id : Int} : tkOf ts id = none ↔ ∀ t ∈ ts, t.id ≠ id := by
  unfold tkOf
  rw [List.find?_eq_none]
  simp
end Go.Idl
end
section
namespace Go.Idl
open Go.Proofs
set_option linter.unusedSimpArgs false
set_option linter.unusedVariables false
set_option maxRecDepth 8000
set_option maxHeartbeats 2000000
variable (b : Bool)

/-- a state in a variable -/
abbrev stD (b : Bool) (s : Sta) : IObj := .var [.d (.int .i64 s.long), .d (.int .i64 s.pat), .d (.int .i64 s.now), .d (.sl b 7 (s.qs.map encQ)), .d (.sl b 5 (s.ns.map encNd)), .d (.sl b 7 (s.ts.map (encTk b))), .d (.sl b 8 (s.ls.map (encLf b))), .d (.sl b 2 (s.hs.map encHu))]
end Go.Idl
end
