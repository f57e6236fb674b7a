/- What the model itself answers: slices.overlaps of two rows that lie apart. -/
import Derived.Lib.Overlaps
import Derived.Test.YtdhifabhjlbjiaaIdlThree
set_option linter.all false
namespace Go.Idl
set_option linter.unusedSimpArgs false
set_option linter.unusedVariables false

section
variable {P : Program}
theorem ref_args {Φ : CM} {B : List Nat} {au : Auth} {w : World} {i z oi li ci : Nat} {v : Value} (h : RepS Φ B (.ref i z oi li ci) v) (hc : 0 < ci) : ∃ b, B[i]? = some b ∧ v = .slice (some ⟨b, oi * z, none⟩) li ci := by
  cases h with
  | ref e l q => exact ⟨_, e, by rw [q hc]⟩
  | ref0 => omega

/-- a datum is answered, all else is as it was -/
theorem answer {Φ : CM} {B : List Nat} {au : Auth} {w : World} {args : List V} {cargs : Array Value} {hp : List IObj} {x : D} {v : Value} (hi : Inv (Ctx.at_ Φ B au w) Φ B au ⟨args, hp, hp.length⟩ ⟨cargs, []⟩ w) (hv : RepD Φ x v) :
    Rel (Ctx.at_ Φ B au w) ⟨[.d x], hp, hp.length⟩ ⟨#[v], []⟩ w := by
  refine ⟨Φ, B, au, { phi := hi.phi, phia := hi.phia, auw := hi.auw, size := hi.size, keep := hi.keep, pre := hi.pre, lePhi := hi.lePhi, tl := rfl, tm := fun i V u hV hu => ?_, hl := hi.hl, nb := hi.nb, hp := hi.hp, df := ⟨[], rfl, List.nodup_nil, by simp⟩, rd := hi.rd, lp := hi.lp, src := hi.src, wo := hi.wo }⟩
  cases i with
  | zero => simp at hV hu; subst hV; subst hu; exact ⟨.d hv, trivial⟩
  | succ i => simp at hV

theorem overlaps_apart {f : FuncId} {fn : Func} {tS tR e : TypeId} {size : Nat} (hf : P.funcs[f]? = some fn) (hname : (fn.name == "runtime.NumGoroutine") = false) (hb : fn.body.isNone = true) (hn : Extern.findNext fn = none)
    (he : Extern.find fn = some (Extern.SlicesOverlaps.overlaps #[tS, tS] #[tR])) (ht : P.underlying tS = some (.slice e)) (hz : ∀ w, (Go.sizeOf e).run P w = .ok size w)
    {i j z oi li ci oj lj cj : Nat} {hp : List IObj} {xs ys : List D} {K : V → List IObj → Prop} (hij : i ≠ j) (h1 : hp[i]? = some (.arr z xs)) (h2 : hp[j]? = some (.arr z ys)) (hx : xs ≠ []) (hy : ys ≠ []) (h0 : 0 < z) (hc1 : 0 < ci) (hc2 : 0 < cj)
    (hk : K (.d (.bool false)) hp) : CallE P f [.ref i z oi li ci, .ref j z oj lj cj] hp K := by
  intro Φ B au w cargs hi
  have hl : cargs.size = 2 := hi.tl.symm
  obtain ⟨u, v, rfl⟩ : ∃ u v, cargs = #[u, v] := by
    rcases cargs with ⟨_ | ⟨x, _ | ⟨y, _ | ⟨q, l⟩⟩⟩⟩ <;> simp at hl
    exact ⟨x, y, rfl⟩
  obtain ⟨b1, e1, rfl⟩ := ref_args (w := w) (au := au) (hi.tm 0 _ _ rfl rfl).1 hc1
  obtain ⟨b2, e2, rfl⟩ := ref_args (w := w) (au := au) (hi.tm 1 _ _ rfl rfl).1 hc2
  obtain ⟨a1, c1, el1, q1, s1, _⟩ := hi.hp i _ b1 h1 e1 hx
  obtain ⟨a2, c2, el2, q2, s2, _⟩ := hi.hp j _ b2 h2 e2 hy
  have hne : b1 ≠ b2 := by
    rintro rfl
    rw [a1] at a2
    simp at a2
    exact hij a2
  have hs2 : c2.size ≠ 0 := by
    rw [s2]
    have : 0 < ys.length := List.length_pos_iff.2 hy
    exact Nat.ne_of_gt (Nat.mul_pos this h0)
  have hr := Lib.run_overlaps_apart w tS tR e ht size hz ⟨b1, oi * z, none⟩ ⟨b2, oj * z, none⟩ li ci lj cj hne el1 el2 c1.size c2.size (by simp [World.shape?, q1]) (by simp [World.shape?, q2]) hs2
    (by simp [World.frozen?, q1]) (by simp [World.frozen?, q1])
  refine ⟨.bool false, .d (.bool false), hp, w, ?_, hk, ?_⟩
  · rw [run_callFunc_extern hf hname hb hn he, hr]; rfl
  · exact answer hi (.bool false)

theorem run_overlaps2 {w : World} (tS tR e : TypeId) (ht : P.underlying tS = some (.slice e)) (size : Nat) (hz : ∀ w, (Go.sizeOf e).run P w = .ok size w)
    (a b : Addr) (la ca lb cb : Nat) (hne : a.block ≠ b.block) (tA tB : TypeId) (kA kB : Nat)
    (hsa : w.shape? a.block = some (tA, kA)) (hsb : w.shape? b.block = some (tB, kB)) (hkA : kA ≠ 0) (hkB : kB ≠ 0)
    (hfb : w.frozen? b = false) (hfe : w.frozen? { block := b.block, off := kB } = false) :
    (Extern.SlicesOverlaps.overlaps #[tS, tS] #[tR] #[.slice (some a) la ca, .slice (some b) lb cb]).run P w = .ok (.bool false) w := by
  have hnb : (a.block != b.block) = true := by simpa using hne
  have hnb' : (a.block == b.block) = false := by simpa using hne
  change Sem.run P (α := Value) (do
    let some t := (#[tS, tS] : Array TypeId)[0]? | stuck "slices.overlaps: no parameter types"
    let .slice elem ← underlying t | stuck "slices.overlaps: slice type expected"
    let size ← sizeOf elem
    match (some a : Option Addr), (some b : Option Addr) with
    | some a, some b =>
      if la = 0 ∨ lb = 0 ∨ size = 0 then pure (Value.bool false)
      else if a.block != b.block && (← frozen a) && (← frozen b) then unsupported .addressObserved
      else do
        if a.block != b.block then do
          noView a; noView b
          if ← mayBeOne a b then return Value.bool ((← choose (.extern "sameAddr.stringBytes" 2)) == 1)
        pure (Value.bool (a.block == b.block && a.off < b.off + lb * size && b.off < a.off + la * size))
    | _, _ => pure (Value.bool false)) w = _
  by_cases h0 : la = 0 ∨ lb = 0 ∨ size = 0
  · simp [run_underlying ht, hz, h0]
  · cases kA with
    | zero => exact absurd rfl hkA
    | succ kA => cases kB with
      | zero => exact absurd rfl hkB
      | succ kB =>
        cases hfa : w.frozen? a <;> cases hfe2 : w.frozen? { block := a.block, off := kA + 1 } <;>
        simp [run_underlying ht, hz, h0, hnb, hnb', frozen, noView, viewAt, mayBeOne, stringish, shape, Sem.run, hsa, hsb, hfa, hfe, hfb, hfe2]

theorem overlaps_data {f : FuncId} {fn : Func} {tS tR e : TypeId} {size : Nat} (hf : P.funcs[f]? = some fn) (hname : (fn.name == "runtime.NumGoroutine") = false) (hb : fn.body.isNone = true) (hn : Extern.findNext fn = none)
    (he : Extern.find fn = some (Extern.SlicesOverlaps.overlaps #[tS, tS] #[tR])) (ht : P.underlying tS = some (.slice e)) (hz : ∀ w, (Go.sizeOf e).run P w = .ok size w)
    {j z oj lj cj : Nat} {hp : List IObj} {l : Bool} {xs ys : List D} {K : V → List IObj → Prop} (h2 : hp[j]? = some (.arr z ys)) (hx : xs ≠ []) (hy : ys ≠ []) (h0 : 0 < z) (hc2 : 0 < cj)
    (hk : K (.d (.bool false)) hp) : CallE P f [.d (.sl l z xs), .ref j z oj lj cj] hp K := by
  intro Φ B au w cargs hi
  have hl : cargs.size = 2 := hi.tl.symm
  obtain ⟨u, v, rfl⟩ : ∃ u v, cargs = #[u, v] := by
    rcases cargs with ⟨_ | ⟨x, _ | ⟨y, _ | ⟨q, l⟩⟩⟩⟩ <;> simp at hl
    exact ⟨x, y, rfl⟩
  have hd := (hi.tm 0 _ _ rfl rfl).1
  obtain ⟨b2, e2, rfl⟩ := ref_args (w := w) (au := au) (hi.tm 1 _ _ rfl rfl).1 hc2
  obtain ⟨a2, c2, el2, q2, s2, _⟩ := hi.hp j _ b2 h2 e2 hy
  cases hd with | d hd =>
  obtain ⟨ad, cap, rfl, _, hel⟩ := hd.sl_inv
  obtain ⟨b1, o1, e1, hel2⟩ := hel hx
  subst e1
  obtain ⟨x0, hx0⟩ : ∃ x0, xs[0]? = some x0 := by
    cases xs with
    | nil => exact absurd rfl hx
    | cons x xs => exact ⟨x, rfl⟩
  obtain ⟨hz0, hcells⟩ := hel2.get 0 x0 hx0
  obtain ⟨d0, hd0⟩ : ∃ d0, x0.flat[0]? = some d0 := ⟨_, List.getElem?_eq_getElem (by omega)⟩
  obtain ⟨v0, hv0, _, _⟩ := hcells.get 0 d0 hd0
  have hcell := hi.phi _ _ _ _ hv0
  have hne : b1 ≠ b2 := by
    rintro rfl
    have := hi.phia _ _ _ _ _ _ hv0 a2
    omega
  have hs2 : c2.size ≠ 0 := by
    rw [s2]
    have : 0 < ys.length := List.length_pos_iff.2 hy
    exact Nat.ne_of_gt (Nat.mul_pos this h0)
  obtain ⟨tA, kA, hsa, hkA⟩ : ∃ tA kA, w.shape? b1 = some (tA, kA) ∧ kA ≠ 0 := by
    unfold World.cell? at hcell
    unfold World.shape?
    split at hcell
    · rename_i c el fr hh
      rw [hh]
      refine ⟨el, c.size, rfl, ?_⟩
      split at hcell
      · cases hcell
      · have := (Array.getElem?_eq_some_iff.1 hcell).1; omega
    · cases hcell
  have hr := run_overlaps2 (P := P) (w := w) tS tR e ht size hz ⟨b1, o1, none⟩ ⟨b2, oj * z, none⟩ xs.length cap lj cj hne tA el2 kA c2.size hsa (by simp [World.shape?, q2]) hkA hs2
    (by simp [World.frozen?, q2]) (by simp [World.frozen?, q2])
  refine ⟨.bool false, .d (.bool false), hp, w, ?_, hk, ?_⟩
  · rw [run_callFunc_extern hf hname hb hn he, hr]; rfl
  · exact answer hi (.bool false)
end
end Go.Idl
