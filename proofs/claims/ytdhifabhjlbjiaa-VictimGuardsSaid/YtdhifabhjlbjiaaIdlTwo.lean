/- One operation. Part 10: maps.; One operation. Part 11: slices that are changed in place.; Regions in the order of their text; code.; Forgetting objects; entering functions.; Entering functions; ranging over functions; rounds.; Pure calls; ranging over functions; rounds.; Regions whose order is drawn: a free part, whose operations do not feel each other unless one waits for the other, and a rest that waits for all.; Drawn regions, part 2: each free operation has an effect of its own, whatever else was done.; Drawn regions, part 3: the law.; From the memory that a statement speaks of to ideal data: the arguments of a law. -/
import Derived.OrdersIn
import Derived.ProofKit
import Derived.OpenShut
import Derived.ChangeArms
import Derived.ChangeOld
import Derived.SizedLaws
import Derived.Below
import Derived.Carry
import Derived.Deep.Slices
import Derived.Test.YtdhifabhjlbjiaaIdlOne
set_option linter.all false
section
namespace Go.Idl

section
variable {P : Program} {κ : Ctx} {Φ : CM} {B : List Nat} {au : Auth} {s : St} {a : Act} {w : World} {K : St → Prop} {o : Oper}

/-- A new object. -/
theorem Inv.pushObj (h : Inv κ Φ B au s a w) {ob : Obj} {io : IObj}
    (hO : ∀ au' : Auth, au' w.heap.size = some (.obj s.hp.length, 0) → RepO Φ (B ++ [w.heap.size]) au' { w with heap := w.heap.push ob } s.hp.length w.heap.size io) :
    ∃ au', Inv κ Φ (B ++ [w.heap.size]) au' { s with hp := s.hp ++ [io] } a { w with heap := w.heap.push ob } := by
  have g := h.grow (Grows.push w ob)
  have hB : ∀ (i b : Nat), B[i]? = some b → (B ++ [w.heap.size])[i]? = some b := fun i b e => by
    rw [List.getElem?_append_left (List.getElem?_eq_some_iff.1 e).1]; exact e
  have hnew : au w.heap.size = none := by
    cases e : au w.heap.size with
    | none => rfl
    | some x => exact absurd (h.auw _ _ _ e).1 (Nat.lt_irrefl _)
  refine ⟨fun b => if b = w.heap.size then some (.obj s.hp.length, 0) else au b, ?_⟩
  have hau : ∀ b h0 st, au b = some (h0, st) → (if b = w.heap.size then some (Holder.obj s.hp.length, 0) else au b) = some (h0, st) := fun b h0 st e => by
    rw [if_neg]; exact e
    rintro rfl; rw [hnew] at e; cases e
  refine { g with phia := fun lb b o v h0 st hp e => ?_, auw := fun b h0 st e => ?_, pre := ?_, tm := fun i V v hV hv => ?_, hl := by simp [h.hl], nb := ⟨h.nb.1, by have := h.nb.2; simp; omega⟩, hp := fun id o b ho hb => ?_, df := ?_ }
  · split at e
    · rename_i eb
      have := h.phi _ b o v hp
      unfold World.cell? at this
      rw [eb] at this
      simp at this
    · exact h.phia _ b o v h0 st hp e
  · split at e
    · rename_i eb; subst eb; exact ⟨by simp, .inr h.size⟩
    · exact g.auw b h0 st e
  · exact h.pre.trans (List.prefix_append _ _)
  · obtain ⟨k1, k2⟩ := g.tm i V v hV hv
    exact ⟨k1.mono (CM.le_refl _) hB, k2.mono fun j b st e => ⟨hau b _ st e, rfl⟩⟩
  · by_cases hid : id < s.hp.length
    · rw [List.getElem?_append_left hid] at ho
      have hid' : id < B.length := by rw [← h.hl]; exact hid
      rw [List.getElem?_append_left hid'] at hb
      exact (g.hp id o b ho hb).mono (CM.le_refl _) hB (fun e => ⟨hau b _ _ e, rfl⟩) (fun j b st e => ⟨hau b _ st e, rfl⟩)
    · have hid1 : id = s.hp.length := by
        have := (List.getElem?_eq_some_iff.1 ho).1; simp at this; omega
      subst hid1
      simp at ho
      subst ho
      rw [h.hl] at hb
      simp at hb
      subst hb
      exact hO _ (by simp)
  · obtain ⟨rs, h1, h2, h3⟩ := g.df
    refine ⟨rs, h1, h2, fun r hr => ?_⟩
    obtain ⟨x, y, z⟩ := h3 r hr
    refine ⟨x, ?_, z⟩
    rw [if_neg]; exact y
    rintro rfl
    obtain ⟨rs', h1', h2', h3'⟩ := h.df
    rw [h1] at h1'
    have : rs = rs' := by
      have := congrArg (List.map fun d : Deferred => match d.target with | .collected r => r | _ => 0) h1'
      simpa [Function.comp_def] using this
    subst this
    have := lt_of_heap (h3' _ hr).1
    omega

theorem does_makeMap {t : TypeId} {r : List Oper} (h : Inv κ Φ B au s a w) (ho : o.op = .makeMap t none) (hk : stepK P o r s K) : Does P κ o a w K := by
  simp only [stepK, ho] at hk
  obtain ⟨au', g⟩ := h.pushObj (ob := .map #[] 0) (io := .map 0 []) fun au' ha => ⟨ha, #[], by simp, rfl, by simp⟩
  refine does_value (v := .map (some w.heap.size)) (w' := { w with heap := w.heap.push (.map #[] 0) }) ?_ hk ⟨Φ, _, au', g.put o.dst (.map (b := w.heap.size) ?_) fun _ _ => trivial⟩
  · unfold execOp; rw [ho]; refine run_v ?_
    simp [Instr.makeMap, newObj, Sem.run, pure]
  · rw [h.hl]; simp

theorem mapTy_inv {t kt et : TypeId} (e : mapTy P t = some (kt, et)) : P.underlying t = some (.map kt et) := by
  unfold mapTy at e
  split at e
  · rename_i e'; injection e with e; injection e with e1 e2; subst e1; subst e2; exact e'
  · cases e

/-- a map's object, seen -/
theorem Inv.mapAt (h : Inv κ Φ B au s a w) {id clock : Nat} {es : List (Nat × D × V)} (e : s.hp[id]? = some (.map clock es)) :
    ∃ b ms, B[id]? = some b ∧ au b = some (.obj id, 0) ∧ w.heap[b]? = some (.map ms clock) ∧ ms.size = es.length ∧
      ∀ (i : Nat) n k V, es[i]? = some (n, k, V) → ∃ e : MapEntry, ms[i]? = some e ∧ e.born = n ∧ RepD Φ k e.key ∧ RepS Φ B V e.val := by
  have hid : id < B.length := by rw [← h.hl]; exact (List.getElem?_eq_some_iff.1 e).1
  have hb : B[id]? = some B[id] := List.getElem?_eq_getElem hid
  obtain ⟨h1, ms, h2, h3, h4⟩ := h.hp id _ _ e hb
  exact ⟨_, ms, hb, h1, h2, h3, h4⟩

theorem run_checkFields {e : Bool} {n : Nat} {xs : List D} {cs : List Value} (hr : RepL Φ xs cs) : ∀ (fs : List Field), (fs.all fun f => (match P.underlying f.type, xs[f.offset]? with
    | some (.int c), some (.int a _) => a == c
    | _, _ => false)) = true →
    (forIn fs PUnit.unit (fun f _ => do
      if f.name ≠ "_" then Instr.checkKey e (n + 1) f.type (← part f.type cs.toArray f.offset)
      pure (ForInStep.yield PUnit.unit)) : Sem PUnit).run P w = .ok PUnit.unit w
  | [], _ => rfl
  | f :: fs, h => by
    simp only [List.all_cons, Bool.and_eq_true] at h
    obtain ⟨h1, h2⟩ := h
    split at h1
    · rename_i c a m hu hx
      have hkd : kindD P f.type = some false := by simp [kindD, hu]
      obtain ⟨v, g1, g2⟩ := run_part (P := P) (w := w) (t := f.type) (j := f.offset) (d := .int a m) hr (by simp [partD, hkd, D.flat, hx])
      have ih := run_checkFields (e := e) (n := n) hr fs h2
      rw [List.forIn_cons, Sem.run_bind]
      split
      · have hck : (Instr.checkKey e (n + 1) f.type v).run P w = .ok () w := by
          unfold Instr.checkKey
          rw [Sem.run_bind, run_underlying hu]; rfl
        rw [Sem.run_bind, g1]; simp only [Result.andThen_ok]
        rw [Sem.run_bind, hck]; exact ih
      · exact ih
    · cases h1

theorem run_checkKey {e : Bool} {n : Nat} {kt : TypeId} {k : D} {v : Value} (hk : keyOK P kt k = true) (hr : RepD Φ k v) : (Instr.checkKey e (n + 2) kt v).run P w = .ok () w := by
  unfold keyOK at hk
  split at hk
  · rename_i c a m hu
    unfold Instr.checkKey
    rw [Sem.run_bind, run_underlying hu]; rfl
  · rename_i fs xs hu
    cases hr with
    | agg hl =>
      rename_i cs
      unfold Instr.checkKey
      rw [Sem.run_bind, run_underlying hu]; simp only [Result.andThen_ok]
      rw [← Array.forIn_toList]
      have := run_checkFields (P := P) (w := w) (e := e) (n := n) hl fs.toList hk
      rw [Sem.run_bind]
      first | (rw [this]; rfl) | exact this
  · cases hk

def sameKey (k k' : D) : Prop := match k, k' with
  | .int c a, .int d b => c = d ∧ a = b
  | .agg xs, .agg ys => sameL xs ys = true
  | _, _ => False

theorem sameBits_of {n : Nat} : ∀ {k k' : D} {v v' : Value}, RepD Φ k v → RepD Φ k' v' → sameKey k k' → Instr.sameBits (n + 1) v v' = true := by
  intro k k' v v' h h' hs
  unfold sameKey at hs
  split at hs
  · obtain ⟨rfl, rfl⟩ := hs
    rw [repD_int h, repD_int h']; simp [Instr.sameBits]
  · cases h with
    | agg hx => cases h' with
      | agg hy =>
        rename_i xs ys cs cs'
        have key : ∀ (xs ys : List D) (cs cs' : List Value), RepL Φ xs cs → RepL Φ ys cs' → sameL xs ys = true → cs.length = cs'.length ∧ ((cs.zip cs').all fun (x, y) => Instr.sameBits n x y) = true := by
          intro xs
          induction xs with
          | nil =>
            intro ys cs cs' hx hy hs
            cases ys with
            | nil => cases hx; cases hy; simp
            | cons y ys => simp [sameL] at hs
          | cons x xs ih =>
            intro ys cs cs' hx hy hs
            cases ys with
            | nil => cases x <;> simp [sameL] at hs
            | cons y ys =>
              cases x <;> cases y <;> simp [sameL] at hs
              obtain ⟨rfl, rfl, hs⟩ := hs
              cases hx with
              | cons o1 d1 t1 => cases hy with
                | cons o2 d2 t2 =>
                  obtain ⟨q1, q2⟩ := ih _ _ _ t1 t2 hs
                  refine ⟨by simp [q1], ?_⟩
                  simp only [List.zip_cons_cons, List.all_cons, Bool.and_eq_true]
                  refine ⟨?_, q2⟩
                  rw [repD_int d1, repD_int d2]; cases n <;> simp [Instr.sameBits]
        obtain ⟨q1, q2⟩ := key _ _ _ _ hx hy hs
        simp only [Instr.sameBits]
        simp [q1]
        simpa using q2
  · exact hs.elim

/-- what is found, ideal and real -/
def FoundRep (Φ : CM) (B : List Nat) : Option (Nat × V) → Option (Nat × Value) → Prop
  | none, none => True
  | some (i, V), some (j, v) => i = j ∧ RepS Φ B V v
  | _, _ => False

theorem keyEq_now {kt : TypeId} {td : TypeDesc} {k k' : D} {v v' : Value} {b : Bool} (hu : P.underlying kt = some td) (hns : ∀ fs, td ≠ .struct fs) (e : keyEq P kt k k' = some b) (h : RepD Φ k v) (h' : RepD Φ k' v') : Instr.sameNow td v v' = some b := by
  unfold keyEq at e
  rw [hu] at e
  split at e
  · rename_i c a m c' n e0
    injection e0 with e0; subst e0
    split at e
    · rename_i hc; obtain ⟨rfl, rfl⟩ := hc
      injection e with e; subst e
      rw [repD_int h, repD_int h']
      simp only [Instr.sameNow, if_true]
      congr 1
    · cases e
  · rename_i fs xs ys e0
    injection e0 with e0
    exact absurd e0 (hns _)
  · cases e

theorem keyEq_struct {kt : TypeId} {fs : Array Field} {k k' : D} {v v' : Value} {b : Bool} (hu : P.underlying kt = some (.struct fs)) (e : keyEq P kt k k' = some b) (h : RepD Φ k v) (h' : RepD Φ k' v') : (Op.equal kt v v').run P w = .ok b w := by
  unfold keyEq at e
  rw [hu] at e
  split at e
  · rename_i e0; injection e0 with e0; cases e0
  · rename_i xs ys e0
    split at e
    · rename_i b' eb
      split at e
      · injection e with e; subst e
        cases hle : leafOffs P 8 kt with
        | none => simp [hle] at eb
        | some l =>
          simp only [hle, Option.bind_some] at eb
          cases h with
          | agg l1 => cases h' with
            | agg l2 => exact (run_equalIn_plain 8 kt l hle Op.maxDepth (by decide) b').1 xs ys _ _ fs hu l1 l2 eb
      · cases e
    · cases e
  · cases e

theorem keyEq_same {kt : TypeId} {k k' : D} (e : keyEq P kt k k' = some true) : sameKey k' k := by
  have sym : ∀ xs ys : List D, sameL xs ys = sameL ys xs := by
    intro xs
    induction xs with
    | nil => intro ys; cases ys <;> simp [sameL]
    | cons x xs ih =>
      intro ys
      cases ys with
      | nil => cases x <;> simp [sameL]
      | cons y ys => cases x <;> cases y <;> simp [sameL, ih ys, eq_comm]
  unfold keyEq at e
  split at e
  · split at e
    · rename_i hc; injection e with e; obtain ⟨rfl, rfl⟩ := hc; exact ⟨rfl, (of_decide_eq_true e).symm⟩
    · cases e
  · split at e
    · split at e
      · rename_i xs ys b h; injection e with e; subst e; show sameL _ _ = true; rw [sym]; exact h.symm
      · cases e
    · cases e
  · cases e

/-- a key is looked for -/
theorem run_find {kt : TypeId} {k : D} {v : Value} {es : List (Nat × D × V)} {ms : List MapEntry} {r : Option (Nat × V)} (hk : keyOK P kt k = true) (hr : RepD Φ k v) (hl : ms.length = es.length)
    (hg : ∀ (i : Nat) n k V, es[i]? = some (n, k, V) → ∃ e : MapEntry, ms[i]? = some e ∧ e.born = n ∧ RepD Φ k e.key ∧ RepS Φ B V e.val) (e : mfind P kt k es 0 = some r) :
    ∃ r', (Instr.findKey kt v ms).run P w = .ok r' w ∧ FoundRep Φ B r r' := by
  obtain ⟨td, hu⟩ : ∃ td, P.underlying kt = some td := by
    unfold keyOK at hk
    split at hk
    · exact ⟨_, ‹_›⟩
    · exact ⟨_, ‹_›⟩
    · cases hk
  unfold Instr.findKey
  rw [Sem.run_bind, run_underlying hu]; simp only [Result.andThen_ok]
  by_cases hs : ∃ fs, td = .struct fs
  · obtain ⟨fs, rfl⟩ := hs
    have ask : ∀ (es : List (Nat × D × V)) (ms : List MapEntry) (i : Nat), ms.length = es.length → (∀ (i : Nat) n k V, es[i]? = some (n, k, V) → ∃ e : MapEntry, ms[i]? = some e ∧ e.born = n ∧ RepD Φ k e.key ∧ RepS Φ B V e.val) → mfind P kt k es i = some r →
        ∃ r', (Instr.findAsking kt v ms i).run P w = .ok r' w ∧ FoundRep Φ B r r' := by
      intro es
      induction es with
      | nil =>
        intro ms i hl _ e
        cases ms with
        | nil => simp [mfind] at e; subst e; exact ⟨none, rfl, trivial⟩
        | cons m ms => simp at hl
      | cons x es ih =>
        intro ms i hl hg e
        cases ms with
        | nil => simp at hl
        | cons m ms =>
          obtain ⟨n, k', V⟩ := x
          obtain ⟨m', hm, _, hm2, hm3⟩ := hg 0 n k' V rfl
          simp at hm; subst hm
          simp only [mfind] at e
          unfold Instr.findAsking
          rw [Sem.run_bind]
          split at e
          · rename_i ek
            injection e with e; subst e
            rw [keyEq_struct hu ek hr hm2]
            exact ⟨some (i, m.val), rfl, rfl, hm3⟩
          · rename_i ek
            rw [keyEq_struct hu ek hr hm2]
            exact ih ms (i + 1) (by simpa using hl) (fun j n k V hj => hg (j + 1) n k V (by simpa using hj)) e
          · cases e
    have hask := ask es ms 0 hl hg e
    cases ms with
    | nil => exact hask
    | cons m ms =>
      have hnow : Instr.findNow (.struct fs) v (m :: ms) 0 = none := by simp [Instr.findNow, Instr.sameNow]
      simp only [hnow]; exact hask
  · have hns : ∀ fs, td ≠ .struct fs := fun fs h => hs ⟨fs, h⟩
    have now : ∀ (es : List (Nat × D × V)) (ms : List MapEntry) (i : Nat), ms.length = es.length → (∀ (i : Nat) n k V, es[i]? = some (n, k, V) → ∃ e : MapEntry, ms[i]? = some e ∧ e.born = n ∧ RepD Φ k e.key ∧ RepS Φ B V e.val) → mfind P kt k es i = some r →
        ∃ r', Instr.findNow td v ms i = some r' ∧ FoundRep Φ B r r' := by
      intro es
      induction es with
      | nil =>
        intro ms i hl _ e
        cases ms with
        | nil => simp [mfind] at e; subst e; exact ⟨none, rfl, trivial⟩
        | cons m ms => simp at hl
      | cons x es ih =>
        intro ms i hl hg e
        cases ms with
        | nil => simp at hl
        | cons m ms =>
          obtain ⟨n, k', V⟩ := x
          obtain ⟨m', hm, _, hm2, hm3⟩ := hg 0 n k' V rfl
          simp at hm; subst hm
          simp only [mfind] at e
          unfold Instr.findNow
          split at e
          · rename_i ek
            injection e with e; subst e
            rw [keyEq_now hu hns ek hr hm2]
            exact ⟨some (i, m.val), rfl, rfl, hm3⟩
          · rename_i ek
            rw [keyEq_now hu hns ek hr hm2]
            exact ih ms (i + 1) (by simpa using hl) (fun j n k V hj => hg (j + 1) n k V (by simpa using hj)) e
          · cases e
    obtain ⟨r', q1, q2⟩ := now es ms 0 hl hg e
    rw [q1]
    exact ⟨r', rfl, q2⟩

theorem zeroV_rep {t : TypeId} {V : V} (e : zeroV P t = some V) : ∃ z, (zeroValue t).run P w = .ok z w ∧ RepS Φ B V z ∧ ∀ au w h, OwnV au w h V z := by
  unfold zeroV at e
  split at e
  · rename_i hk
    split at e
    · rename_i cs c e1 ez
      split at e
      · rename_i hl
        injection e with e; subst e
        obtain ⟨i, hi, hz⟩ : ∃ i, P.info? t = some i ∧ i.zero = some (.agg c) := by
          cases e2 : P.info? t with
          | none => simp [e2] at ez
          | some i => exact ⟨i, rfl, by simpa [e2] using ez⟩
        have hr := zeroCs_rep (Φ := Φ) e1 hi hz
        refine ⟨_, run_zeroValue hi hz, .d ?_, fun _ _ _ => trivial⟩
        have := RepD.agg (Φ := Φ) (ds := cs) (cs := c.toList) (RepL.of (by simpa using hl) fun j d v hd hv => by
          obtain ⟨v', q1, q2, q3, _⟩ := hr j d hd
          simp only [Value.cells] at q1
          rw [Array.getElem?_toList, q1] at hv; injection hv with hv; subst hv; exact ⟨q2, q3⟩)
        simpa using this
      · cases e
    · cases e
  · rename_i hk
    split at e
    · rename_i zv ez
      injection e with e; subst e
      obtain ⟨i, hi, hz⟩ : ∃ i, P.info? t = some i ∧ i.zero = some zv := by
        cases e2 : P.info? t with
        | none => simp [e2] at ez
        | some i => exact ⟨i, rfl, by simpa [e2] using ez⟩
      exact ⟨zv, run_zeroValue hi hz, (constV_rep (au := fun _ => none) (w := w) (h := fun _ => .obj 0)).1, fun au w h => (constV_rep (Φ := Φ) (B := B)).2.1⟩
    · cases e
  · cases e

theorem does_lookup {t : TypeId} {x y : Operand} {ok : Bool} {r : List Oper} (h : Inv κ Φ B au s a w) (ho : o.op = .lookup t x y ok) (hk : stepK P o r s K) : Does P κ o a w K := by
  simp only [stepK, ho] at hk
  unfold lookupK at hk
  split at hk
  · rename_i id k kt et ex ek em
    rw [em] at ek
    simp only [Option.map_some, Option.getD_some] at ek
    split at hk
    · rename_i clock es ehp
      obtain ⟨hkey, hk⟩ := hk
      obtain ⟨b, ms, hb, h1, h2, h3, h4⟩ := h.mapAt ehp
      have hut := mapTy_inv em
      have hx := ev_rep (P := P) h t x
      rw [ex] at hx
      have hxv : a.eval x = .map (some b) := by
        generalize a.eval x = v at hx
        cases hx with | map q => rw [hb] at q; injection q with q; rw [q]
      have hkv := ev_d h ek
      have run : ∀ {r' : Option (Nat × Value)} {v : Value} {z : Bool}, (Instr.findKey kt (a.eval y) ms.toList).run P w = .ok r' w → ((match r' with | some (_, v) => pure (v, true) | none => do pure (← zeroValue et, false)) : Sem (Value × Bool)).run P w = .ok (v, z) w →
          (execOp a.eval o).run P w = .ok (.value (if ok then .tuple #[v, .bool z] else v)) w := by
        intro r' v z e1 e2
        unfold execOp; rw [ho]; refine run_v ?_
        simp only [hxv]
        unfold Instr.lookup
        rw [Sem.run_bind, run_underlying hut]; simp only [Result.andThen_ok]
        rw [Sem.run_bind]
        simp only [Sem.run_bind, run_getObj h2 rfl, Result.andThen_ok]
        simp only [Sem.run_pure, Result.andThen_ok]
        rw [run_checkKey hkey hkv]; simp only [Result.andThen_ok, e1]
        cases r' with
        | none =>
          simp only [Sem.run_bind] at e2 ⊢
          cases hz : (zeroValue et).run P w with
          | ok z' w' =>
            rw [hz] at e2
            simp only [Result.andThen_ok, Sem.run_pure, Result.ok.injEq, Prod.mk.injEq] at e2 ⊢
            obtain ⟨⟨rfl, rfl⟩, rfl⟩ := e2
            exact ⟨rfl, rfl⟩
          | halt _ _ => rw [hz] at e2; simp [Result.andThen] at e2
        | some p =>
          simp only [Sem.run_pure, Result.ok.injEq, Prod.mk.injEq] at e2
          obtain ⟨⟨rfl, rfl⟩, _⟩ := e2
          rfl
      split at hk
      · rename_i i V ef
        obtain ⟨r', g1, g2⟩ := run_find (B := B) (w := w) hkey hkv (by rw [Array.length_toList]; exact h3) (fun i n k V hi => by simpa using h4 i n k V hi) ef
        cases r' with
        | none => exact g2.elim
        | some p =>
          obtain ⟨j, v⟩ := p
          obtain ⟨_, hV⟩ := g2
          have := run (v := v) (z := true) g1 rfl
          cases ok with
          | false =>
            simp only [Bool.false_eq_true, if_false] at hk this
            exact does_plain h this hV.cp (fun _ => OwnV_cp) hk
          | true =>
            simp only [if_true] at hk this
            refine does_plain h this (.tup (cs := [v, .bool true]) (.cons hV.cp (.cons (.d (.bool _)) .nil))) (fun _ => ?_) hk
            rintro j z xs cs c e hj hc
            match j, hj with
            | 0, hj => simp at hj; cases V <;> simp [Idl.V.cp] at hj
            | 1, hj => simp at hj
            | j + 2, hj => simp at hj
      · rename_i ef
        obtain ⟨r', g1, g2⟩ := run_find (B := B) (w := w) hkey hkv (by rw [Array.length_toList]; exact h3) (fun i n k V hi => by simpa using h4 i n k V hi) ef
        cases r' with
        | some p => exact g2.elim
        | none =>
          split at hk
          · rename_i Z eZ
            obtain ⟨z, z1, z2, z3⟩ := zeroV_rep (Φ := Φ) (B := B) (w := w) eZ
            have := run (v := z) (z := false) g1 (by simp only [Sem.run_bind, z1, Result.andThen_ok, Sem.run_pure])
            cases ok with
            | false =>
              simp only [Bool.false_eq_true, if_false] at hk this
              exact does_plain h this z2 (fun _ => z3 _ _ _) hk
            | true =>
              simp only [if_true] at hk this
              refine does_plain h this (.tup (cs := [z, .bool false]) (.cons z2 (.cons (.d (.bool _)) .nil))) (fun hd => ?_) hk
              rintro j zz xs cs c e hj hc
              injection e with e; 
              match j, hj with
              | 0, hj =>
                simp at hj; subst hj
                have : c = z := by
                  subst e; simpa using hc.symm
                subst this
                exact z3 au w (fun _ => hd 0)
              | 1, hj => simp at hj
              | j + 2, hj => simp at hj
          · exact hk.elim
      · exact hk.elim
    · exact hk.elim
  · exact hk.elim

theorem run_setMap {b : Nat} {ms ms' : Array MapEntry} {c c' : Nat} (h2 : w.heap[b]? = some (.map ms c)) : (setObj b (.map ms' c')).run P w = .ok () { w with heap := w.heap.setIfInBounds b (.map ms' c') } := run_setObj h2 rfl

theorem Inv.setMap (h : Inv κ Φ B au s a w) {id b clock clock' : Nat} {ms ms' : Array MapEntry} {es' : List (Nat × D × V)} (hb : B[id]? = some b) (h1 : au b = some (.obj id, 0)) (h2 : w.heap[b]? = some (.map ms clock)) (h3 : ms'.size = es'.length)
    (h4 : ∀ (i : Nat) n k V, es'[i]? = some (n, k, V) → ∃ e : MapEntry, ms'[i]? = some e ∧ e.born = n ∧ RepD Φ k e.key ∧ RepS Φ B V e.val) :
    Inv κ Φ B au { s with hp := s.hp.set id (.map clock' es') } a { w with heap := w.heap.setIfInBounds b (.map ms' clock') } := by
  have hl : (w.heap.setIfInBounds b (.map ms' clock'))[b]? = some (.map ms' clock') := by
    rw [Array.getElem?_setIfInBounds, if_pos rfl, if_pos (lt_of_heap h2)]
  refine h.write hb h1 (by simp) (fun b' hb' => ?_) rfl rfl rfl (fun r hr => by rw [h2] at hr; cases hr) ⟨h1, ms', hl, h3, h4⟩
  show (w.heap.setIfInBounds b _)[b']? = _
  rw [Array.getElem?_setIfInBounds, if_neg (Ne.symm hb')]

theorem mfind_at {kt : TypeId} {k : D} {i : Nat} {V : V} : ∀ {es : List (Nat × D × Idl.V)} {n : Nat}, mfind P kt k es n = some (some (i, V)) → n ≤ i ∧ ∃ b k', es[i - n]? = some (b, k', V) ∧ keyEq P kt k k' = some true
  | [], n, e => by simp [mfind] at e
  | (b, k', v) :: es, n, e => by
    simp only [mfind] at e
    split at e
    · rename_i ek
      injection e with e; injection e with e; injection e with e1 e2; subst e1; subst e2
      exact ⟨Nat.le_refl _, b, k', by simp, ek⟩
    · obtain ⟨h1, b', k2, h2, h3⟩ := mfind_at e
      refine ⟨by omega, b', k2, ?_, h3⟩
      obtain ⟨m, rfl⟩ : ∃ m, i = n + 1 + m := ⟨i - (n + 1), by omega⟩
      rw [show n + 1 + m - (n + 1) = m by omega] at h2
      rw [show n + 1 + m - n = m + 1 by omega]; exact h2
    · cases e

theorem does_mapUpdate {t : TypeId} {x y z : Operand} {r : List Oper} (h : Inv κ Φ B au s a w) (ho : o.op = .mapUpdate t x y z) (hk : stepK P o r s K) : Does P κ o a w K := by
  simp only [stepK, ho] at hk
  obtain ⟨_, hk⟩ := hk
  unfold mapUpdateK at hk
  split at hk
  · rename_i id k kt et ex ek em
    rw [em] at ek hk
    simp only [Option.map_some, Option.getD_some] at ek hk
    split at hk
    · rename_i clock es ehp
      obtain ⟨hkey, hk⟩ := hk
      obtain ⟨b, ms, hb, h1, h2, h3, h4⟩ := h.mapAt ehp
      have hut := mapTy_inv em
      have hx := ev_rep (P := P) h t x
      rw [ex] at hx
      have hxv : a.eval x = .map (some b) := by
        generalize a.eval x = v at hx
        cases hx with | map q => rw [hb] at q; injection q with q; rw [q]
      have hkv := ev_d h ek
      have hzv := (ev_rep (P := P) h et z).cp
      have run : ∀ {r' : Option (Nat × Value)} {w' : World}, (Instr.findKey kt (a.eval y) ms.toList).run P w = .ok r' w → ((match r' with
          | some (i, _) => do
            let key ← Instr.keyThatStays (((ms[i]?).map (·.key)).getD (a.eval y)) (a.eval y)
            setObj b (.map (ms.modify i fun e => { e with key, val := a.eval z }) clock)
          | none => setObj b (.map (ms.push { key := a.eval y, val := a.eval z, born := clock }) (clock + 1))) : Sem Unit).run P w = .ok () w' →
          (execOp a.eval o).run P w = .ok .skip w' := by
        intro r' w' e1 e2
        unfold execOp; rw [ho]; refine run_u ?_
        simp only [hxv]
        unfold Instr.mapUpdate
        rw [Sem.run_bind, run_underlying hut]; simp only [Result.andThen_ok]
        rw [Sem.run_bind, run_getObj h2 rfl]; simp only [Result.andThen_ok]
        rw [Sem.run_bind, run_checkKey hkey hkv]; simp only [Result.andThen_ok]
        rw [Sem.run_bind, e1]; simp only [Result.andThen_ok]
        exact e2
      split at hk
      · rename_i i V ef
        obtain ⟨r', g1, g2⟩ := run_find (B := B) (w := w) hkey hkv (by rw [Array.length_toList]; exact h3) (fun i n k V hi => by simpa using h4 i n k V hi) ef
        cases r' with
        | none => exact g2.elim
        | some p =>
          obtain ⟨j, v⟩ := p
          obtain ⟨rfl, hV⟩ := g2
          obtain ⟨_, b0, k', hat, hkk⟩ := mfind_at ef
          simp only [Nat.sub_zero] at hat
          obtain ⟨e0, m1, m2, m3, m4⟩ := h4 i b0 k' V hat
          have hbits : Instr.sameBits 10000 e0.key (a.eval y) = true := sameBits_of (n := 9999) m3 hkv (keyEq_same hkk)
          have hrun := run (r' := some (i, v)) (w' := { w with heap := w.heap.setIfInBounds b (.map (ms.modify i fun e => { e with key := a.eval y, val := a.eval z }) clock) }) g1 (by
            simp only [m1, Option.map_some, Option.getD_some, Instr.keyThatStays, hbits, if_true, pure_bind]
            exact run_setMap h2)
          refine does_skip hrun hk ⟨Φ, B, au, (h.setMap (es' := es.modify i fun e => (e.1, e.2.1, (ev P et s z).cp)) hb h1 h2 (by simpa using h3) (fun j n k2 V2 hj => ?_)).put o.dst (.un _) fun _ _ => trivial⟩
          rw [List.getElem?_modify] at hj
          by_cases ej : i = j
          · subst ej
            rw [hat] at hj; simp at hj
            obtain ⟨rfl, rfl, rfl⟩ := hj
            refine ⟨{ e0 with key := a.eval y, val := a.eval z }, by simp [Array.getElem?_modify, m1], m2, ?_, hzv⟩
            have hs := keyEq_same hkk
            unfold sameKey at hs
            split at hs
            · obtain ⟨rfl, rfl⟩ := hs; exact hkv
            · rename_i xs ys
              have aux : ∀ (xs ys : List D), sameL xs ys = true → xs = ys := by
                intro xs
                induction xs with
                | nil => intro ys h; cases ys with | nil => rfl | cons y ys => simp [sameL] at h
                | cons x xs ih =>
                  intro ys h
                  cases ys with
                  | nil => cases x <;> simp [sameL] at h
                  | cons y ys =>
                    cases x <;> cases y <;> simp [sameL] at h
                    obtain ⟨rfl, rfl, h⟩ := h; rw [ih ys h]
              rw [aux _ _ hs]; exact hkv
            · exact hs.elim
          · simp [ej] at hj
            obtain ⟨e2, q1, q2, q3, q4⟩ := h4 j n k2 V2 hj
            exact ⟨e2, by simp [Array.getElem?_modify, ej, q1], q2, q3, q4⟩
      · rename_i ef
        obtain ⟨r', g1, g2⟩ := run_find (B := B) (w := w) hkey hkv (by rw [Array.length_toList]; exact h3) (fun i n k V hi => by simpa using h4 i n k V hi) ef
        cases r' with
        | some p => exact g2.elim
        | none =>
          have hrun := run (w' := { w with heap := w.heap.setIfInBounds b (.map (ms.push { key := a.eval y, val := a.eval z, born := clock }) (clock + 1)) }) g1 (run_setMap h2)
          refine does_skip hrun hk ⟨Φ, B, au, (h.setMap (es' := es ++ [(clock, k, (ev P et s z).cp)]) hb h1 h2 (by simp [h3]) (fun j n k2 V2 hj => ?_)).put o.dst (.un _) fun _ _ => trivial⟩
          by_cases ej : j < es.length
          · rw [List.getElem?_append_left ej] at hj
            obtain ⟨e2, q1, q2, q3, q4⟩ := h4 j n k2 V2 hj
            refine ⟨e2, ?_, q2, q3, q4⟩
            rw [Array.getElem?_push, if_neg (by omega)]; exact q1
          · rw [List.getElem?_append_right (by omega)] at hj
            have ej' : j = es.length := by
              have := (List.getElem?_eq_some_iff.1 hj).1; simp at this; omega
            subst ej'
            simp at hj
            obtain ⟨rfl, rfl, rfl⟩ := hj
            exact ⟨_, by rw [Array.getElem?_push, if_pos h3.symm], rfl, hkv, hzv⟩
      · exact hk.elim
    · exact hk.elim
  · exact hk.elim

theorem does_range {t : TypeId} {x : Operand} {r : List Oper} (h : Inv κ Φ B au s a w) (ho : o.op = .range t x) (hk : stepK P o r s K) : Does P κ o a w K := by
  simp only [stepK, ho] at hk
  split at hk
  · rename_i id ex
    split at hk
    · rename_i clock es ehp
      obtain ⟨hm, hk⟩ := hk
      obtain ⟨b, ms, hb, h1, h2, h3, h4⟩ := h.mapAt ehp
      obtain ⟨p, em⟩ := Option.isSome_iff_exists.1 hm
      have hut := mapTy_inv (kt := p.1) (et := p.2) em
      have hx := ev_rep (P := P) h t x
      rw [ex] at hx
      have hxv : a.eval x = .map (some b) := by
        generalize a.eval x = v at hx
        cases hx with | map q => rw [hb] at q; injection q with q; rw [q]
      obtain ⟨au', g⟩ := h.pushObj (ob := .mapIter (some b) clock #[] clock) (io := .iter id clock [] clock) fun au' ha => ⟨ha, b, by
        rw [List.getElem?_append_left (List.getElem?_eq_some_iff.1 hb).1]; exact hb, by simp⟩
      refine does_value (v := .pointer (some ⟨w.heap.size, 0, none⟩)) (w' := { w with heap := w.heap.push (.mapIter (some b) clock #[] clock) }) ?_ hk ⟨Φ, _, au', g.put o.dst (.ptr (b := w.heap.size) ?_) fun _ _ => trivial⟩
      · unfold execOp; rw [ho]; refine run_v ?_
        simp only [hxv]
        unfold Instr.range
        rw [Sem.run_bind, run_underlying hut]; simp only [Result.andThen_ok]
        rw [Sem.run_bind, run_getObj h2 rfl]; simp only [Result.andThen_ok]
        simp [newObj, Sem.run, pure]
      · rw [h.hl]; simp
    · exact hk.elim
  · exact hk.elim

theorem run_choose_mapNext {n : Nat} : ∃ i w', (choose (.mapNext n)).run P w = .ok i w' ∧ Grows w w' ∧ (0 < n → i < n) := by
  by_cases hn : n ≤ 1
  · refine ⟨0, w, ?_, Grows.refl w, fun h => h⟩
    simp [choose, Sem.run, Question.forced, hn, pure]
  · refine ⟨w.tape w.drawn (.mapNext n) % n, w.drew, ?_, Grows.drew w _, fun _ => ?_⟩
    rotate_left
    · exact Nat.mod_lt (w.tape w.drawn (.mapNext n)) (by omega)
    · simp [choose, Sem.run, Question.forced, hn, pure, Question.cut]

theorem does_next {x : Operand} {r : List Oper} (h : Inv κ Φ B au s a w) (ho : o.op = .next x false) (hk : stepK P o r s K) : Does P κ o a w K := by
  simp only [stepK, ho] at hk
  unfold nextK at hk
  split at hk
  · rename_i id ex
    split at hk
    · rename_i m since seen last ehp
      split at hk
      · rename_i clock es ehm
        obtain ⟨hlast, hend, hstep⟩ := hk
        obtain ⟨bm, ms, hbm, h1, h2, h3, h4⟩ := h.mapAt ehm
        have hid : id < B.length := by rw [← h.hl]; exact (List.getElem?_eq_some_iff.1 ehp).1
        have hb : B[id]? = some B[id] := List.getElem?_eq_getElem hid
        obtain ⟨i1, bm', i2, i3⟩ := h.hp id _ _ ehp hb
        rw [hbm] at i2; injection i2 with i2; subst i2
        have hx := ev_rep (P := P) h 0 x
        rw [ex] at hx
        have hxv := hx.ptr_inv hb
        generalize B[id] = b at *
        -- the run
        have hcond : (!(seen.toArray).isEmpty && !ms.isEmpty && ms.all (·.born ≥ last)) = false := by
          rcases hlast with rfl | rfl | he
          · simp
          · have : ms = #[] := by have := h3; simp at this; exact this
            subst this; simp
          · rw [List.any_eq_true] at he
            obtain ⟨⟨n, k, V⟩, hmem, hlt⟩ := he
            obtain ⟨i, hi, hie⟩ := List.getElem_of_mem hmem
            obtain ⟨e, q1, q2, _⟩ := h4 i n k V (by rw [← hie]; exact List.getElem?_eq_getElem hi)
            have : ms.all (·.born ≥ last) = false := by
              rw [Array.all_eq_false]
              obtain ⟨hi', he'⟩ := Array.getElem?_eq_some_iff.1 q1
              refine ⟨i, hi', ?_⟩
              rw [he', q2]; simpa using hlt
            rw [this]; simp
        generalize hcand : (if ((ms.filter fun e => !(seen.toArray).contains e.born).filter (·.born < since)).isEmpty then #[none] else #[]) ++ (((ms.filter fun e => !(seen.toArray).contains e.born).filter (·.born < since)) ++ ((ms.filter fun e => !(seen.toArray).contains e.born).filter (·.born ≥ since))).map some = cand
        have hpos : 0 < cand.size := by
          rw [← hcand]
          split
          · simp; omega
          · rename_i hne
            have : 0 < ((ms.filter fun e => !(seen.toArray).contains e.born).filter (·.born < since)).size := by
              rw [Array.isEmpty_iff_size_eq_zero] at hne; omega
            simp only [Array.size_append, Array.size_map]; omega
        obtain ⟨i, w', hch, hg, hlt⟩ := run_choose_mapNext (P := P) (w := w) (n := cand.size)
        have hci := Array.getElem?_eq_getElem (hlt hpos)
        have hrun : ∀ {y : Value} {w2 : World}, ((match cand[i]? with
            | some (some e) => do
              setObj b (.mapIter (some bm) since (seen.toArray.push e.born) clock)
              pure (.tuple #[.bool true, e.key, e.val])
            | some none => pure (.tuple #[.bool false])
            | none => stuck "Next: no such candidate") : Sem Value).run P w' = .ok y w2 → (execOp a.eval o).run P w = .ok (.value y) w2 := by
          intro y w2 e
          unfold execOp; rw [ho]; refine run_v ?_
          simp only [hxv]
          unfold Instr.next
          simp only
          rw [Sem.run_bind, run_getObj i3 rfl]; simp only [Result.andThen_ok]
          rw [Sem.run_bind, run_getObj h2 rfl]; simp only [Result.andThen_ok]
          rw [hcond]
          simp only [Bool.false_eq_true, if_false]
          rw [hcand, Sem.run_bind, hch]; simp only [Result.andThen_ok]
          exact e
        have hmem : cand[i]'(hlt hpos) ∈ cand := Array.getElem_mem _
        cases hc : cand[i]'(hlt hpos) with
        | none =>
          rw [hc] at hci hmem
          have hold : ((ms.filter fun e => !(seen.toArray).contains e.born).filter (·.born < since)).isEmpty = true := by
            rw [← hcand] at hmem
            rw [Array.mem_append] at hmem
            rcases hmem with hm | hm
            · split at hm
              · assumption
              · simp at hm
            · simp at hm
          have hempty : (es.filter fun e => !seen.contains e.1 && decide (e.1 < since)) = [] := by
            rw [List.filter_eq_nil_iff]
            rintro ⟨n, k, V⟩ hme hc2
            obtain ⟨j, hj, hje⟩ := List.getElem_of_mem hme
            obtain ⟨e, q1, q2, _⟩ := h4 j n k V (by rw [← hje]; exact List.getElem?_eq_getElem hj)
            simp only [Bool.and_eq_true, Bool.not_eq_true', decide_eq_true_eq] at hc2
            have : e ∈ ((ms.filter fun e => !(seen.toArray).contains e.born).filter (·.born < since)) := by
              rw [Array.mem_filter, Array.mem_filter]
              refine ⟨⟨Array.mem_of_getElem? q1, ?_⟩, ?_⟩
              · rw [q2]; simpa using hc2.1
              · rw [q2]; simpa using hc2.2
            rw [Array.isEmpty_iff] at hold
            rw [hold] at this; simp at this
          have := hrun (y := .tuple #[.bool false]) (w2 := w') (by rw [hci]; rfl)
          refine does_value this (hend hempty) ⟨Φ, B, au, (h.grow hg).put o.dst (.tup (cs := [.bool false]) (.cons (.d (.bool _)) .nil)) fun _ _ => ?_⟩
          rintro j z xs cs c e hj hc
          cases j <;> simp at hj
        | some e =>
          rw [hc] at hci hmem
          have hme : e ∈ ms ∧ seen.contains e.born = false := by
            rw [← hcand] at hmem
            rw [Array.mem_append] at hmem
            rcases hmem with hm | hm
            · split at hm <;> simp at hm
            · rw [Array.mem_map] at hm
              obtain ⟨e', he', hee⟩ := hm
              injection hee with hee; subst hee
              rw [Array.mem_append] at he'
              rcases he' with he' | he' <;> (rw [Array.mem_filter, Array.mem_filter] at he'; exact ⟨he'.1.1, by simpa using he'.1.2⟩)
          obtain ⟨hm1, hm2⟩ := hme
          obtain ⟨j, hj, hje⟩ := Array.getElem_of_mem hm1
          have hj' : j < es.length := by omega
          obtain ⟨e2, q1, q2, q3, q4⟩ := h4 j es[j].1 es[j].2.1 es[j].2.2 (List.getElem?_eq_getElem hj')
          have : e2 = e := by rw [Array.getElem?_eq_getElem hj, hje] at q1; injection q1 with q1; exact q1.symm
          subst this
          have hk2 := hstep es[j] (List.getElem_mem hj') (by rw [← q2]; exact hm2)
          have hl' : w'.heap[b]? = some (.mapIter (some bm) since seen.toArray last) := (hg.same b (lt_of_heap i3)).trans i3
          have := hrun (y := .tuple #[.bool true, e2.key, e2.val]) (w2 := { w' with heap := w'.heap.setIfInBounds b (.mapIter (some bm) since (seen.toArray.push e2.born) clock) }) (by
            rw [hci]; simp only
            rw [Sem.run_bind, run_setObj hl' rfl]; rfl)
          refine does_value this hk2 ⟨Φ, B, au, Inv.put (s := { s with hp := s.hp.set id (.iter m since (seen ++ [es[j].1]) clock) }) ?_ o.dst (.tup (cs := [.bool true, e2.key, e2.val]) (.cons (.d (.bool _)) (.cons (.d q3) (.cons q4.cp .nil)))) fun _ _ => ?_⟩
          · have hlb : (w'.heap.setIfInBounds b (.mapIter (some bm) since (seen.toArray.push e2.born) clock))[b]? = some (.mapIter (some bm) since (seen.toArray.push e2.born) clock) := by
              rw [Array.getElem?_setIfInBounds, if_pos rfl, if_pos (lt_of_heap hl')]
            refine (h.grow hg).write hb i1 (by simp) (fun b' hb' => ?_) rfl rfl rfl (fun r hr => by rw [hl'] at hr; cases hr) ⟨i1, bm, hbm, by rw [hlb, q2]; simp⟩
            show (w'.heap.setIfInBounds b _)[b']? = _
            rw [Array.getElem?_setIfInBounds, if_neg (Ne.symm hb')]
          · rintro jj z xs cs c e hjj hcc
            match jj, hjj with
            | 0, hjj => simp at hjj
            | 1, hjj => simp at hjj
            | 2, hjj =>
              simp at hjj
              cases hV : es[j].2.2 <;> rw [hV] at hjj <;> simp [Idl.V.cp] at hjj
            | jj + 3, hjj => simp at hjj
      · exact hk.elim
    · exact hk.elim
  · exact hk.elim

end
end Go.Idl
end
section
namespace Go.Idl

section
variable {P : Program} {κ : Ctx} {Φ : CM} {B : List Nat} {au : Auth} {s : St} {a : Act} {w : World} {K : St → Prop} {o : Oper}

theorem RepL.append {ds es : List D} {cs fs : List Value} (h : RepL Φ ds cs) (h' : RepL Φ es fs) : RepL Φ (ds ++ es) (cs ++ fs) := by
  induction ds generalizing cs with
  | nil => cases h; simpa using h'
  | cons d ds ih => cases h with
    | cons a b c => exact .cons a b (ih c)

theorem RepL.take {ds : List D} {cs : List Value} (h : RepL Φ ds cs) (n : Nat) : RepL Φ (ds.take n) (cs.take n) := by
  induction n generalizing ds cs with
  | zero => exact .nil
  | succ n ih => cases h with
    | nil => exact .nil
    | cons a b c => exact .cons a b (ih c)

theorem RepL.drop {ds : List D} {cs : List Value} (h : RepL Φ ds cs) (n : Nat) : RepL Φ (ds.drop n) (cs.drop n) := by
  induction n generalizing ds cs with
  | zero => exact h
  | succ n ih => cases h with
    | nil => exact .nil
    | cons a b c => exact ih c

theorem flat_take {z : Nat} {xs : List D} (hz : ∀ x ∈ xs, x.flat.length = z) (n : Nat) : (xs.take n).flatMap D.flat = (xs.flatMap D.flat).take (n * z) := by
  induction n generalizing xs with
  | zero => simp
  | succ n ih =>
    cases xs with
    | nil => simp
    | cons x xs =>
      have hx := hz x (by simp)
      have hm : (n + 1) * z = z + n * z := by rw [Nat.add_mul]; omega
      rw [List.take_succ_cons, List.flatMap_cons, List.flatMap_cons, ih (fun y hy => hz y (by simp [hy])), List.take_append, hx, hm, List.take_of_length_le (l := x.flat) (by omega), Nat.add_sub_cancel_left]

theorem flat_drop {z : Nat} {xs : List D} (hz : ∀ x ∈ xs, x.flat.length = z) (n : Nat) : (xs.drop n).flatMap D.flat = (xs.flatMap D.flat).drop (n * z) := by
  induction n generalizing xs with
  | zero => simp
  | succ n ih =>
    cases xs with
    | nil => simp
    | cons x xs =>
      have hx := hz x (by simp)
      have hm : (n + 1) * z = z + n * z := by rw [Nat.add_mul]; omega
      rw [List.drop_succ_cons, List.flatMap_cons, ih (fun y hy => hz y (by simp [hy])), List.drop_append, hx, hm, List.drop_eq_nil_of_le (as := x.flat) (by omega), Nat.add_sub_cancel_left, List.nil_append]

/-- an array's block, as a row of cells -/
theorem Inv.arrFlat (h : Inv κ Φ B au s a w) {id z : Nat} {xs : List D} (e : s.hp[id]? = some (.arr z xs)) (hne : xs ≠ []) (hz0 : 0 < z) :
    ∃ b c el, B[id]? = some b ∧ au b = some (.obj id, 0) ∧ w.heap[b]? = some (.cells c el (0, 0)) ∧ c.size = xs.length * z ∧ (∀ x ∈ xs, x.flat.length = z) ∧ RepL Φ (xs.flatMap D.flat) c.toList := by
  obtain ⟨b, c, el, hb, h1, h2, h3, h4⟩ := h.arrAt e hne
  have hz : ∀ x ∈ xs, x.flat.length = z := fun x hx => by
    obtain ⟨i, hi, rfl⟩ := List.getElem_of_mem hx
    exact (h4 i _ (List.getElem?_eq_getElem hi)).1
  refine ⟨b, c, el, hb, h1, h2, h3, hz, RepL.of (by rw [flat_length hz, ← h3]; simp) fun k d v hd hv => ?_⟩
  obtain ⟨q, r, hr', rfl⟩ : ∃ q r, r < z ∧ k = q * z + r := ⟨k / z, k % z, Nat.mod_lt _ hz0, by rw [Nat.mul_comm]; exact (Nat.div_add_mod k z).symm⟩
  rw [flat_get hz q r hr'] at hd
  cases hx : xs[q]? with
  | none => simp [hx] at hd
  | some x =>
    simp [hx] at hd
    obtain ⟨_, g⟩ := h4 q x hx
    obtain ⟨v', m1, m2, m3⟩ := g r d hd
    rw [Array.getElem?_toList, m1] at hv; injection hv with hv; subst hv
    exact ⟨m2, m3⟩

theorem arrRep_of_flat {id b z : Nat} {xs : List D} {c : Array Value} {el : TypeId} (h1 : au b = some (.obj id, 0)) (h2 : w.heap[b]? = some (.cells c el (0, 0))) (hz : ∀ x ∈ xs, x.flat.length = z) (hr : RepL Φ (xs.flatMap D.flat) c.toList) : RepO Φ B au w id b (.arr z xs) := by
  obtain ⟨q1, q2⟩ := hr.get
  refine fun _ => ⟨h1, c, el, h2, by rw [← flat_length hz, q1]; simp, fun i x hx => ?_⟩
  have hxz := hz x (List.mem_of_getElem? hx)
  refine ⟨hxz, fun j d hd => ?_⟩
  have hj : j < z := by rw [← hxz]; exact (List.getElem?_eq_some_iff.1 hd).1
  have hg := flat_get hz i j hj
  rw [hx, Option.bind_some, hd] at hg
  have hlt : i * z + j < c.toList.length := by rw [← q1]; exact (List.getElem?_eq_some_iff.1 hg).1
  obtain ⟨a1, a2⟩ := q2 _ d _ hg (List.getElem?_eq_getElem hlt)
  exact ⟨c.toList[i * z + j], by rw [← Array.getElem?_toList]; exact List.getElem?_eq_getElem hlt, a1, a2⟩

/-- what a slice shows, read -/
theorem run_elems (h : Inv κ Φ B au s a w) {X : V} {v : Value} {z : Nat} {ys : List D} (e : elemsOf s X = some (z, ys)) (hz0 : 0 < z) (hr : RepS Φ B X v) :
    ∃ ad cap, v = .slice ad ys.length cap ∧ ∃ vs : List Value, (∀ (n : Nat) w', n ≤ ys.length → Grows w w' → (Builtin.firstCells z n v).run P w' = .ok (vs.take (n * z)).toArray w') ∧ RepL Φ (ys.flatMap D.flat) vs ∧ vs.length = ys.length * z ∧ (∀ x ∈ ys, x.flat.length = z) ∧ ∀ v ∈ vs, okCell v := by
  have data : ∀ {l : Bool}, RepD Φ (.sl l z ys) v → ∃ ad cap, v = .slice ad ys.length cap ∧ ∃ vs : List Value, (∀ (n : Nat) w', n ≤ ys.length → Grows w w' → (Builtin.firstCells z n v).run P w' = .ok (vs.take (n * z)).toArray w') ∧ RepL Φ (ys.flatMap D.flat) vs ∧ vs.length = ys.length * z ∧ (∀ x ∈ ys, x.flat.length = z) ∧ ∀ v ∈ vs, okCell v := by
    intro l hr
    obtain ⟨ad, cap, rfl, _, he⟩ := hr.sl_inv
    refine ⟨ad, cap, rfl, ?_⟩
    by_cases hne : ys = []
    · subst hne
      refine ⟨[], fun n w' hn _ => ?_, .nil, by simp, by simp, by simp⟩
      have : n = 0 := by simpa using hn
      subst this
      cases ad with
      | none => rw [Nat.zero_mul]; rfl
      | some ad =>
        show (loadCells ad (0 * z)).run P w' = _
        rw [Nat.zero_mul]; rfl
    · obtain ⟨b, off, rfl, he'⟩ := he hne
      obtain ⟨hc, hz⟩ := ElemsAt.flat he'
      obtain ⟨vs, h1, h2, h3⟩ := hc.cells
      have hl : vs.length = ys.length * z := by rw [h1, flat_length hz]
      refine ⟨vs, fun n w' hn g => ?_, h3, hl, hz, fun v hv => ?_⟩
      · show (loadCells ⟨b, off, none⟩ (n * z)).run P w' = _
        have hnl : (vs.take (n * z)).length = n * z := by
          rw [List.length_take, hl]
          have := Nat.mul_le_mul_right z hn; omega
        rw [← hnl]
        refine (run_loadCells fun j v hj => g.cell (h.phi _ _ _ _ (h2 j v ?_))).trans (by rw [hnl])
        rw [List.getElem?_take] at hj
        split at hj
        · exact hj
        · cases hj
      · obtain ⟨j, hj, rfl⟩ := List.getElem_of_mem hv
        obtain ⟨q1, q2⟩ := h3.get
        have hj' : j < (ys.flatMap D.flat).length := by rw [q1]; exact hj
        exact (q2 j _ _ (List.getElem?_eq_getElem hj') (List.getElem?_eq_getElem hj)).1
  unfold elemsOf at e
  split at e
  · injection e with e; injection e with e1 e2; subst e1; subst e2
    cases hr with | d hr => exact data hr
  · injection e with e; injection e with e1 e2; subst e1; subst e2
    cases hr with | own hr => exact data hr
  · injection e with e; injection e with e1 e2; subst e1; subst e2
    cases hr with | nil => exact data (l := false) .sl0
  · rename_i id z1 off len cap
    split at e
    · rename_i z' xs ehp
      split at e
      · rename_i hc
        obtain ⟨rfl, hlc, hoc⟩ := hc
        injection e with e; injection e with e1 e2; subst e1; subst e2
        have hlen : ((xs.drop off).take len).length = len := by simp; omega
        rw [hlen]
        by_cases hl0 : len = 0
        · subst hl0
          obtain ⟨ad, rfl⟩ : ∃ ad, v = .slice ad 0 cap := by cases hr <;> exact ⟨_, rfl⟩
          refine ⟨ad, cap, rfl, [], fun n w' hn _ => ?_, by simp; exact .nil, by simp, by simp, by simp⟩
          have : n = 0 := by omega
          subst this
          cases ad with
          | none => rw [Nat.zero_mul]; rfl
          | some ad =>
            show (loadCells ad (0 * z')).run P w' = _
            rw [Nat.zero_mul]; rfl
        · have hne : xs ≠ [] := by rintro rfl; simp at hoc; omega
          obtain ⟨b, c, el, hb, h1, h2, h3, hz, hrep⟩ := h.arrFlat ehp hne hz0
          cases hr with
          | ref0 => omega
          | ref hb' hle had =>
            rw [hb] at hb'; injection hb' with hb'; subst hb'
            obtain rfl := had (by omega)
            have hz' : ∀ x ∈ (xs.drop off).take len, x.flat.length = z' := fun x hx => hz x (List.mem_of_mem_drop (List.mem_of_mem_take hx))
            have hfl : ((xs.drop off).take len).flatMap D.flat = ((xs.flatMap D.flat).drop (off * z')).take (len * z') := by
              rw [flat_take (fun x hx => hz x (List.mem_of_mem_drop hx)), flat_drop hz]
            have hmul : (off + len) * z' ≤ xs.length * z' := Nat.mul_le_mul_right z' (by omega)
            rw [Nat.add_mul] at hmul
            have hvl : ((c.toList.drop (off * z')).take (len * z')).length = len * z' := by
              simp only [List.length_take, List.length_drop, Array.length_toList, h3]; omega
            refine ⟨_, _, rfl, (c.toList.drop (off * z')).take (len * z'), fun n w' hn g => ?_, by rw [hfl]; exact (hrep.drop _).take _, hvl, hz', fun v hv => ?_⟩
            · show (loadCells ⟨b, off * z', none⟩ (n * z')).run P w' = _
              have hmn := Nat.mul_le_mul_right z' hn
              have hnl : ((((c.toList.drop (off * z')).take (len * z'))).take (n * z')).length = n * z' := by
                rw [List.length_take, hvl]; omega
              conv => lhs; rw [← hnl]
              refine run_loadCells fun j v hj => ?_
              rw [List.getElem?_take] at hj
              split at hj
              · rw [List.getElem?_take] at hj
                split at hj
                · rw [List.getElem?_drop, Array.getElem?_toList] at hj
                  exact g.cell (by rw [cell_of h2]; exact hj)
                · cases hj
              · cases hj
            · obtain ⟨q1, q2⟩ := hrep.get
              have hv' := List.mem_of_mem_drop (List.mem_of_mem_take hv)
              obtain ⟨j, hj, rfl⟩ := List.getElem_of_mem hv'
              have hj' : j < (xs.flatMap D.flat).length := by rw [q1]; exact hj
              exact (q2 j _ _ (List.getElem?_eq_getElem hj') (List.getElem?_eq_getElem hj)).1
      · cases e
    · cases e
  · cases e

/-- A row of elements is written into an array. -/
theorem Inv.writeArr (h : Inv κ Φ B au s a w) {id z n : Nat} {xs ys : List D} {vs : List Value} {b : Nat} {c : Array Value} {el : TypeId} {w' : World} (hb : B[id]? = some b) (h1 : au b = some (.obj id, 0)) (h2 : w.heap[b]? = some (.cells c el (0, 0))) (h3 : c.size = xs.length * z)
    (hz : ∀ x ∈ xs, x.flat.length = z) (hrep : RepL Φ (xs.flatMap D.flat) c.toList) (hy : RepL Φ (ys.flatMap D.flat) vs) (hyz : ∀ x ∈ ys, x.flat.length = z) (hn : n + ys.length ≤ xs.length) (g : Writes w w' b c el (n * z) vs) :
    Inv κ Φ B au { s with hp := s.hp.set id (.arr z (xs.take n ++ ys ++ xs.drop (n + ys.length))) } a w' := by
  obtain ⟨c', q1, q2, q3, q4⟩ := g.here
  have hvl : vs.length = ys.length * z := by rw [← hy.get.1, flat_length hyz]
  have hmul := Nat.mul_le_mul_right z hn
  rw [Nat.add_mul] at hmul
  have hc' : c'.toList = c.toList.take (n * z) ++ vs ++ c.toList.drop ((n + ys.length) * z) := by
    apply List.ext_getElem?
    intro k
    rw [Array.getElem?_toList]
    by_cases k1 : k < n * z
    · rw [q4 k (.inl k1), List.append_assoc, List.getElem?_append_left (by simp; omega), List.getElem?_take, if_pos k1, Array.getElem?_toList]
    · by_cases k2 : k < n * z + vs.length
      · rw [q3 k (by omega) k2, List.append_assoc, List.getElem?_append_right (by simp; omega), List.getElem?_append_left (by simp; omega)]
        congr 1; simp; omega
      · rw [q4 k (.inr (by omega)), List.getElem?_append_right (by simp; omega), List.getElem?_drop, Array.getElem?_toList]
        congr 1; simp; rw [Nat.add_mul]; omega
  refine h.write hb h1 g.size g.there g.tape g.os g.out (fun r hr => by rw [h2] at hr; cases hr) (arrRep_of_flat h1 q1 (fun x hx => ?_) ?_)
  · simp only [List.mem_append] at hx
    rcases hx with (hx | hx) | hx
    · exact hz x (List.mem_of_mem_take hx)
    · exact hyz x hx
    · exact hz x (List.mem_of_mem_drop hx)
  · rw [List.flatMap_append, List.flatMap_append, flat_take hz, flat_drop hz, hc']
    exact ((hrep.take _).append hy).append (hrep.drop _)

theorem zeroEl_inv {t : TypeId} {z y : Nat} {zd : D} (e : zeroEl P t = some zd) (hel : elI P t = some (z, y)) (hzd : zd.flat.length = z) :
    ∃ el i zv, P.underlying t = some (.slice el) ∧ P.info? el = some i ∧ i.zero = some zv ∧ i.size = z ∧ i.bytes = y ∧ zv.cells.size = z ∧ RepL Φ zd.flat zv.cells.toList := by
  obtain ⟨el, i, zv, hut, hi, hzv, hsz, hby, hzs⟩ := elI_inv hel
  have : elemTy P t = some el := by simp [elemTy, hut]
  simp only [zeroEl, this, Option.bind_some] at e
  exact ⟨el, i, zv, hut, hi, hzv, hsz, hby, hzs, zero_rep e hi hzv (by rw [hzd, hzs])⟩

/-- so many zeros, as the machine makes them -/
theorem zeros_rep' {zd : D} {zc : Array Value} {n z : Nat} (hr : RepL Φ zd.flat zc.toList) (hz : zd.flat.length = z) (hz0 : 0 < z) :
    RepL Φ ((List.replicate n zd).flatMap D.flat) (Builtin.zeroCells zc n).toList := by
  have h := zeros_rep (n := n) hr hz hz0
  have : zc.size = z := by rw [← hz, hr.get.1]; simp
  unfold Builtin.zeroCells
  rw [this] at h ⊢
  exact h

theorem repL_ok {ds : List D} {cs : List Value} (h : RepL Φ ds cs) : ∀ v ∈ cs, okCell v := by
  intro v hv
  obtain ⟨q1, q2⟩ := h.get
  obtain ⟨j, hj, rfl⟩ := List.getElem_of_mem hv
  have hj' : j < ds.length := by rw [q1]; exact hj
  exact (q2 j _ _ (List.getElem?_eq_getElem hj') (List.getElem?_eq_getElem hj)).1

/-- append, where it is known what comes -/
def appTail (el : TypeId) (size : Nat) (ad : Option Addr) (len cap : Nat) (u : Value) (n : Nat) (appended : Sem (Array Value)) (zs : Bool) : Sem Value :=
  if len + n ≤ cap then do
    let new ← appended
    if let some a := ad then storeCells (a.add (len * size)) new.toList
    pure (.slice ad (len + n) cap)
  else do
    if ((len + n : Nat) : Int) > IntKind.i64.max ∧ (zs ∨ (← typeInfo el).bytes = 0) then runtimePanic (.error "growslice: len out of range")
    if Builtin.nextslicecap (len + n) cap * (← typeInfo el).bytes > 2 ^ 48 then (if zs then runtimePanic (.error "growslice: len out of range") else do
      if !(← Builtin.mayShare size len n ad u) then mark .noRoom
      unsupported (.resourceLimit "append: a slice or a string whose bytes no memory bears"))
    let newCap ← choose (.appendCap (len + n) cap el)
    askRoom (newCap * (← typeInfo el).bytes)
    let old ← Builtin.firstCells size len (.slice ad len cap)
    let new ← appended
    let rest := Builtin.zeroCells (← zeroValue el).cells (newCap - (len + n))
    pure (.slice (some (← newRow el (old ++ new ++ rest))) (len + n) newCap)

/-- what an append appends, read -/
theorem run_appElems (h : Inv κ Φ B au s a w) {t0 t1 : TypeId} {Y : V} {u : Value} {z by_ : Nat} {ys : List D} {zd : D} (e : appElems P t0 t1 s Y = some (z, ys)) (hel : elI P t0 = some (z, by_)) (hzd : zeroEl P t0 = some zd) (hzl : zd.flat.length = z) (hz0 : 0 < z) (hr : RepS Φ B Y u)
    {el : TypeId} {i : TypeInfo} {zv : Value} (hut : P.underlying t0 = some (.slice el)) (hi : P.info? el = some i) (hzv : i.zero = some zv) (hsz : i.size = z) (hby : i.bytes = by_) :
    ∃ vs : List Value, RepL Φ (ys.flatMap D.flat) vs ∧ vs.length = ys.length * z ∧ (∀ x ∈ ys, x.flat.length = z) ∧
      ∀ {r : Value} {w' : World} {ad : Option Addr} {len cap : Nat} {rt : TypeId}, (∀ (appended : Sem (Array Value)) (zs : Bool), (∀ w', Grows w w' → appended.run P w' = .ok vs.toArray w') → (appTail el i.size ad len cap u ys.length appended zs).run P w = .ok r w') →
        (Builtin.append_ #[t0, t1] rt #[.slice ad len cap, u]).run P w = .ok r w' := by
  unfold appElems at e
  split at e
  · rename_i e1 hu1
    obtain ⟨ad, cap, rfl, vs, g1, g2, g3, g4, g5⟩ := run_elems (P := P) h e hz0 hr
    refine ⟨vs, g2, g3, g4, fun {r w' ad0 len cap0 rt} hk => ?_⟩
    have := hk (Builtin.firstCells i.size ys.length (.slice ad ys.length cap)) false fun w' g => by
      have := g1 ys.length w' (Nat.le_refl _) g
      rw [List.take_of_length_le (by omega)] at this
      rw [hsz]; exact this
    unfold Builtin.append_
    simp only [List.getElem?_toArray, List.getElem?_cons_zero, List.getElem?_cons_succ]
    rw [Sem.run_bind, run_underlying hut]; simp only [Result.andThen_ok]
    rw [Sem.run_bind, run_sizeOf hi]; simp only [Result.andThen_ok]
    rw [Sem.run_bind, run_underlying hu1]
    exact this
  · rename_i n hu1
    split at e
    · rename_i hc
      obtain ⟨h0, h1, h2⟩ := hc
      rw [hzd] at e
      simp only [Option.map_some, Option.some.injEq, Prod.mk.injEq] at e
      obtain ⟨-, rfl⟩ := e
      obtain ⟨el', i', zv', hut', hi', hzv', hsz', hby', hzs', hzr⟩ := zeroEl_inv (Φ := Φ) hzd hel hzl
      rw [hut] at hut'; injection hut' with hut'; injection hut' with hut'; subst hut'
      rw [hi] at hi'; injection hi' with hi'; subst hi'
      rw [hzv] at hzv'; injection hzv' with hzv'; subst hzv'
      have hrep := zeros_rep' (n := n.toNat) hzr hzl hz0
      have hall : ∀ x ∈ List.replicate n.toNat zd, x.flat.length = z := fun x hx => by rw [(List.mem_replicate.1 hx).2]; exact hzl
      refine ⟨_, hrep, by rw [← hrep.get.1, flat_length hall], hall, fun {r w' ad0 len cap0 rt} hk => ?_⟩
      have hu : u = .int .i64 n := by cases hr with | d q => exact repD_int q
      have hw : IntKind.i64.wrap n = n := wrap_i64 (by omega) (by omega)
      rw [hel] at h1
      simp only [Option.map_some, Option.getD_some] at h1
      have hbig : ¬ (n * (i.bytes : Int) > 2 ^ 48) := by rw [hby]; omega
      have := hk (if n.toNat * i.size = 0 then pure #[] else do pure (Builtin.zeroCells (← zeroValue el).cells n.toNat)) true fun w' _ => by
        split
        · rename_i hz
          have hn0 : n.toNat = 0 := by
            rcases Nat.mul_eq_zero.1 hz with hz | hz
            · exact hz
            · omega
          rw [hn0]
          simp [Builtin.zeroCells, pure, Sem.run]
        · simp only [Sem.run_bind, run_zeroValue hi hzv, Result.andThen_ok]
          simp [pure, Sem.run]
      simp only [List.length_replicate] at this
      unfold Builtin.append_
      simp only [List.getElem?_toArray, List.getElem?_cons_zero, List.getElem?_cons_succ]
      rw [Sem.run_bind, run_underlying hut]; simp only [Result.andThen_ok]
      rw [Sem.run_bind, run_sizeOf hi]; simp only [Result.andThen_ok]
      rw [Sem.run_bind, run_underlying hu1]; simp only [Result.andThen_ok, pure_bind, if_true, hu, asInt, asIntOf, hw, Int.not_lt.2 h0, if_false]
      rw [Sem.run_bind, run_typeInfo hi]; simp only [Result.andThen_ok, hbig, if_false, Bool.not_true, Bool.false_eq_true]
      rw [hu] at this
      unfold appTail at this
      simp only [Result.andThen_ok, pure_bind, if_true, hu, asInt, asIntOf, hw, Int.not_lt.2 h0, if_false] at this
      exact this
    · cases e
  · cases e

theorem toList_two {α : Type} {l : Array α} {x y : α} (h : l.toList = [x, y]) : l = #[x, y] := by
  have := congrArg List.toArray h; simpa using this
theorem toList_one {α : Type} {l : Array α} {x : α} (h : l.toList = [x]) : l = #[x] := by
  have := congrArg List.toArray h; simpa using this

theorem run_builtin {c : Call} {b : Builtin} {f : Array TypeId → TypeId → Array Value → Sem Value} {v : Value} {w' : World} (ho : o.op = .call c) (ec : c.callee = .builtin b) (hf : ∀ cs ts t args, builtin b ts t cs args = (do pure (.value (← f ts t args)) : Sem Next)) (h : (f c.argTypes o.type (c.args.map a.eval)).run P w = .ok v w') :
    (execOp a.eval o).run P w = .ok (.value v) w' := by
  unfold execOp; rw [ho]; simp only
  unfold resolve; simp only [ec, pure_bind]
  simp only [invoke]
  rw [hf]
  exact run_v h

/-- an array that is new -/
theorem Inv.newArr (h : Inv κ Φ B au s a w) {w1 : World} (g : Grows w w1) {z : Nat} {xs : List D} {vs : List Value} {el : TypeId} {cap : Nat} (hr : RepL Φ (xs.flatMap D.flat) vs) (hz : ∀ x ∈ xs, x.flat.length = z) (hcap : xs.length = cap) (dst : Option Nat) (len : Nat) (hl : len ≤ cap) :
    Rel κ (({ s with hp := s.hp ++ [IObj.arr z xs] } : St).put dst (.ref s.hp.length z 0 len cap)) (a.put dst (.slice (some ⟨w1.heap.size, 0, none⟩) len cap)) { w1 with heap := w1.heap.push (.cells vs.toArray el (0, 0)) } := by
  obtain ⟨au', hfin⟩ := (h.grow g).layArr (el := el) (c := vs.toArray) (z := z) (xs := xs) (by simpa using hr) hz
  exact ⟨Φ, _, au', hfin.put dst (.ref (b := w1.heap.size) (by rw [h.hl]; simp) hl fun _ => by rw [Nat.zero_mul]) fun _ _ => trivial⟩

theorem run_appTail_in {el : TypeId} {size len cap n : Nat} {ad : Option Addr} {u : Value} {appended : Sem (Array Value)} {zs : Bool} {vs : List Value} {w' : World} (h : len + n ≤ cap) (ha : appended.run P w = .ok vs.toArray w)
    (hs : (match ad with | some a => storeCells (a.add (len * size)) vs | none => pure () : Sem Unit).run P w = .ok () w') : (appTail el size ad len cap u n appended zs).run P w = .ok (.slice ad (len + n) cap) w' := by
  unfold appTail
  rw [if_pos h, Sem.run_bind, ha]; simp only [Result.andThen_ok]
  cases ad with
  | none => simp [pure, Sem.run] at hs ⊢; exact hs
  | some ad =>
    simp only at hs ⊢
    rw [Sem.run_bind, hs]; rfl

theorem run_appTail_out {el : TypeId} {i : TypeInfo} {zv : Value} {len cap n : Nat} {ad : Option Addr} {u : Value} {appended : Sem (Array Value)} {zs : Bool} {us vs : List Value} (h : cap < len + n) (hi : P.info? el = some i) (hzv : i.zero = some zv) (hb0 : 0 < i.bytes) (hb : (len + n) * i.bytes ≤ 140737488355328)
    (hu : ∀ w', Grows w w' → (Builtin.firstCells i.size len (.slice ad len cap)).run P w' = .ok us.toArray w') (ha : ∀ w', Grows w w' → appended.run P w' = .ok vs.toArray w') :
    (appTail el i.size ad len cap u n appended zs).run P w = .ok (.slice (some ⟨w.heap.size, 0, none⟩) (len + n) (grownCap w (len + n) cap el)) { w.drew with heap := w.heap.push (.cells (us ++ vs ++ (Builtin.zeroCells zv.cells (grownCap w (len + n) cap el - (len + n))).toList).toArray el (0, 0)) } := by
  have h48 := growslice_fits (need := len + n) (old := cap) (bytes := i.bytes) h hb
  have h48' : ¬ (281474976710656 < Builtin.nextslicecap (len + n) cap * i.bytes) := by omega
  have hmx : ¬ (((len + n : Nat) : Int) > IntKind.i64.max) := by
    have : IntKind.i64.max = 9223372036854775807 := by decide
    rw [this]
    have := Nat.le_mul_of_pos_right (len + n) hb0
    omega
  unfold appTail
  rw [if_neg (by omega)]
  simp only [Sem.run_bind, run_typeInfo hi, Result.andThen_ok]
  rw [if_neg (fun hh => hmx hh.1)]
  simp only [Sem.run_bind, run_typeInfo hi, Result.andThen_ok]
  rw [if_neg (by simpa using h48')]
  have hch : (choose (.appendCap (len + n) cap el)).run P w = .ok (grownCap w (len + n) cap el) w.drew := by
    simp [choose, Sem.run, Question.forced, pure, grownCap]
  have hd : Grows w w.drew := Grows.drew w _
  simp only [Sem.run_bind, hch, Result.andThen_ok, run_typeInfo hi, run_askRoom, hu _ hd, ha _ hd, run_zeroValue hi hzv]
  have hnr : ∀ cs : Array Value, (newRow el cs).run P w.drew = .ok ⟨w.heap.size, 0, none⟩ { w.drew with heap := w.heap.push (.cells cs el (0, 0)) } := fun cs => rfl
  rw [hnr]
  simp only [Result.andThen_ok, Sem.run_pure]
  congr 4
  apply Array.ext'
  simp

theorem does_appendRef {c : Call} {x y : Operand} {t0 t1 : TypeId} (h : Inv κ Φ B au s a w) (ho : o.op = .call c) (ec : c.callee = .builtin .append) (ea : c.args = #[x, y]) (et : c.argTypes = #[t0, t1]) (hk : appendRefK P t0 t1 (ev P t0 s x) (ev P t1 s y) s o.dst K) : Does P κ o a w K := by
  have hx := ev_rep (P := P) h t0 x
  have hy := ev_rep (P := P) h t1 y
  generalize ev P t0 s x = X at hk hx
  generalize ev P t1 s y = Y at hk hy
  unfold appendRefK at hk
  split at hk
  · rename_i id z off len cap z2 ys e by_ zd eel ely ezd
    split at hk
    · rename_i z' xs ehp
      obtain ⟨rfl, rfl, rfl, hz0, hb0, hzd, hlc, hoc, hbnd, k1, k2⟩ := hk
      obtain ⟨el, i, zv, hut, hi, hzv, hsz, hby, hzs, hzr⟩ := zeroEl_inv (Φ := Φ) ezd ely hzd
      obtain ⟨vs, g2, g3, g4, hrunY⟩ := run_appElems (P := P) (B := B) (w := w) h eel ely ezd hzd hz0 hy hut hi hzv hsz hby
      -- the first slice, read
      have heX : elemsOf s (.ref id e off len cap) = some (e, (xs.drop off).take len) := by
        simp [elemsOf, ehp, hlc, hoc]
      obtain ⟨ad, cap', hvx, us, u1, u2, u3, u4, u5⟩ := run_elems (P := P) h heX hz0 hx
      have hlen : ((xs.drop off).take len).length = len := by simp; omega
      rw [hlen] at hvx u1 u3
      have hcapE : cap' = cap := by rw [hvx] at hx; cases hx <;> rfl
      subst hcapE
      have hrun : ∀ {v : Value} {w' : World}, (∀ (appended : Sem (Array Value)) (zs : Bool), (∀ w', Grows w w' → appended.run P w' = .ok vs.toArray w') → (appTail el i.size ad len cap' (a.eval y) ys.length appended zs).run P w = .ok v w') → (execOp a.eval o).run P w = .ok (.value v) w' := by
        intro v w' hyp
        refine run_builtin ho ec (f := Builtin.append_) (fun _ _ _ _ => rfl) ?_
        rw [ea, et]
        have e2 : (#[x, y] : Array Operand).map a.eval = #[.slice ad len cap', a.eval y] := by simp [hvx]
        rw [e2]
        exact hrunY hyp
      by_cases hfit : len + ys.length ≤ cap'
      · by_cases hpos : 0 < cap'
        · have hne : xs ≠ [] := by rintro rfl; simp at hoc; omega
          obtain ⟨b, c1, el1, hb, h1, h2, h3, hz, hrep⟩ := h.arrFlat ehp hne hz0
          have had : ad = some ⟨b, off * e, none⟩ := by
            rw [hvx] at hx
            cases hx with
            | ref0 => omega
            | ref hb' hle hh => rw [hb] at hb'; injection hb' with hb'; subst hb'; exact hh hpos
          subst had
          have hm := Nat.mul_le_mul_right e (show off + len + ys.length ≤ xs.length by omega)
          rw [Nat.add_mul, Nat.add_mul] at hm
          obtain ⟨w', m1, m2⟩ := run_storeCells (P := P) (off := off * e + len * e) vs 0 w c1 h2 (by rw [h3, g3]; omega) (repL_ok g2)
          have m2' : Writes w w' b c1 el1 ((off + len) * e) vs := by rw [Nat.add_mul]; exact m2
          have hr := hrun (fun appended zs ha => run_appTail_in (w' := w') hfit (ha w (Grows.refl w)) (by simpa [addr_add, hsz] using m1))
          have hfin := h.writeArr hb h1 h2 h3 hz hrep g2 g4 (by omega) m2'
          exact does_value hr (k1 hfit) ⟨Φ, B, au, hfin.put o.dst (.ref hb hfit fun _ => rfl) fun _ _ => trivial⟩
        · have hc0 : cap' = 0 := by omega
          have hl0 : len = 0 := by omega
          have hy0 : ys = [] := List.length_eq_zero_iff.1 (by omega)
          subst hc0; subst hl0; subst hy0
          have hv0 : vs = [] := by simpa using g3
          subst hv0
          have hr := hrun (fun appended zs ha => run_appTail_in (w' := w) hfit (ha w (Grows.refl w)) (by cases ad <;> rfl))
          have hk' := k1 hfit
          simp only [Nat.add_zero, List.length_nil, List.append_nil, List.take_append_drop] at hk' hr
          have hset : s.hp.set id (.arr e xs) = s.hp := by
            apply List.ext_getElem?
            intro k
            rw [List.getElem?_set]
            split
            · rename_i e'; subst e'; rw [ehp]; simp [(List.getElem?_eq_some_iff.1 ehp).1]
            · rfl
          rw [hset] at hk'
          exact does_value hr hk' ⟨Φ, B, au, h.put o.dst .ref0 fun _ _ => trivial⟩
      · have hlt : cap' < len + ys.length := by omega
        subst hby
        have hrz := hzr
        -- the new array
        obtain ⟨N, hN, _⟩ : ∃ N, len + ys.length ≤ N ∧ True := ⟨_, Nat.le_refl _, trivial⟩
        have hu' : ∀ w', Grows w w' → (Builtin.firstCells i.size len (.slice ad len cap')).run P w' = .ok us.toArray w' := fun w' g => by
          have := u1 len w' (Nat.le_refl _) g
          rw [hvx, List.take_of_length_le (by omega)] at this
          rw [hsz]; exact this
        have hnew : ∀ N, len + ys.length ≤ N → Rel κ (({ s with hp := s.hp ++ [IObj.arr e ((xs.drop off).take len ++ ys ++ List.replicate (N - (len + ys.length)) zd)] } : St).put o.dst (.ref s.hp.length e 0 (len + ys.length) N)) (a.put o.dst (.slice (some ⟨w.heap.size, 0, none⟩) (len + ys.length) N)) { w.drew with heap := w.heap.push (.cells (us ++ vs ++ (Builtin.zeroCells zv.cells (N - (len + ys.length))).toList).toArray el (0, 0)) } := by
          intro N hN
          refine h.newArr (w1 := w.drew) (Grows.drew w _) ?_ (fun x hx => ?_) ?_ o.dst _ hN
          · rw [List.flatMap_append, List.flatMap_append]
            exact (u2.append g2).append (zeros_rep' hzr hzd hz0)
          · simp only [List.mem_append] at hx
            rcases hx with (hx | hx) | hx
            · exact u4 x hx
            · exact g4 x hx
            · rw [(List.mem_replicate.1 hx).2]; exact hzd
          · simp only [List.length_append, hlen, List.length_replicate]; omega
        have hz1 : (appTail el i.size ad len cap' (a.eval y) ys.length (pure vs.toArray) false).run P w = (appTail el i.size ad len cap' (a.eval y) ys.length (pure vs.toArray) false).run P w := rfl
        let N := grownCap w (len + ys.length) cap' el
        have hnN : len + ys.length ≤ N := by unfold N grownCap Question.cut; exact Nat.le_add_right _ _
        have hr := hrun (v := .slice (some ⟨w.heap.size, 0, none⟩) (len + ys.length) N) (w' := { w.drew with heap := w.heap.push (.cells (us ++ vs ++ (Builtin.zeroCells zv.cells (N - (len + ys.length))).toList).toArray el (0, 0)) }) (fun appended zs ha => run_appTail_out hlt hi hzv hb0 hbnd hu' ha)
        exact does_value hr (k2 hlt N hnN) (hnew N hnN)
    · exact hk.elim
  · exact hk.elim

/-- a phantom: an array without elements needs no memory -/
theorem Inv.phantom (h : Inv κ Φ B au s a w) (z : Nat) : Inv κ Φ (B ++ [0]) au { s with hp := s.hp ++ [IObj.arr z []] } a w := by
  have hB : ∀ (i b : Nat), B[i]? = some b → (B ++ [0])[i]? = some b := fun i b e => by
    rw [List.getElem?_append_left (List.getElem?_eq_some_iff.1 e).1]; exact e
  refine { h with pre := h.pre.trans (List.prefix_append _ _), tm := fun i V v hV hv => ⟨(h.tm i V v hV hv).1.mono (CM.le_refl _) hB, (h.tm i V v hV hv).2⟩, hl := by simp [h.hl], nb := ⟨h.nb.1, by have := h.nb.2; simp; omega⟩, hp := fun id o b ho hb => ?_ }
  by_cases hid : id < s.hp.length
  · rw [List.getElem?_append_left hid] at ho
    have hid' : id < B.length := by rw [← h.hl]; exact hid
    rw [List.getElem?_append_left hid'] at hb
    exact (h.hp id o b ho hb).mono (CM.le_refl _) hB (fun e => ⟨e, rfl⟩) (fun j b st e => ⟨e, rfl⟩)
  · have hid1 : id = s.hp.length := by
      have := (List.getElem?_eq_some_iff.1 ho).1; simp at this; omega
    subst hid1
    simp at ho
    subst ho
    exact fun hne => absurd rfl hne

theorem does_appendNew {c : Call} {x y : Operand} {t0 t1 : TypeId} (h : Inv κ Φ B au s a w) (ho : o.op = .call c) (ec : c.callee = .builtin .append) (ea : c.args = #[x, y]) (et : c.argTypes = #[t0, t1]) (hk : appendNewK P t0 t1 (ev P t0 s x) (ev P t1 s y) s o.dst K) : Does P κ o a w K := by
  have hx := ev_rep (P := P) h t0 x
  have hy := ev_rep (P := P) h t1 y
  generalize ev P t0 s x = X at hk hx
  generalize ev P t1 s y = Y at hk hy
  unfold appendNewK at hk
  split at hk
  · rename_i z z2 ys e by_ zd eel ely ezd
    obtain ⟨rfl, rfl, hz0, hb0, hzd, hbnd, k1⟩ := hk
    obtain ⟨el, i, zv, hut, hi, hzv, hsz, hby, hzs, hzr⟩ := zeroEl_inv (Φ := Φ) ezd ely hzd
    obtain ⟨vs, g2, g3, g4, hrunY⟩ := run_appElems (P := P) (B := B) (w := w) h eel ely ezd hzd hz0 hy hut hi hzv hsz hby
    obtain ⟨ad, hvx⟩ : ∃ ad, a.eval x = .slice ad 0 0 := by
      generalize a.eval x = v at hx
      cases hx; exact ⟨_, rfl⟩
    have hrun : ∀ {v : Value} {w' : World}, (∀ (appended : Sem (Array Value)) (zs : Bool), (∀ w', Grows w w' → appended.run P w' = .ok vs.toArray w') → (appTail el i.size ad 0 0 (a.eval y) ys.length appended zs).run P w = .ok v w') → (execOp a.eval o).run P w = .ok (.value v) w' := by
      intro v w' hyp
      refine run_builtin ho ec (f := Builtin.append_) (fun _ _ _ _ => rfl) ?_
      rw [ea, et]
      have e2 : (#[x, y] : Array Operand).map a.eval = #[.slice ad 0 0, a.eval y] := by simp [hvx]
      rw [e2]
      exact hrunY hyp
    by_cases hn : ys = []
    · subst hn
      have hv0 : vs = [] := by simpa using g3
      subst hv0
      have hr := hrun (fun appended zs ha => run_appTail_in (w' := w) (len := 0) (cap := 0) (by simp) (ha w (Grows.refl w)) (by cases ad <;> rfl))
      have hk' := k1 0 (Nat.le_refl _) (fun _ => rfl)
      simp only [Nat.add_zero, List.length_nil, List.nil_append, Nat.sub_zero, List.replicate_zero] at hk' hr
      exact does_value hr hk' ⟨Φ, _, au, (h.phantom e).put o.dst .ref0 fun _ _ => trivial⟩
    · have hpos : 0 < ys.length := List.length_pos_iff.2 hn
      have hlt : 0 < 0 + ys.length := by omega
      subst hby
      let N := grownCap w (0 + ys.length) 0 el
      have hnN : 0 + ys.length ≤ N := by unfold N grownCap Question.cut; exact Nat.le_add_right _ _
      have hr := hrun (v := .slice (some ⟨w.heap.size, 0, none⟩) (0 + ys.length) N) (w' := { w.drew with heap := w.heap.push (.cells ([] ++ vs ++ (Builtin.zeroCells zv.cells (N - (0 + ys.length))).toList).toArray el (0, 0)) }) (fun appended zs ha => run_appTail_out hlt hi hzv hb0 (by simpa using hbnd) (fun w' _ => by
        cases ad with
        | none => rfl
        | some ad => show (loadCells ad (0 * i.size)).run P w' = _; rw [Nat.zero_mul]; rfl) ha)
      simp only [Nat.zero_add, List.nil_append] at hr hnN
      have hk' := k1 N hnN (fun hh => absurd hh hn)
      refine does_value hr hk' ?_
      have := h.newArr (w1 := w.drew) (Grows.drew w _) (z := e) (xs := ys ++ List.replicate (N - ys.length) zd) (vs := vs ++ (Builtin.zeroCells zv.cells (N - ys.length)).toList) (el := el) (cap := N) (by
        rw [List.flatMap_append]; exact g2.append (zeros_rep' hzr hzd hz0)) (fun x hx => by
        rcases List.mem_append.1 hx with hx | hx
        · exact g4 x hx
        · rw [(List.mem_replicate.1 hx).2]; exact hzd) (by simp only [List.length_append, List.length_replicate]; omega) o.dst ys.length hnN
      have hNe : grownCap w (0 + ys.length) 0 el = N := rfl
      rw [Nat.zero_add] at hNe
      rw [show w.drew.heap = w.heap from rfl] at this
      simpa [hNe] using this
  · exact hk.elim

theorem does_copy {c : Call} {x y : Operand} {t0 t1 : TypeId} (h : Inv κ Φ B au s a w) (ho : o.op = .call c) (ec : c.callee = .builtin .copy) (ea : c.args = #[x, y]) (et : c.argTypes = #[t0, t1]) (hk : copyK P t0 t1 (ev P t0 s x) (ev P t1 s y) s o.dst K) : Does P κ o a w K := by
  have hx := ev_rep (P := P) h t0 x
  have hy := ev_rep (P := P) h t1 y
  generalize ev P t0 s x = X at hk hx
  generalize ev P t1 s y = Y at hk hy
  unfold copyK at hk
  split at hk
  · rename_i id z off len cap z2 ys e by_ eel ely
    split at hk
    · rename_i z' xs ehp
      obtain ⟨rfl, rfl, rfl, hz0, hlc, hoc, hxt, hk⟩ := hk
      obtain ⟨el, i, zv, hut, hi, hzv, hsz, hby, hzs⟩ := elI_inv ely
      obtain ⟨ad2, cap2, hvy, vs, g1, g2, g3, g4, g5⟩ := run_elems (P := P) h eel hz0 hy
      obtain ⟨ad, hvx⟩ : ∃ ad, a.eval x = .slice ad len cap := by
        generalize a.eval x = v at hx
        cases hx <;> exact ⟨_, rfl⟩
      have hmin : Nat.min ys.length len = (ys.take len).length := by
        rw [List.length_take]; exact Nat.min_comm _ _
      have hrun : ∀ {w' : World}, (match ad with | some a => storeCells a (vs.take ((ys.take len).length * e)) | none => pure () : Sem Unit).run P w = .ok () w' → (execOp a.eval o).run P w = .ok (.value (.int .i64 ((ys.take len).length : Nat))) w' := by
        intro w' hw'
        refine run_builtin ho ec (f := Builtin.copy_) (fun _ _ _ _ => rfl) ?_
        rw [ea, et]
        have e2 : (#[x, y] : Array Operand).map a.eval = #[.slice ad len cap, .slice ad2 ys.length cap2] := by simp [hvx, hvy]
        rw [e2]
        unfold Builtin.copy_
        simp only [List.getElem?_toArray, List.getElem?_cons_zero, List.getElem?_cons_succ]
        rw [Sem.run_bind, run_underlying hut]; simp only [Result.andThen_ok, Builtin.lenOf, pure_bind, hmin]
        rw [Sem.run_bind, run_sizeOf hi]; simp only [Result.andThen_ok, hsz]
        have := g1 (ys.take len).length w (by simp; omega) (Grows.refl w)
        rw [hvy] at this
        rw [Sem.run_bind, this]; simp only [Result.andThen_ok]
        cases ad with
        | none =>
          have hw2 : w = w' := by simpa [pure, Sem.run] using hw'
          subst hw2; rfl
        | some ad =>
          simp only at hw' ⊢
          rw [Sem.run_bind, hw']; rfl
      by_cases hpos : 0 < cap
      · have hne : xs ≠ [] := by rintro rfl; simp at hoc; omega
        obtain ⟨b, c1, el1, hb, h1, h2, h3, hz, hrep⟩ := h.arrFlat ehp hne hz0
        have had : ad = some ⟨b, off * e, none⟩ := by
          rw [hvx] at hx
          cases hx with
          | ref0 => omega
          | ref hb' hle hh => rw [hb] at hb'; injection hb' with hb'; subst hb'; exact hh hpos
        subst had
        have hkl : (ys.take len).length ≤ len := by simp; omega
        have hm := Nat.mul_le_mul_right e (show off + (ys.take len).length ≤ xs.length by omega)
        rw [Nat.add_mul] at hm
        have hvl : (vs.take ((ys.take len).length * e)).length = (ys.take len).length * e := by
          rw [List.length_take, g3]
          have := Nat.mul_le_mul_right e (show (ys.take len).length ≤ ys.length by simp; omega)
          omega
        have hrep' : RepL Φ ((ys.take len).flatMap D.flat) (vs.take ((ys.take len).length * e)) := by
          have : ys.take len = ys.take (ys.take len).length := by rw [List.length_take]; exact List.take_eq_take_min
          conv => lhs; arg 2; rw [this]
          rw [flat_take g4]; exact g2.take _
        obtain ⟨w', m1, m2⟩ := run_storeCells (P := P) (off := off * e) (vs.take ((ys.take len).length * e)) 0 w c1 h2 (by rw [h3, hvl]; omega) (repL_ok hrep')
        have hfin := h.writeArr (n := off) hb h1 h2 h3 hz hrep hrep' (fun x hx => g4 x (List.mem_of_mem_take hx)) (by omega) (by simpa using m2)
        exact does_value (hrun m1) hk ⟨Φ, B, au, hfin.put o.dst (.d (.int _ _)) fun _ _ => trivial⟩
      · have hc0 : cap = 0 := by omega
        have hl0 : len = 0 := by omega
        subst hc0; subst hl0
        simp only [List.take_zero, List.length_nil, List.append_nil, Nat.add_zero, List.take_append_drop] at hk hrun
        have hset : s.hp.set id (.arr e xs) = s.hp := by
          apply List.ext_getElem?
          intro k
          rw [List.getElem?_set]
          split
          · rename_i e'; subst e'; rw [ehp]; simp [(List.getElem?_eq_some_iff.1 ehp).1]
          · rfl
        rw [hset] at hk
        refine does_value (hrun (w' := w) (by cases ad <;> simp [storeCells, pure, Sem.run])) hk ⟨Φ, B, au, h.put o.dst (.d (.int _ _)) fun _ _ => trivial⟩
    · exact hk.elim
  · exact hk.elim

theorem does_clear {c : Call} {x : Operand} {t0 : TypeId} (h : Inv κ Φ B au s a w) (ho : o.op = .call c) (ec : c.callee = .builtin .clear) (ea : c.args = #[x]) (et : c.argTypes = #[t0]) (hk : clearK P t0 (ev P t0 s x) s o.dst K) : Does P κ o a w K := by
  have hx := ev_rep (P := P) h t0 x
  generalize ev P t0 s x = X at hk hx
  unfold clearK at hk
  split at hk
  · rename_i id z off len cap e by_ zd ely ezd
    split at hk
    · rename_i z' xs ehp
      obtain ⟨rfl, rfl, hz0, hzd, hlc, hoc, hk⟩ := hk
      obtain ⟨el, i, zv, hut, hi, hzv, hsz, hby, hzs, hzr⟩ := zeroEl_inv (Φ := Φ) ezd ely hzd
      obtain ⟨ad, hvx⟩ : ∃ ad, a.eval x = .slice ad len cap := by
        generalize a.eval x = v at hx
        cases hx <;> exact ⟨_, rfl⟩
      have hrun : ∀ {w' : World}, ((Builtin.clear_ #[t0] o.type #[.slice ad len cap]).run P w = .ok (.tuple #[]) w') → (execOp a.eval o).run P w = .ok (.value (.tuple #[])) w' := by
        intro w' hw'
        refine run_builtin ho ec (f := Builtin.clear_) (fun _ _ _ _ => rfl) ?_
        rw [ea, et]
        have e2 : (#[x] : Array Operand).map a.eval = #[.slice ad len cap] := by simp [hvx]
        rw [e2]; exact hw'
      have hrepz := zeros_rep' (n := len) hzr hzd hz0
      have hall : ∀ x ∈ List.replicate len zd, x.flat.length = e := fun x hx => by rw [(List.mem_replicate.1 hx).2]; exact hzd
      have hzlen : (Builtin.zeroCells zv.cells len).toList.length = len * e := by
        rw [← hrepz.get.1, flat_length hall]; simp
      by_cases hpos : 0 < len
      · have hne : xs ≠ [] := by rintro rfl; simp at hoc; omega
        obtain ⟨b, c1, el1, hb, h1, h2, h3, hz, hrep⟩ := h.arrFlat ehp hne hz0
        have had : ad = some ⟨b, off * e, none⟩ := by
          rw [hvx] at hx
          cases hx with
          | ref0 => omega
          | ref hb' hle hh => rw [hb] at hb'; injection hb' with hb'; subst hb'; exact hh (by omega)
        subst had
        have hm := Nat.mul_le_mul_right e (show off + len ≤ xs.length by omega)
        rw [Nat.add_mul] at hm
        obtain ⟨w', m1, m2⟩ := run_storeCells (P := P) (off := off * e) (Builtin.zeroCells zv.cells len).toList 0 w c1 h2 (by rw [h3, hzlen]; omega) (repL_ok hrepz)
        have hfin := h.writeArr (n := off) hb h1 h2 h3 hz hrep hrepz hall (by simp; omega) (by simpa using m2)
        simp only [List.length_replicate] at hfin
        refine does_value (hrun (w' := w') ?_) hk ⟨Φ, B, au, hfin.put o.dst (.un _) fun _ _ => trivial⟩
        unfold Builtin.clear_
        simp only [List.getElem?_toArray, List.getElem?_cons_zero]
        rw [Sem.run_bind, run_underlying hut]; simp only [Result.andThen_ok]
        obtain ⟨len, rfl⟩ : ∃ l, len = l + 1 := ⟨len - 1, by omega⟩
        simp only
        rw [Sem.run_bind, run_zeroValue hi hzv]; simp only [Result.andThen_ok]
        rw [Sem.run_bind, m1]; rfl
      · have hl0 : len = 0 := by omega
        subst hl0
        simp only [List.replicate_zero, List.append_nil, Nat.add_zero, List.take_append_drop] at hk
        have hset : s.hp.set id (.arr e xs) = s.hp := by
          apply List.ext_getElem?
          intro k
          rw [List.getElem?_set]
          split
          · rename_i e'; subst e'; rw [ehp]; simp [(List.getElem?_eq_some_iff.1 ehp).1]
          · rfl
        rw [hset] at hk
        refine does_value (hrun (w' := w) ?_) hk ⟨Φ, B, au, h.put o.dst (.un _) fun _ _ => trivial⟩
        unfold Builtin.clear_
        simp only [List.getElem?_toArray, List.getElem?_cons_zero]
        rw [Sem.run_bind, run_underlying hut]; simp only [Result.andThen_ok]
        cases ad <;> rfl
    · exact hk.elim
  · exact hk.elim

theorem does_cap {c : Call} {x : Operand} {t0 : TypeId} {n : Nat} (h : Inv κ Φ B au s a w) (ho : o.op = .call c) (ec : c.callee = .builtin .cap) (ea : c.args = #[x]) (et : c.argTypes = #[t0]) (hel : (elemTy P t0).isSome = true) (hx : ∃ ad l, a.eval x = .slice ad l n)
    (hk : K (s.put o.dst (.d (.int .i64 n)))) : Does P κ o a w K := by
  obtain ⟨ad, l, hx⟩ := hx
  obtain ⟨el, hut⟩ : ∃ el, P.underlying t0 = some (.slice el) := by
    unfold elemTy at hel
    split at hel
    · exact ⟨_, ‹_›⟩
    · cases hel
  refine does_plain h (run_builtin (v := .int .i64 n) ho ec (f := Builtin.cap_) (fun _ _ _ _ => rfl) ?_) (.d (.int _ _)) (fun _ => trivial) hk
  rw [ea, et]
  have e2 : (#[x] : Array Operand).map a.eval = #[.slice ad l n] := by simp [hx]
  rw [e2]
  unfold Builtin.cap_
  simp only [List.getElem?_toArray, List.getElem?_cons_zero]
  rw [Sem.run_bind, run_underlying hut]; rfl

theorem does_delete {c : Call} {x y : Operand} {t0 t1 : TypeId} (h : Inv κ Φ B au s a w) (ho : o.op = .call c) (ec : c.callee = .builtin .delete) (ea : c.args = #[x, y]) (et : c.argTypes = #[t0, t1]) (hk : deleteK P t0 (ev P t0 s x) (ev P t1 s y) s o.dst K) : Does P κ o a w K := by
  have hx := ev_rep (P := P) h t0 x
  have hy := ev_rep (P := P) h t1 y
  generalize ev P t0 s x = X at hk hx
  generalize ev P t1 s y = Y at hk hy
  unfold deleteK at hk
  split at hk
  · rename_i id k kt et' em
    split at hk
    · rename_i clock es ehp
      obtain ⟨hkey, hk⟩ := hk
      obtain ⟨b, ms, hb, h1, h2, h3, h4⟩ := h.mapAt ehp
      have hut := mapTy_inv em
      have hxv : a.eval x = .map (some b) := by
        generalize a.eval x = v at hx
        cases hx with | map q => rw [hb] at q; injection q with q; rw [q]
      have hkv : RepD Φ k (a.eval y) := by cases hy with | d q => exact q
      have run : ∀ {r' : Option (Nat × Value)} {w' : World}, (Instr.findKey kt (a.eval y) ms.toList).run P w = .ok r' w → ((match r' with
          | some (i, _) => setObj b (.map (ms.eraseIdxIfInBounds i) clock)
          | none => setObj b (.map ms clock)) : Sem Unit).run P w = .ok () w' → (execOp a.eval o).run P w = .ok (.value (.tuple #[])) w' := by
        intro r' w' e1 e2
        refine run_builtin ho ec (f := Builtin.delete_) (fun _ _ _ _ => rfl) ?_
        rw [ea, et]
        have e3 : (#[x, y] : Array Operand).map a.eval = #[.map (some b), a.eval y] := by simp [hxv]
        rw [e3]
        unfold Builtin.delete_
        simp only [List.getElem?_toArray, List.getElem?_cons_zero, List.getElem?_cons_succ]
        rw [Sem.run_bind, run_underlying hut]; simp only [Result.andThen_ok]
        rw [Sem.run_bind, run_getObj h2 rfl]; simp only [Result.andThen_ok]
        rw [Sem.run_bind, run_checkKey hkey hkv]; simp only [Result.andThen_ok]
        rw [Sem.run_bind, e1]; simp only [Result.andThen_ok]
        cases r' with
        | none => simp only at e2 ⊢; rw [Sem.run_bind, e2]; rfl
        | some p => simp only at e2 ⊢; rw [Sem.run_bind, e2]; rfl
      split at hk
      · rename_i i V ef
        obtain ⟨r', g1, g2⟩ := run_find (B := B) (w := w) hkey hkv (by rw [Array.length_toList]; exact h3) (fun i n k V hi => by simpa using h4 i n k V hi) ef
        cases r' with
        | none => exact g2.elim
        | some p =>
          obtain ⟨j, v⟩ := p
          obtain ⟨rfl, hV⟩ := g2
          obtain ⟨_, b0, k', hat, hkk⟩ := mfind_at ef
          simp only [Nat.sub_zero] at hat
          have hil : i < es.length := (List.getElem?_eq_some_iff.1 hat).1
          have hrun := run (r' := some (i, v)) (w' := { w with heap := w.heap.setIfInBounds b (.map (ms.eraseIdxIfInBounds i) clock) }) g1 (run_setMap h2)
          have her : (ms.eraseIdxIfInBounds i).toList = ms.toList.eraseIdx i := by
            rw [Array.eraseIdxIfInBounds, dif_pos (by omega)]; simp
          refine does_value hrun hk ⟨Φ, B, au, (h.setMap (es' := es.eraseIdx i) hb h1 h2 (by rw [← Array.length_toList, her, List.length_eraseIdx, List.length_eraseIdx, Array.length_toList, h3]) (fun j n k2 V2 hj => ?_)).put o.dst (.un _) fun _ _ => trivial⟩
          rw [List.getElem?_eraseIdx] at hj
          rw [← Array.getElem?_toList, her, List.getElem?_eraseIdx]
          split at hj
          · rename_i hlt; rw [if_pos hlt]
            obtain ⟨e2, q1, q2⟩ := h4 j n k2 V2 hj
            exact ⟨e2, by rw [Array.getElem?_toList]; exact q1, q2⟩
          · rename_i hlt; rw [if_neg hlt]
            obtain ⟨e2, q1, q2⟩ := h4 (j + 1) n k2 V2 hj
            exact ⟨e2, by rw [Array.getElem?_toList]; exact q1, q2⟩
      · rename_i ef
        obtain ⟨r', g1, g2⟩ := run_find (B := B) (w := w) hkey hkv (by rw [Array.length_toList]; exact h3) (fun i n k V hi => by simpa using h4 i n k V hi) ef
        cases r' with
        | some p => exact g2.elim
        | none =>
          have hsame : ({ w with heap := w.heap.setIfInBounds b (.map ms clock) } : World) = w := by
            have : w.heap.setIfInBounds b (.map ms clock) = w.heap := by
              apply Array.ext_getElem?
              intro k
              rw [Array.getElem?_setIfInBounds]
              split
              · rename_i e; subst e; rw [if_pos (lt_of_heap h2)]; exact h2.symm
              · rfl
            rw [this]
          have hrun := run (w' := { w with heap := w.heap.setIfInBounds b (.map ms clock) }) g1 (run_setMap h2)
          rw [hsame] at hrun
          exact does_value hrun hk ⟨Φ, B, au, h.put o.dst (.un _) fun _ _ => trivial⟩
      · exact hk.elim
    · exact hk.elim
  · exact hk.elim

theorem does_call {c : Call} {r : List Oper} (h : Inv κ Φ B au s a w) (ho : o.op = .call c) (hk : stepK P o r s K) : Does P κ o a w K := by
  simp only [stepK, ho] at hk
  unfold callK at hk
  split at hk
  · rename_i x y t0 t1 ec ea et
    split at hk
    · rename_i id z off len cap e
      exact does_appendRef h ho ec (toList_two ea) (toList_two et) (by rw [e]; exact hk)
    · exact does_call0 h ho hk
  · rename_i x y t0 t1 ec ea et
    exact does_copy h ho ec (toList_two ea) (toList_two et) hk
  · rename_i x t0 ec ea et
    exact does_clear h ho ec (toList_one ea) (toList_one et) hk
  · rename_i x t0 ec ea et
    have hx := ev_rep (P := P) h t0 x
    split at hk
    · rename_i id z off len cap e
      rw [e] at hx
      exact does_cap h ho ec (toList_one ea) (toList_one et) hk.1 (by generalize a.eval x = v at hx; cases hx <;> exact ⟨_, _, rfl⟩) hk.2
    · rename_i z e
      rw [e] at hx
      exact does_cap (n := 0) h ho ec (toList_one ea) (toList_one et) hk.1 (by generalize a.eval x = v at hx; cases hx <;> exact ⟨_, _, rfl⟩) hk.2
    · exact hk.elim
  · rename_i x y t0 t1 ec ea et
    exact does_delete h ho ec (toList_two ea) (toList_two et) hk
  · exact does_call0 h ho hk

end
end Go.Idl
end
section
namespace Go.Idl

section
variable {P : Program} {κ : Ctx} {s : St} {a : Act} {w : World} {K : St → Prop} {o : Oper}

/-- One operation. -/
theorem step_sound {r : List Oper} (h : Rel κ s a w) (hk : stepK P o r s K) : Does P κ o a w K := by
  obtain ⟨Φ, B, au, h⟩ := h
  cases ho : o.op with
  | move x => simp only [stepK, ho] at hk; exact does_move h (.inl ho) hk
  | «assign» x => simp only [stepK, ho] at hk; exact does_move h (.inr ho) hk
  | pick c x y => exact does_pick h ho hk
  | alloc t => exact does_alloc h ho hk
  | box t x => exact does_box h ho hk
  | build t ps => exact does_build h ho hk
  | buildSlice t n ps => exact does_buildSlice h ho hk
  | makeSlice t l c => exact does_makeSlice h ho hk
  | load t x => exact does_load h ho hk
  | store t x y => exact does_store h ho hk
  | binOp op t x y t' => exact does_binOp h ho hk
  | unOp op t x => exact does_unOp h ho hk
  | convert a b x => exact does_convert h ho hk
  | makeFunc f x y => exact does_makeFunc h ho hk
  | slice t x lo hi mx => exact does_slice h ho hk
  | fieldAddr t x f => exact does_fieldAddr h ho hk
  | field t x f => exact does_field h ho hk
  | indexAddr t x i => exact does_indexAddr h ho hk
  | index t x i => exact does_index h ho hk
  | extract x i => exact does_extract h ho hk
  | call c => exact does_call h ho hk
  | makeMap t r => cases r with
    | none => exact does_makeMap h ho hk
    | some r => simp [stepK, ho] at hk
  | lookup t x y ok => exact does_lookup h ho hk
  | mapUpdate t x y z => exact does_mapUpdate h ho hk
  | range t x => exact does_range h ho hk
  | next x b => cases b with
    | false => exact does_next h ho hk
    | true => simp [stepK, ho] at hk
  | _ => simp [stepK, ho] at hk

theorem Ctx.F_fn (κ : Ctx) (f : FuncId) : κ.F.fn f := trivial
theorem Ctx.F_depth (κ : Ctx) : κ.F.depth = none := rfl

theorem stepK_nodefer {r : List Oper} {c : Call} (hk : stepK P o r s K) : o.op ≠ .defer c := by
  intro e; simp [stepK, e] at hk

/-- What an operation does, in the walk's words. -/
theorem Does.wpIn {Q : Exit → Act → World → Prop} {next : Act → World → Prop} (hd : Does P κ o a w K) (hnd : ∀ c, o.op ≠ .defer c) (hn : ∀ s' a' w', K s' → Rel κ s' a' w' → next a' w') : o.wpIn κ.F 0 P a w next Q := by
  obtain ⟨nx, w', h1, h2⟩ := hd
  refine ⟨fun _ _ => trivial, ?_⟩
  rw [Oper.semAt_eq _ _ _ hnd, h1]
  cases nx <;> simp only at h2
  · obtain ⟨s', k1, k2⟩ := h2; exact hn _ _ _ k1 k2
  · obtain ⟨s', k1, k2⟩ := h2; exact hn _ _ _ k1 k2
  · refine ⟨fun hh => by simp [Ctx.F_depth] at hh, ?_⟩
    refine CallsIn.mono (F := κ.F) h2 fun e w'' => ?_
    rintro ⟨v, s', rfl, k1, k2⟩
    exact hn _ _ _ k1 k2
  · refine ⟨fun hh => by simp [Ctx.F_depth] at hh, ?_⟩
    refine RoundIn.mono (F := κ.F) h2 fun e w'' => ?_
    rintro ⟨v, s', rfl, k1, k2⟩
    exact hn _ _ _ k1 k2
  all_goals exact h2.elim

theorem Rel.un (h : Rel κ s a w) (dst : Option Nat) : Rel κ (s.put dst .un) (a.put dst undef) w := by
  obtain ⟨Φ, B, au, h⟩ := h
  exact ⟨Φ, B, au, h.put dst (.un _) fun _ _ => trivial⟩

theorem Rel.skip (h : Rel κ s a w) (dst : Option Nat) : Rel κ (s.put dst (.tup [])) (a.put dst undef) w := by
  obtain ⟨Φ, B, au, h⟩ := h
  exact ⟨Φ, B, au, h.put dst (.tup (cs := []) .nil) fun _ _ => fun j z xs cs c _ hd => by simp at hd⟩

theorem guard_skip {ops : Array Oper} {j t : Nat} (h : Rel κ s a w) (et : (ops.toList[j]?).bind (·.dst) = some t) (eb : s.tm[t]? = some (.tup [])) : yielded ops a.tmps j = none := by
  obtain ⟨Φ, B, au, hi⟩ := h
  have hlt : t < s.tm.length := (List.getElem?_eq_some_iff.1 eb).1
  have hat : t < a.tmps.size := by rw [← hi.tl]; exact hlt
  have hv : a.tmps[t]? = some (.tuple #[]) := by
    have := (hi.tm t _ _ eb (Array.getElem?_eq_getElem hat)).1
    rw [Array.getElem?_eq_getElem hat]
    generalize a.tmps[t] = v at this
    cases this with | tup q => cases q; rfl
  unfold yielded
  rw [Array.getElem?_toList] at et
  simp only [et, Option.bind_some, hv]

/-- A region in the order of its text. -/
theorem ops_sound {ops : Array Oper} {Q : Exit → Act → World → Prop} : ∀ (rest : List Oper) (i : Nat), (∀ j, rest[j]? = ops[i + j]?) → ∀ {s : St} {a : Act} {w : World}, Rel κ s a w → opsK P ops.toList rest s K →
    (∀ s' a' w', K s' → Rel κ s' a' w' → Q .normal a' w') → wpOpsIn κ.F 0 P ops Q (List.range' i rest.length) a w
  | [], i, _, s, a, w, h, hk, hq => hq _ _ _ hk h
  | o :: rest, i, he, s, a, w, h, hk, hq => by
    have h0 : ops[i]? = some o := by simpa using (he 0).symm
    have he' : ∀ j, rest[j]? = ops[i + 1 + j]? := fun j => by have := he (j + 1); simpa [Nat.add_assoc, Nat.add_comm 1 j] using this
    simp only [List.length_cons, List.range'_succ, wpOpsIn, h0]
    simp only [opsK] at hk
    split at hk
    · rename_i hg
      rw [if_pos (by simp [Region.wanted, hg])]
      exact (step_sound h hk).wpIn (fun c => stepK_nodefer hk) fun s' a' w' k1 k2 => ops_sound rest (i + 1) he' k2 k1 hq
    · rename_i j want hg
      split at hk
      · rename_i t et
        split at hk
        · rename_i b eb
          obtain ⟨k1, k2⟩ := hk
          obtain ⟨Φ, B, au, hi⟩ := h
          have hlt : t < s.tm.length := (List.getElem?_eq_some_iff.1 eb).1
          have hat : t < a.tmps.size := by rw [← hi.tl]; exact hlt
          have hv : a.tmps[t]? = some (.bool b) := by
            have := (hi.tm t _ _ eb (Array.getElem?_eq_getElem hat)).1
            cases this with | d q => rw [Array.getElem?_eq_getElem hat, repD_bool q]
          have hy : yielded ops a.tmps j = some b := by
            unfold yielded
            rw [Array.getElem?_toList] at et
            simp only [et, Option.bind_some, hv]
          have hset : ∀ b', b = b' → Rel κ { s with tm := s.tm.set t (.d (.bool b')) } a w := by
            rintro b' rfl
            refine ⟨Φ, B, au, hi.islot t fun V' v hV hv' => ?_⟩
            rw [hv] at hv'; injection hv' with hv'; subst hv'
            exact ⟨.d (.bool _), trivial⟩
          by_cases e : b = want
          · rw [if_pos (by simp [Region.wanted, hg, hy, e])]
            have hk1 := k1 e
            exact (step_sound (hset want e) hk1).wpIn (fun c => stepK_nodefer hk1) fun s' a' w' k1 k2 => ops_sound rest (i + 1) he' k2 k1 hq
          · rw [if_neg (by simp [Region.wanted, hg, hy, e])]
            have e' : b = !want := by cases b <;> cases want <;> simp_all
            exact ⟨fun _ _ => trivial, ops_sound rest (i + 1) he' ((hset (!want) e').skip o.dst) (k2 e') hq⟩
        · rename_i eb
          rw [if_neg (by simp [Region.wanted, hg, guard_skip h et eb])]
          exact ⟨fun _ _ => trivial, ops_sound rest (i + 1) he' (h.skip o.dst) hk hq⟩
        · exact hk.elim
      · exact hk.elim

theorem region_sound {id : Nat} {ops : Array Oper} {Q : Ex → St → Prop} (h : Rel κ s a w) (hk : opsK P ops.toList ops.toList s (Q .normal)) : (Code.region id ops false).wpIn κ.F 0 P (postK κ Q) a w := by
  refine wpIn_region ?_
  have := ops_sound (Q := postK κ Q) ops.toList 0 (by simp) h hk fun s' a' w' k1 k2 => ⟨.normal, s', rfl, k1, k2⟩
  rw [List.range_eq_range', ← Array.length_toList]
  exact this

theorem postK_mono {Q Q' : Ex → St → Prop} {e : Exit} (hq : ∀ e s, Q e s → Q' e s) (h : postK κ Q e a w) : postK κ Q' e a w := by
  obtain ⟨e', s', rfl, h1, h2⟩ := h; exact ⟨e', s', rfl, hq _ _ h1, h2⟩

theorem SemC.mono {c : Code} {Q Q' : Ex → St → Prop} (h : SemC P c Q s) (hq : ∀ e s, Q e s → Q' e s) : SemC P c Q' s :=
  fun κ a w hr => wpIn_mono (h κ a w hr) fun _ _ _ => postK_mono hq

theorem seq_sem {c d : Code} {Q : Ex → St → Prop} (h : SemC P c (thenK (fun s' => SemC P d Q s') Q) s) : SemC P (.seq c d) Q s := by
  intro κ a w hr
  refine wpIn_seq (wpIn_mono (h κ a w hr) ?_)
  rintro e a' w' ⟨e', s', rfl, h1, h2⟩
  cases e' with
  | normal => exact h1 κ a' w' h2
  | exit id => exact ⟨.exit id, s', rfl, h1, h2⟩
  | goto l => exact ⟨.goto l, s', rfl, h1, h2⟩
  | ret => exact ⟨.ret, s', rfl, h1, h2⟩

theorem block_sem {id : Nat} {c : Code} {Q : Ex → St → Prop} (h : SemC P c (inBlockK id Q) s) : SemC P (.block id c) Q s := by
  intro κ a w hr
  refine wpIn_block (wpIn_mono (h κ a w hr) ?_)
  rintro e a' w' ⟨e', s', rfl, h1, h2⟩
  cases e' with
  | normal => exact ⟨.normal, s', rfl, h1, h2⟩
  | exit i =>
    simp only [Ex.to, Exit.inBlock]
    simp only [inBlockK] at h1
    split at h1
    · rename_i e; rw [if_pos e]; exact ⟨.normal, s', rfl, h1, h2⟩
    · rename_i e; rw [if_neg e]; exact ⟨.exit i, s', rfl, h1, h2⟩
  | goto l => exact ⟨.goto l, s', rfl, h1, h2⟩
  | ret => exact ⟨.ret, s', rfl, h1, h2⟩

/-- **What the conditions promise, the code does.** -/
theorem wp_sound : ∀ (c : Code) (Q : Ex → St → Prop) (s : St), wpK P c Q s → SemC P c Q s := by
  intro c
  induction c with
  | skip => intro Q s h κ a w hr; exact wpIn_skip ⟨.normal, s, rfl, h, hr⟩
  | label l => intro Q s h κ a w hr; exact wpIn_label ⟨.normal, s, rfl, h, hr⟩
  | ret => intro Q s h κ a w hr; exact wpIn_ret ⟨.ret, s, rfl, h, hr⟩
  | exit id => intro Q s h κ a w hr; exact wpIn_exit ⟨.exit id, s, rfl, h, hr⟩
  | goto l => intro Q s h κ a w hr; exact wpIn_goto ⟨.goto l, s, rfl, h, hr⟩
  | seq c d ihc ihd =>
    intro Q s h
    refine seq_sem (SemC.mono (ihc _ s h) ?_)
    intro e s' he
    cases e with
    | normal => exact ihd Q s' he
    | _ => exact he
  | region id ops draw =>
    intro Q s h
    cases draw with
    | false => intro κ a w hr; exact region_sound hr h
    | true => exact h
  | cond c x y ihx ihy =>
    intro Q s h κ a w hr
    simp only [wpK] at h
    split at h
    · rename_i t e
      have hb : a.eval c = .bool t := by
        obtain ⟨Φ, B, au, hi⟩ := hr
        exact repD_bool (ev_d hi e)
      exact wpIn_cond_split hb (fun ht => ihx Q s (h.1 ht) κ a w hr) (fun ht => ihy Q s (h.2 ht) κ a w hr)
    · exact h.elim
  | block id c ih => intro Q s h; exact block_sem (ih _ s h)
  | loop c ih => intro Q s h; exact h
  | rangeFunc f ps asg c _ _ => intro Q s h; exact h
  | scope c ih => intro Q s h; exact h
  | refuse why => intro Q s h; exact h

/-- One ideal state says less than another. -/
def St.le (s s' : St) : Prop := ∀ κ a w, Rel κ s a w → Rel κ s' a w

theorem SemC.weaken {c : Code} {Q : Ex → St → Prop} {s' : St} (h : SemC P c Q s') (hle : s.le s') : SemC P c Q s := fun κ a w hr => h κ a w (hle κ a w hr)

end

theorem exists_least {p : Nat → Prop} (h : ∃ k, p k) : ∃ k, p k ∧ ∀ j, p j → k ≤ j := by
  obtain ⟨k, hk⟩ := h
  induction k using Nat.strongRecOn with
  | _ k ih =>
    by_cases hs : ∃ j, j < k ∧ p j
    · obtain ⟨j, hj, hp⟩ := hs; exact ih j hj hp
    · refine ⟨k, hk, fun j hp => ?_⟩
      exact Nat.le_of_not_lt fun hj => hs ⟨j, hj, hp⟩

open Classical in
noncomputable def least (p : Nat → Prop) : Nat := if h : ∃ k, p k then Classical.choose (exists_least h) else 0

theorem least_spec {p : Nat → Prop} (h : ∃ k, p k) : p (least p) ∧ ∀ j, p j → least p ≤ j := by
  unfold least; rw [dif_pos h]; exact Classical.choose_spec (exists_least h)

section
variable {P : Program} {κ : Ctx} {s : St} {a : Act} {w : World} {K : St → Prop} {o : Oper}

/-- **A loop**: a family of states, each with a number that goes down; what a round leaves may say more than the next one's head asks. -/
theorem loop_sem {c : Code} {Q : Ex → St → Prop} (I : Nat → St → Prop) (n : Nat) (s0 : St) (h0 : I n s0) (hle : s.le s0)
    (round : ∀ k s, I k s → SemC P c (thenK (fun s' => ∃ j s'', j < k ∧ I j s'' ∧ s'.le s'') Q) s) : SemC P (.loop c) Q s := by
  intro κ a w hr
  refine wpIn_loop (fun a w => ∃ k s, I k s ∧ Rel κ s a w) (fun a w => least fun k => ∃ s, I k s ∧ Rel κ s a w) ⟨n, s0, h0, hle κ a w hr⟩ ?_
  intro a w hI
  obtain ⟨⟨s1, hI1, hr1⟩, hmin⟩ := least_spec hI
  generalize hk : (least fun k => ∃ s, I k s ∧ Rel κ s a w) = k at hI1 hmin
  refine wpIn_mono (round k s1 hI1 κ a w hr1) ?_
  rintro e a' w' ⟨e', s', rfl, h1, h2⟩
  cases e' with
  | normal =>
    obtain ⟨j, s'', hj, hI', hle'⟩ := h1
    have hex : ∃ k, ∃ s, I k s ∧ Rel κ s a' w' := ⟨j, s'', hI', hle' κ a' w' h2⟩
    exact ⟨hex, Nat.lt_of_le_of_lt ((least_spec hex).2 j ⟨s'', hI', hle' κ a' w' h2⟩) hj⟩
  | exit id => exact ⟨.exit id, s', rfl, h1, h2⟩
  | goto l => exact ⟨.goto l, s', rfl, h1, h2⟩
  | ret => exact ⟨.ret, s', rfl, h1, h2⟩

/-! ### Saying less -/
theorem St.le_refl (s : St) : s.le s := fun _ _ _ h => h
theorem St.le_trans {s t u : St} (h : s.le t) (h' : t.le u) : s.le u := fun κ a w hr => h' κ a w (h κ a w hr)

/-- a slice without room is many things -/
inductive NilLe : V → V → Prop
  | own {z} : NilLe (.nil z) (.own z [])
  | d {z l} : NilLe (.nil z) (.d (.sl l z []))
  | ref {z id off} : NilLe (.nil z) (.ref id z off 0 0)

theorem NilLe.rep {v u : V} (h : NilLe v u) {Φ : CM} {B : List Nat} {au : Auth} {w : World} {hd : Nat → Holder} {x : Value} (hr : RepS Φ B v x) : RepS Φ B u x ∧ OwnV au w hd u x := by
  cases h with
  | own => cases hr with | nil => exact ⟨.own .sl0, _, _, _, rfl, .inl rfl⟩
  | d => cases hr with | nil => exact ⟨.d .sl0, trivial⟩
  | ref => cases hr with | nil => exact ⟨.ref0, trivial⟩

/-- pointwise: the same, or unknown; or what it owns forgotten -/
inductive LeTm : List V → List V → Prop
  | nil : LeTm [] []
  | same {v vs us} : LeTm vs us → LeTm (v :: vs) (v :: us)
  | un {v vs us} : LeTm vs us → LeTm (v :: vs) (.un :: us)
  | cp {v vs us} : LeTm vs us → LeTm (v :: vs) (v.cp :: us)
  | to {v u vs us} : NilLe v u → LeTm vs us → LeTm (v :: vs) (u :: us)

theorem LeTm.refl : ∀ vs, LeTm vs vs
  | [] => .nil
  | _ :: vs => .same (LeTm.refl vs)

theorem LeTm.get {vs us : List V} (h : LeTm vs us) : vs.length = us.length ∧ ∀ (i : Nat) u, us[i]? = some u → ∃ v, vs[i]? = some v ∧ (u = v ∨ u = .un ∨ u = v.cp ∨ NilLe v u) := by
  induction h with
  | nil => simp
  | to hn _ ih =>
    refine ⟨by simp [ih.1], fun i u hu => ?_⟩
    cases i with
    | zero => simp at hu; subst hu; exact ⟨_, rfl, .inr (.inr (.inr hn))⟩
    | succ i => simpa using ih.2 i u (by simpa using hu)
  | same _ ih | un _ ih | cp _ ih =>
    refine ⟨by simp [ih.1], fun i u hu => ?_⟩
    cases i with
    | zero => simp at hu; subst hu; exact ⟨_, rfl, by simp⟩
    | succ i => simpa using ih.2 i u (by simpa using hu)

theorem St.le_tm {s : St} {tm : List V} (h : LeTm s.tm tm) : s.le { s with tm := tm } := by
  rintro κ a w ⟨Φ, B, au, hi⟩
  obtain ⟨h1, h2⟩ := h.get
  refine ⟨Φ, B, au, { hi with tl := by rw [← hi.tl]; exact h1.symm, tm := fun i V v hV hv => ?_ }⟩
  obtain ⟨V', e1, e2⟩ := h2 i V hV
  obtain ⟨g1, g2⟩ := hi.tm i V' v e1 hv
  rcases e2 with rfl | rfl | rfl | e2
  · exact ⟨g1, g2⟩
  · exact ⟨.un _, trivial⟩
  · exact ⟨g1.cp, OwnV_cp⟩
  · exact e2.rep g1

end
end Go.Idl
end
section
namespace Go.Idl

mutual
/-- does a value name objects below m alone? -/
def V.lt (m : Nat) : V → Bool
  | .ptr id _ | .aptr id _ _ _ | .ref id _ _ _ _ | .yld id | .map id => decide (id < m)
  | .fn _ caps => V.ltL m caps
  | .tup vs => V.ltL m vs
  | .st vs => V.ltL m vs
  | _ => true
def V.ltL (m : Nat) : List V → Bool
  | [] => true
  | v :: vs => V.lt m v && V.ltL m vs
end

def IObj.lt (m : Nat) : IObj → Bool
  | .var cs => V.ltL m cs
  | .loop _ _ tm _ _ _ => V.ltL m tm
  | .map _ es => V.ltL m (es.map (·.2.2))
  | .iter id _ _ _ => decide (id < m)
  | _ => true

def ltObjs (m : Nat) : List IObj → Bool
  | [] => true
  | o :: os => o.lt m && ltObjs m os

mutual
theorem RepS.lt {Φ : CM} {B : List Nat} {m : Nat} : ∀ {V : V} {v : Value}, RepS Φ B V v → V.lt m = true → RepS Φ (B.take m) V v
  | _, _, .un v, _ => .un v
  | _, _, .d x, _ => .d x
  | _, _, .nil, _ => .nil
  | _, _, .st e ok q, h => .st (RepSL.lt e (by simpa [V.lt] using h)) ok q
  | _, _, .own x, _ => .own x
  | _, _, .ptr e, h => .ptr (by rw [List.getElem?_take, if_pos (by simpa [V.lt] using h)]; exact e)
  | _, _, .aptr e, h => .aptr (by rw [List.getElem?_take, if_pos (by simpa [V.lt] using h)]; exact e)
  | _, _, .lptr e, _ => .lptr e
  | _, _, .ref e l q, h => .ref (by rw [List.getElem?_take, if_pos (by simpa [V.lt] using h)]; exact e) l q
  | _, _, .ref0, _ => .ref0
  | _, _, .fn e, h => .fn (RepSL.lt e (by simpa [V.lt] using h))
  | _, _, .yld e, h => .yld (by rw [List.getElem?_take, if_pos (by simpa [V.lt] using h)]; exact e)
  | _, _, .tup e, h => .tup (RepSL.lt e (by simpa [V.lt] using h))
  | _, _, .map e, h => .map (by rw [List.getElem?_take, if_pos (by simpa [V.lt] using h)]; exact e)
theorem RepSL.lt {Φ : CM} {B : List Nat} {m : Nat} : ∀ {V : List V} {v : List Value}, RepSL Φ B V v → Idl.V.ltL m V = true → RepSL Φ (B.take m) V v
  | _, _, .nil, _ => .nil
  | _, _, .cons a b, h => by
    simp only [V.ltL, Bool.and_eq_true] at h
    exact .cons (RepS.lt a h.1) (RepSL.lt b h.2)
end

theorem ltL_get {m : Nat} : ∀ {vs : List V}, V.ltL m vs = true → ∀ (i : Nat) v, vs[i]? = some v → v.lt m = true
  | [], _, i, v, h => by simp at h
  | u :: vs, h, i, v, hv => by
    simp only [V.ltL, Bool.and_eq_true] at h
    cases i with
    | zero => simp at hv; subst hv; exact h.1
    | succ i => exact ltL_get h.2 i v (by simpa using hv)

theorem ltObjs_get {m : Nat} : ∀ {os : List IObj}, ltObjs m os = true → ∀ (i : Nat) o, os[i]? = some o → o.lt m = true
  | [], _, i, v, h => by simp at h
  | u :: os, h, i, v, hv => by
    simp only [ltObjs, Bool.and_eq_true] at h
    cases i with
    | zero => simp at hv; subst hv; exact h.1
    | succ i => exact ltObjs_get h.2 i v (by simpa using hv)

theorem RepO.lt {Φ : CM} {B : List Nat} {au : Auth} {w : World} {id b m : Nat} {o : IObj} (h : RepO Φ B au w id b o) (hl : o.lt m = true) : RepO Φ (B.take m) au w id b o := by
  cases o with
  | free => trivial
  | var cs =>
    obtain ⟨h1, c, el, h2, h3, h4⟩ := h
    refine ⟨h1, c, el, h2, h3, fun j V hj => ?_⟩
    obtain ⟨v, g1, g2, g3, g4⟩ := h4 j V hj
    exact ⟨v, g1, g2, g3.lt (ltL_get (by simpa [IObj.lt] using hl) j V hj), g4⟩
  | arr z xs => exact h
  | map clock es =>
    obtain ⟨h1, ms, h2, h3, h4⟩ := h
    refine ⟨h1, ms, h2, h3, fun i n k V hi => ?_⟩
    obtain ⟨e, g1, g2, g3, g4⟩ := h4 i n k V hi
    exact ⟨e, g1, g2, g3, g4.lt (ltL_get (vs := es.map (·.2.2)) (by simpa [IObj.lt] using hl) i V (by rw [List.getElem?_map, hi]; rfl))⟩
  | iter id _ _ _ =>
    obtain ⟨h1, bm, h2, h3⟩ := h
    exact ⟨h1, bm, by rw [List.getElem?_take, if_pos (by simpa [IObj.lt] using hl)]; exact h2, h3⟩
  | loop _ _ _ _ _ _ =>
    obtain ⟨h1, fn, tmps, dr, h2, h3, h4⟩ := h
    exact ⟨h1, fn, tmps, dr, h2, h3.lt (by simpa [IObj.lt] using hl), h4⟩

section
variable {P : Program} {κ : Ctx} {Φ : CM} {B : List Nat} {au : Auth} {s : St} {a : Act} {w : World} {K : St → Prop} {o : Oper}

/-- **Objects are forgotten**: those from the m-th on, with all that names them. -/
theorem St.le_cut (m : Nat) {tm : List V} (h : LeTm s.tm tm) (ht : V.ltL m tm = true) (hh : ltObjs m (s.hp.take m) = true) (hm : s.nb ≤ m) (hm' : m ≤ s.hp.length) : s.le { tm := tm, hp := s.hp.take m, nb := s.nb } := by
  intro κ a w hr
  obtain ⟨Φ, B, au, hi⟩ := St.le_tm h κ a w hr
  refine ⟨Φ, B.take m, au, { hi with pre := ?_, tm := fun i V v hV hv => ?_, hl := ?_, nb := ⟨hi.nb.1, by simp; omega⟩, hp := fun id o b ho hb => ?_ }⟩
  · obtain ⟨t, e⟩ := hi.pre
    have hle : κ.B.length ≤ m := Nat.le_trans hi.nb.1 hm
    refine ⟨t.take (m - κ.B.length), ?_⟩
    rw [← e, List.take_append, List.take_of_length_le hle]
  · obtain ⟨g1, g2⟩ := hi.tm i V v hV hv
    exact ⟨g1.lt (ltL_get ht i V hV), g2⟩
  · have := hi.hl; simp at this ⊢; omega
  · have ho' : s.hp[id]? = some o := by
      rw [List.getElem?_take] at ho; split at ho
      · exact ho
      · cases ho
    have hb' : B[id]? = some b := by
      rw [List.getElem?_take] at hb; split at hb
      · exact hb
      · cases hb
    exact (hi.hp id o b ho' hb').lt (ltObjs_get hh id o ho)

/-! ### Results -/
def resV (P : Program) (s : St) : ResultVar → Option V
  | .tmp t => if (s.tm.getD t .un).isTup then none else some (s.tm.getD t .un)
  | .cell a t => match s.tm.getD a .un with
    | .ptr id off => match s.hp[id]? with
      | some (.var cs) => match kindD P t with
        | some true => match allD ((cs.drop off).take (sizeD P t)) with
          | some ds => if ds.length = sizeD P t then some (.d (.agg ds)) else none
          | none => none
        | some false => match cs[off]? with
          | some v => if v.isTup then none else some v.cp
          | none => none
        | none => none
      | _ => none
    | _ => none

def resVs (P : Program) (s : St) : List ResultVar → Option (List V)
  | [] => some []
  | r :: rs => match resV P s r, resVs P s rs with
    | some v, some vs => some (v :: vs)
    | _, _ => none

def retV (P : Program) (fn : Func) (s : St) : Option V := match resVs P s fn.results.toList with
  | some [v] => some v
  | some vs => some (.tup vs)
  | none => none

/-- what is asked at a function's end -/
def retK (P : Program) (fn : Func) (K : V → List IObj → Prop) (e : Ex) (s : St) : Prop :=
  match e with
  | .normal | .ret => match retV P fn s with
    | some v => K v s.hp
    | none => False
  | _ => False

theorem run_resV (h : Inv κ Φ B au s a w) {r : ResultVar} {V : V} (e : resV P s r = some V) :
    ∃ v, (match r with | .tmp t => pure (a.tmps.getD t undef) | .cell x t => do loadVar t (← asAddr (a.tmps.getD x undef)) : Sem Value).run P w = .ok v w ∧ RepS Φ B V v ∧ V.isTup = false ∧
      ((∃ t, r = .tmp t ∧ OwnV au w (.slot t) V v) ∨ V.cp = V) := by
  cases r with
  | tmp t =>
    simp only [resV] at e
    split at e
    · cases e
    · rename_i hn
      injection e with e; subst e
      obtain ⟨g1, g2⟩ := tm_get h t
      exact ⟨_, rfl, g1, by simpa using hn, .inl ⟨t, rfl, g2⟩⟩
  | cell x t =>
    simp only [resV] at e
    split at e
    · rename_i id off ex
      split at e
      · rename_i cs ecs
        have hr := (tm_get h x).1
        rw [ex] at hr
        obtain ⟨b, c, el, hb, h1, h2, h3, h4⟩ := h.varAt ecs
        have hp := hr.ptr_inv hb
        split at e
        · rename_i hk
          split at e
          · rename_i ds ed
            split at e
            · rename_i hl
              injection e with e; subst e
              obtain ⟨q1, q2⟩ := allD_get ed
              obtain ⟨v, g1, g2⟩ := load_agg (P := P) (Φ := Φ) (w := w) (ds := ds) (off := off) hk h2 hl (fun j d hj => by
                obtain ⟨V, k1, k2⟩ := q2 j d hj
                rw [List.getElem?_take] at k1
                split at k1
                · rw [List.getElem?_drop] at k1
                  obtain ⟨v, m1, m2, m3, _⟩ := h4 _ V k1
                  exact ⟨v, m1, m2 (V.d?_known k2), rep_d? m3 k2⟩
                · cases k1)
              refine ⟨v, ?_, .d g2, rfl, .inr rfl⟩
              simp only [hp, asAddr, pure_bind]; exact g1
            · cases e
          · cases e
        · rename_i hk
          split at e
          · rename_i v0 ev0
            split at e
            · cases e
            · rename_i hn
              injection e with e; subst e
              obtain ⟨v, m1, m2, m3, m4⟩ := h4 off v0 ev0
              refine ⟨v, ?_, m3.cp, ?_, .inr (Idl.V.cp_cp _)⟩
              · simp only [hp, asAddr, pure_bind]
                exact load_scalar hk (by rw [cell_of h2]; exact m1)
              · cases v0 <;> simp_all [Idl.V.cp, Idl.V.isTup]
          · cases e
        · cases e
      · cases e
    · cases e

/-- which result, if any, is this slot? -/
def slotAt (t : Nat) : List ResultVar → Nat → Option Nat
  | [], _ => none
  | .tmp u :: rs, j => if u = t then some j else slotAt t rs (j + 1)
  | _ :: rs, j => slotAt t rs (j + 1)

/-- The owners of what a function hands back. -/
def resAu (au : Auth) (rs : List ResultVar) : Auth := fun b => match au b with
  | some (.slot t _, st) => match slotAt t rs 0 with
    | some j => some (.slot 0 j, st)
    | none => none
  | x => x

theorem slotAt_ge {t : Nat} : ∀ {rs : List ResultVar} {j k : Nat}, slotAt t rs j = some k → j ≤ k ∧ ∃ i, k = j + i ∧ rs[i]? = some (.tmp t)
  | [], _, _, h => by simp [slotAt] at h
  | .tmp u :: rs, j, k, h => by
    simp only [slotAt] at h
    split at h
    · rename_i e; injection h with h; subst h; exact ⟨Nat.le_refl _, 0, rfl, by simp [e]⟩
    · obtain ⟨h1, i, h2, h3⟩ := slotAt_ge h; exact ⟨by omega, i + 1, by omega, by simpa using h3⟩
  | .cell u v :: rs, j, k, h => by
    simp only [slotAt] at h
    obtain ⟨h1, i, h2, h3⟩ := slotAt_ge h; exact ⟨by omega, i + 1, by omega, by simpa using h3⟩

/-- are the results' slots different ones? -/
def resSlots : List ResultVar → List Nat
  | [] => []
  | .tmp t :: rs => t :: resSlots rs
  | _ :: rs => resSlots rs

theorem slotAt_of {t : Nat} : ∀ {rs : List ResultVar} {j i : Nat}, (resSlots rs).Nodup → rs[i]? = some (.tmp t) → slotAt t rs j = some (j + i)
  | [], _, i, _, h => by simp at h
  | .tmp u :: rs, j, i, hn, h => by
    simp only [resSlots, List.nodup_cons] at hn
    cases i with
    | zero => simp at h; subst h; simp [slotAt]
    | succ i =>
      simp at h
      have hmem : t ∈ resSlots rs := by
        clear hn
        induction rs generalizing i with
        | nil => simp at h
        | cons r rs ih =>
          cases i with
          | zero => simp at h; subst h; simp [resSlots]
          | succ i =>
            have := ih i (by simpa using h)
            cases r <;> simp [resSlots, this]
      have : u ≠ t := by rintro rfl; exact hn.1 hmem
      simp only [slotAt]; rw [if_neg this, slotAt_of hn.2 h]; congr 1; omega
  | .cell u v :: rs, j, i, hn, h => by
    simp only [resSlots] at hn
    cases i with
    | zero => simp at h
    | succ i =>
      simp at h
      simp only [slotAt]; rw [slotAt_of hn h]; congr 1; omega

/-- one result, read -/
def resRead (a : Act) : ResultVar → Go.Sem Value
  | .tmp t => pure (a.tmps.getD t undef)
  | .cell x t => do loadVar t (← asAddr (a.tmps.getD x undef))

theorem run_resVs (h : Inv κ Φ B au s a w) : ∀ {rs : List ResultVar} {vs : List V}, resVs P s rs = some vs →
    ∃ us : List Value, (rs.mapM (resRead a)).run P w = .ok us w ∧ RepSL Φ B vs us ∧ (∀ v ∈ vs, v.isTup = false) ∧
      ∀ (i : Nat) V u, vs[i]? = some V → us[i]? = some u → (∃ t, rs[i]? = some (.tmp t) ∧ OwnV au w (.slot t) V u) ∨ V.cp = V
  | [], vs, e => by
    simp [resVs] at e; subst e
    exact ⟨[], rfl, .nil, by simp, by simp⟩
  | r :: rs, vs, e => by
    simp only [resVs] at e
    split at e
    · rename_i V Vs e1 e2
      injection e with e; subst e
      obtain ⟨v, g1, g2, g3, g4⟩ := run_resV (P := P) h e1
      obtain ⟨us, k1, k2, k3, k4⟩ := run_resVs h e2
      refine ⟨v :: us, ?_, .cons g2 k2, by simpa using ⟨g3, k3⟩, fun i V' u hV hu => ?_⟩
      · rw [List.mapM_cons, Sem.run_bind]
        have : (resRead a r).run P w = .ok v w := by cases r <;> exact g1
        rw [this]; simp only [Result.andThen_ok]
        rw [Sem.run_bind, k1]; rfl
      · cases i with
        | zero =>
          simp at hV hu; subst hV; subst hu
          rcases g4 with ⟨t, ht, ho⟩ | hc
          · exact .inl ⟨t, by simp [ht], ho⟩
          · exact .inr hc
        | succ i => simpa using k4 i V' u (by simpa using hV) (by simpa using hu)
    · cases e

/-- A function's results, and the state that the caller takes up. -/
theorem run_results {fn : Func} {r : V} (h : Inv κ Φ B au s a w) (hn : (resSlots fn.results.toList).Nodup) (e : retV P fn s = some r) :
    ∃ v, (results fn a.tmps).run P w = .ok v w ∧ Inv κ Φ B (resAu au fn.results.toList) ⟨[r], s.hp, s.nb⟩ ⟨#[v], a.defers⟩ w := by
  unfold retV at e
  cases e1 : resVs P s fn.results.toList with
  | none => rw [e1] at e; cases e
  | some vs =>
    obtain ⟨us, k1, k2, k3, k4⟩ := run_resVs (P := P) h e1
    obtain ⟨q1, q2⟩ := k2.get
    have hmap : (fn.results.mapM (resRead a)).run P w = .ok us.toArray w := by
      rw [← Array.toArray_toList (xs := fn.results), List.mapM_toArray, Sem.run_map, k1]; rfl
    have au_other : ∀ b h0 st, au b = some (h0, st) → (∀ i j, h0 ≠ .slot i j) → resAu au fn.results.toList b = some (h0, st) := by
      intro b h0 st e hn
      unfold resAu; rw [e]
      cases h0 with
      | slot i j => exact absurd rfl (hn i j)
      | _ => rfl
    have au_inv : ∀ b h0 st, resAu au fn.results.toList b = some (h0, st) → ∃ h1, au b = some (h1, st) := by
      intro b h0 st e
      unfold resAu at e
      split at e
      · rename_i e2
        split at e
        · injection e with e; injection e with _ e; subst e; exact ⟨_, e2⟩
        · cases e
      · exact ⟨_, e⟩
    have au_none : ∀ b, au b = none → resAu au fn.results.toList b = none := fun b e => by unfold resAu; rw [e]
    have au_slot : ∀ b t j st i, au b = some (.slot t j, st) → fn.results.toList[i]? = some (.tmp t) → resAu au fn.results.toList b = some (.slot 0 i, st) := by
      intro b t j st i e hi
      unfold resAu; rw [e]
      simp only [slotAt_of (j := 0) hn hi, Nat.zero_add]
    -- what the results own
    have hown : ∀ (i : Nat) V u, vs[i]? = some V → us[i]? = some u → ∀ z xs, V = .own z xs → TailOK (resAu au fn.results.toList) w (.slot 0 i) z u := by
      rintro i V u hV hu z xs rfl
      rcases k4 i _ u hV hu with ⟨t, ht, ho⟩ | hc
      · exact TailOK.mono ho fun b st e => ⟨au_slot b t _ st i e ht, rfl⟩
      · simp [Idl.V.cp] at hc
    have hbase : ∀ (R : V) (v : Value), RepS Φ B R v → OwnV (resAu au fn.results.toList) w (.slot 0) R v → Inv κ Φ B (resAu au fn.results.toList) ⟨[R], s.hp, s.nb⟩ ⟨#[v], a.defers⟩ w := by
      intro R v hR hO
      refine { h with phia := fun lb b o v h0 st hp e => ?_, auw := fun b h0 st e => ?_, tl := rfl, tm := fun i V u hV hu => ?_, hp := fun id o b ho hb => ?_, df := ?_ }
      · obtain ⟨h1, e2⟩ := au_inv b h0 st e; exact h.phia _ b o v h1 st hp e2
      · obtain ⟨h1, e2⟩ := au_inv b h0 st e; exact h.auw b h1 st e2
      · cases i with
        | zero => simp at hV hu; subst hV; subst hu; exact ⟨hR, hO⟩
        | succ i => simp at hV
      · exact (h.hp id o b ho hb).mono (CM.le_refl _) (fun _ _ h => h) (fun hh => ⟨au_other b _ _ hh (by simp), rfl⟩) (fun j b st hh => ⟨au_other b _ _ hh (by simp), rfl⟩)
      · obtain ⟨rs, h1, h2, h3⟩ := h.df
        exact ⟨rs, h1, h2, fun r hr => let ⟨x, y, z⟩ := h3 r hr; ⟨x, au_none _ y, z⟩⟩
    have hres : ∀ v, (pure (if h : us.toArray.size = 1 then us.toArray[0] else .tuple us.toArray) : Sem Value).run P w = .ok v w → (results fn a.tmps).run P w = .ok v w := by
      intro v hv
      have e0 : results fn a.tmps = (do let vs ← fn.results.mapM (resRead a); pure (if h : vs.size = 1 then vs[0] else .tuple vs)) := by
        unfold results
        have : (fun r => match r with | ResultVar.tmp t => pure (a.tmps.getD t undef) | ResultVar.cell x t => (do loadVar t (← asAddr (a.tmps.getD x undef)) : Go.Sem Value)) = resRead a := by
          funext r; cases r <;> rfl
        rw [← this]
        rfl
      rw [e0, Sem.run_bind, hmap]; exact hv
    rw [e1] at e
    rcases vs with _ | ⟨V0, _ | ⟨V1, vs⟩⟩
    · simp at e; subst e
      have hu : us = [] := by cases us with | nil => rfl | cons _ _ => simp at q1
      subst hu
      exact ⟨_, hres _ rfl, hbase _ _ (.tup .nil) (by rintro j z xs cs c _ hj; simp at hj)⟩
    · simp at e; subst e
      obtain ⟨u, rfl⟩ : ∃ u, us = [u] := by
        cases us with
        | nil => simp at q1
        | cons u us => cases us with
          | nil => exact ⟨u, rfl⟩
          | cons _ _ => simp at q1
      refine ⟨u, hres _ rfl, hbase _ _ (q2 0 _ _ rfl rfl) ?_⟩
      cases V0 with
      | own z xs => exact hown 0 _ u rfl rfl z xs rfl
      | tup ws => have := k3 (.tup ws) (by simp); simp [Idl.V.isTup] at this
      | _ => trivial
    · simp at e; subst e
      refine ⟨.tuple us.toArray, hres _ ?_, hbase _ _ (.tup k2) ?_⟩
      · rw [dif_neg]; rfl
        simp at q1 ⊢; omega
      · rintro j z xs cs c ec hj hc
        injection ec with ec; subst ec
        exact hown j _ c hj (by simpa using hc) z xs rfl

end
end Go.Idl
end
section
namespace Go.Idl

section
variable {P : Program} {κ : Ctx} {Φ : CM} {B : List Nat} {au : Auth} {s : St} {a : Act} {w : World} {K : St → Prop} {o : Oper}

/-- an object that is no cells and no loop is turned: nobody feels it -/
theorem Inv.turn (h : Inv κ Φ B au s a w) {r : Nat} {ds : Option (List Deferred)} {x : Obj} (hr : w.heap[r]? = some (.deferred ds)) (hau : au r = none) (hs : κ.w0.heap.size ≤ r) {df : List Deferred}
    (hdf : ∃ rs : List Nat, df = rs.map (fun r => { target := .collected r, args := #[] }) ∧ rs.Nodup ∧ ∀ q ∈ rs, q ≠ r ∧ w.heap[q]? = some (.deferred (some [])) ∧ au q = none ∧ κ.w0.heap.size ≤ q) :
    Inv κ Φ B au s { a with defers := df } { w with heap := w.heap.setIfInBounds r x } := by
  have hne : ∀ b, b ≠ r → (w.heap.setIfInBounds r x)[b]? = w.heap[b]? := fun b hb => by rw [Array.getElem?_setIfInBounds, if_neg (Ne.symm hb)]
  have ha : ∀ b h0 st, au b = some (h0, st) → (w.heap.setIfInBounds r x)[b]? = w.heap[b]? := fun b h0 st e => hne b (by rintro rfl; rw [hau] at e; cases e)
  have hl : ∀ l q, w.heap[l]? = some (Obj.loop q) → (w.heap.setIfInBounds r x)[l]? = some (Obj.loop q) := fun l q e => (hne l (by rintro rfl; rw [hr] at e; cases e)).trans e
  refine { h with phi := fun lb b o v e => ?_, auw := fun b h0 st e => ⟨by simpa using (h.auw b h0 st e).1, (h.auw b h0 st e).2⟩, size := by simpa using h.size, keep := fun b hb hm => ?_, tm := fun i V v hV hv => ⟨(h.tm i V v hV hv).1, (h.tm i V v hV hv).2.mono fun j b st e => ⟨e, ha b _ st e⟩⟩, hp := fun id o b ho hb => (h.hp id o b ho hb).mono (CM.le_refl _) (fun _ _ h => h) (fun e => ⟨e, ha b _ _ e⟩) (fun j b st e => ⟨e, ha b _ _ e⟩), df := ?_, rd := fun l hl' => let ⟨q, hq⟩ := h.rd l hl'; ⟨q, hl l q hq⟩, lp := fun l q e => let ⟨q', hq'⟩ := h.lp l q e; ⟨q', hl l q' hq'⟩ }
  · have hc := h.phi _ b o v e
    have : b ≠ r := by
      rintro rfl; unfold World.cell? at hc; rw [hr] at hc; cases hc
    unfold World.cell? at *
    simp only at hc ⊢
    rw [hne b this]; exact hc
  · rw [hne b (by omega)]; exact h.keep b hb hm
  · obtain ⟨rs, h1, h2, h3⟩ := hdf
    exact ⟨rs, h1, h2, fun q hq => let ⟨x1, x2, x3, x4⟩ := h3 q hq; ⟨(hne q x1).trans x2, x3, x4⟩⟩

/-- A function's end: its marks are taken up, its results read. -/
theorem leaves_of (fn : Func) (hn : (resSlots fn.results.toList).Nodup) {R : Ending → World → Prop} {r : V} : ∀ (df : List Deferred) {w : World} {Φ : CM} {B : List Nat} {au : Auth}, Inv κ Φ B au s { a with defers := df } w → retV P fn s = some r →
    (∀ v w', Rel κ ⟨[r], s.hp, s.nb⟩ ⟨#[v], []⟩ w' → R (.returned v) w') → LeavesInM Fence.wide 0 P fn a.tmps R df .returning w
  | [], w, Φ, B, au, h, e, hR => by
    obtain ⟨v, g1, g2⟩ := run_results (P := P) (a := { a with defers := [] }) h hn e
    exact ⟨v, g1, hR v w ⟨Φ, B, _, g2⟩⟩
  | d :: df, w, Φ, B, au, h, e, hR => by
    obtain ⟨rs, h1, h2, h3⟩ := h.df
    cases rs with
    | nil => simp at h1
    | cons q rs =>
      simp only [List.map_cons, List.cons.injEq] at h1
      obtain ⟨rfl, rfl⟩ := h1
      rw [List.nodup_cons] at h2
      obtain ⟨x, y, z⟩ := h3 q (by simp)
      have ht := h.turn (x := .deferred none) x y z (df := rs.map (fun r => { target := .collected r, args := #[] })) ⟨rs, rfl, h2.2, fun q' hq' => ⟨by rintro rfl; exact h2.1 hq', h3 q' (by simp [hq'])⟩⟩
      refine ⟨by simp, .inl ⟨q, _, rfl, run_takeDeferred' x, leaves_of fn hn _ ht e hR⟩⟩
where
  run_takeDeferred' {w : World} {q : Nat} (x : w.heap[q]? = some (.deferred (some []))) : (Instr.takeDeferred q).run P w = .ok [] { w with heap := w.heap.setIfInBounds q (.deferred none) } := by
    simp [Instr.takeDeferred, getObj, setObj, Sem.run, x, pure]

/-- **A function is entered**: what its body does from its parameters on. -/
theorem callK_enterS {f : FuncId} {fn : Func} {c : Code} {args : List V} {hp : List IObj} {K : V → List IObj → Prop} (hf : P.funcs[f]? = some fn) (hb : fn.body = some c) (hn : (resSlots fn.results.toList).Nodup)
    (h : SemC P c (retK P fn K) ⟨args ++ List.replicate (fn.ntmps - args.length) .un, hp, hp.length⟩) : CallK P f args hp K := by
  intro Φ B au w cargs hi
  have hl : args.length = cargs.size := hi.tl
  refine callsIn_of_wp_marks hf hb trivial ?_
  have h0 : Rel (Ctx.at_ Φ B au w) ⟨args ++ List.replicate (fn.ntmps - args.length) .un, hp, hp.length⟩ { tmps := cargs ++ Array.replicate (fn.ntmps - cargs.size) undef, defers := [] } w := by
    refine ⟨Φ, B, au, { hi with tl := by simp [hl], tm := fun i V v hV hv => ?_ }⟩
    by_cases hlt : i < args.length
    · rw [List.getElem?_append_left hlt] at hV
      rw [Array.getElem?_append_left (by omega)] at hv
      exact hi.tm i V v hV hv
    · rw [List.getElem?_append_right (by omega), List.getElem?_replicate] at hV
      split at hV
      · injection hV with hV; subst hV; exact ⟨.un _, trivial⟩
      · cases hV
  refine wpIn_mono (F := Fence.wide) (h (Ctx.at_ Φ B au w) _ w h0) ?_
  rintro e a' w' ⟨e', s', rfl, h1, Φ', B', au', h2⟩
  have main : (match retV P fn s' with | some v => K v s'.hp | none => False) → LeavesInM Fence.wide 0 P fn a'.tmps (fun e w' => ∃ v r hp', e = .returned v ∧ K r hp' ∧ Rel (Ctx.at_ Φ B au w) ⟨[r], hp', hp.length⟩ ⟨#[v], []⟩ w') a'.defers .returning w' := by
    intro hret
    cases er : retV P fn s' with
    | none => rw [er] at hret; exact hret.elim
    | some r =>
      rw [er] at hret
      refine leaves_of (κ := Ctx.at_ Φ B au w) (a := a') (s := s') fn hn a'.defers h2 er fun v w'' hrel => ⟨v, r, s'.hp, rfl, hret, ?_⟩
      obtain ⟨Φ'', B'', au'', g⟩ := hrel
      refine ⟨Φ'', B'', au'', { g with nb := ?_ }⟩
      have e1 := hi.nb; have e2 := g.nb; have e3 := hi.hl
      simp only [Ctx.at_] at e1 e2 ⊢
      refine ⟨by rw [← e3]; exact Nat.le_refl _, ?_⟩
      have e4 := h2.pre.length_le
      have e5 := h2.hl
      simp only [Ctx.at_] at e4
      simp only at e3
      omega
  cases e' with
  | normal => exact main h1
  | ret => exact main h1
  | exit id => exact h1.elim
  | goto l => exact h1.elim

theorem callK_enter {f : FuncId} {fn : Func} {c : Code} {args : List V} {hp : List IObj} {K : V → List IObj → Prop} (hf : P.funcs[f]? = some fn) (hb : fn.body = some c) (hn : (resSlots fn.results.toList).Nodup)
    (h : wpK P c (retK P fn K) ⟨args ++ List.replicate (fn.ntmps - args.length) .un, hp, hp.length⟩) : CallK P f args hp K := callK_enterS hf hb hn (wp_sound _ _ _ h)

theorem CallK.mono {f : FuncId} {args : List V} {hp : List IObj} {K K' : V → List IObj → Prop} (h : CallK P f args hp K) (hk : ∀ r hp', K r hp' → K' r hp') : CallK P f args hp K' :=
  fun Φ B au w cargs hi => (h Φ B au w cargs hi).mono fun _ _ ⟨v, r, hp', e, k, g⟩ => ⟨v, r, hp', e, hk _ _ k, g⟩

end
end Go.Idl
end
section
namespace Go.Idl

section
variable {P : Program} {κ : Ctx} {Φ : CM} {B : List Nat} {au : Auth} {s : St} {a : Act} {w : World} {K : St → Prop} {o : Oper}

theorem repS_data {V : V} {v : Value} {B' : List Nat} (h : RepS Φ B V v) (hd : V.data = true) : RepS Φ B' V v := by
  cases h with
  | d x => exact .d x
  | own x => exact .own x
  | nil => exact .nil
  | tup e =>
    obtain ⟨h1, h2⟩ := e.get
    simp only [Idl.V.data, List.all_eq_true] at hd
    refine .tup (RepSL.of h1 fun j d c hj hc => ?_)
    have := hd d (List.mem_of_getElem? hj)
    have hr := h2 j d c hj hc
    cases hr with
    | d x => exact .d x
    | own x => exact .own x
    | nil => exact .nil
    | _ => cases this
  | _ => simp [Idl.V.data] at hd

/-- **A call of a function of data.** -/
theorem callK_pcall {f : FuncId} {ds : List D} {args : List V} {r : V} {hp : List IObj} {K : V → List IObj → Prop} (h : PCall P f ds r) (ha : allD args = some ds) (hd : r.data = true) (hk : K r hp) : CallK P f args hp K := by
  obtain ⟨al, ag⟩ := allD_get ha
  intro Φ B au w cargs hi
  have h0 : Inv (Ctx.at_ Φ [] (fun _ => none) w) Φ [] (fun _ => none) ⟨ds.map V.d, [], ([] : List IObj).length⟩ ⟨cargs, []⟩ w := by
    refine { phi := hi.phi, phia := fun lb _ _ _ _ _ _ e => (by cases e), auw := fun _ _ _ e => (by cases e), size := Nat.le_refl _, keep := fun _ _ _ => rfl, pre := List.prefix_refl _, lePhi := CM.le_refl _, tl := by have := hi.tl; simpa [al] using this, tm := fun i V v hV hv => ?_, hl := rfl, nb := ⟨Nat.le_refl _, Nat.le_refl _⟩, hp := fun id o b ho => (by simp at ho), df := ⟨[], rfl, List.nodup_nil, by simp⟩, rd := fun l hl => (by cases hl), lp := fun l r e => ⟨r, e⟩, src := fun lb b o v e => .inl e, wo := ⟨rfl, rfl, rfl⟩ }
    have hV' : (ds.map Idl.V.d)[i]? = some V := hV
    simp only [List.getElem?_map, Option.map_eq_some_iff] at hV'
    obtain ⟨d, hd', rfl⟩ := hV'
    obtain ⟨V', e1, e2⟩ := ag i d hd'
    exact ⟨.d (rep_d? (hi.tm i V' v e1 hv).1 e2), trivial⟩
  refine (h Φ [] (fun _ => none) w cargs h0).mono ?_
  rintro e w' ⟨v, r', hp', rfl, rfl, Φ', B', au', g⟩
  refine ⟨v, r', hp, rfl, hk, Φ', B, fun b => if b < w.heap.size then au b else match au' b with | some (.slot i j, st) => some (.slot i j, st) | _ => none, ?_⟩
  have hkeep : ∀ b, b < w.heap.size → w'.heap[b]? = w.heap[b]? := fun b hb => g.keep b hb (by simp [Ctx.at_])
  have hnew : ∀ b h0 st, au' b = some (h0, st) → ¬ b < w.heap.size := by
    intro b h0 st e
    rcases (g.auw b h0 st e).2 with x | x
    · simp [Ctx.at_] at x
    · exact Nat.not_lt.2 x
  have hau : ∀ b h0 st, au b = some (h0, st) → (if b < w.heap.size then au b else match au' b with | some (.slot i j, st) => some (.slot i j, st) | _ => none) = some (h0, st) := fun b h0 st e => by
    rw [if_pos (hi.auw b h0 st e).1]; exact e
  refine { phi := g.phi, phia := fun lb b o v h0 st hp e => ?_, auw := fun b h0 st e => ?_, size := g.size, keep := fun b hb _ => hkeep b hb, pre := List.prefix_refl _, lePhi := g.lePhi, tl := rfl, tm := fun i V u hV hu => ?_, hl := hi.hl, nb := ⟨by have := hi.hl; simp only [Ctx.at_]; simp only at this; omega, Nat.le_refl _⟩, hp := fun id o b ho hb => ?_, df := ⟨[], rfl, List.nodup_nil, by simp⟩, rd := fun l hl => (by cases hl), lp := g.lp, src := fun lb b o v e => ?_, wo := g.wo }
  · split at e
    · rename_i hb
      rcases g.src _ b o v hp with x | x | x
      · exact hi.phia _ b o v h0 st x e
      · simp [Ctx.at_] at x
      · exact absurd hb (Nat.not_lt.2 x)
    · split at e
      · rename_i e'; injection e with e; injection e with e1 e2; subst e1; subst e2; exact g.phia _ b o v _ _ hp e'
      · cases e
  · split at e
    · rename_i hb; exact ⟨Nat.lt_of_lt_of_le hb g.size, .inl (by simp only [Ctx.at_]; rw [e]; simp)⟩
    · rename_i hb
      split at e
      · rename_i e'; exact ⟨(g.auw b _ _ e').1, .inr (Nat.le_of_not_lt hb)⟩
      · cases e
  · cases i with
    | succ i => simp at hV
    | zero =>
      simp at hV hu; subst hV; subst hu
      obtain ⟨k1, k2⟩ := g.tm 0 r' v rfl rfl
      refine ⟨repS_data k1 hd, k2.mono fun j b st e => ⟨?_, rfl⟩⟩
      rw [if_neg (hnew b _ _ e), e]
  · exact (hi.hp id o b ho hb).mono g.lePhi (fun _ _ h => h) (fun e => ⟨hau b _ _ e, hkeep b (hi.auw b _ _ e).1⟩) (fun j b st e => ⟨hau b _ _ e, hkeep b (hi.auw b _ _ e).1⟩)
  · rcases g.src _ b o v e with x | x | x
    · exact .inl x
    · simp [Ctx.at_] at x
    · exact .inr (.inr x)

/-- a function of data, from its body -/
theorem pcall_of_body {f : FuncId} {fn : Func} {c : Code} {ds : List D} {r : V} (hf : P.funcs[f]? = some fn) (hb : fn.body = some c) (hn : (resSlots fn.results.toList).Nodup)
    (h : wpK P c (retK P fn fun r' _ => r' = r) ⟨ds.map V.d ++ List.replicate (fn.ntmps - (ds.map V.d).length) .un, [], 0⟩) : PCall P f ds r :=
  callK_enter hf hb hn h

/-- what is asked when the rounds are over -/
def rangeEnd (Q : Ex → St → Prop) (s : St) (id : Nat) (hp' : List IObj) : Prop :=
  match hp'[id]? with
  | some (.loop true none _ _ _ _) => Q .normal { s with hp := hp'.set id .free }
  | some (.loop false (some .ret) _ _ _ _) => Q .ret { s with hp := hp'.set id .free }
  | some (.loop false (some (.exit i)) _ _ _ _) => Q (.exit i) { s with hp := hp'.set id .free }
  | some (.loop false (some (.goto i)) _ _ _ _) => Q (.goto i) { s with hp := hp'.set id .free }
  | _ => False

/-- the record of the rounds is laid -/
theorem Inv.loopNew (h : Inv κ Φ B au s a w) {ps : Array Tmp} {asg body : Code} {fn : FuncId} {dr : Nat} {df : List Deferred} {w1 : World} (g : Grows w w1)
    (hdf : ∃ rs : List Nat, df = rs.map (fun r => { target := .collected r, args := #[] }) ∧ rs.Nodup ∧ ∀ r ∈ rs, w1.heap[r]? = some (.deferred (some [])) ∧ au r = none ∧ κ.w0.heap.size ≤ r) :
    ∃ au', Inv κ Φ (B ++ [w1.heap.size]) au' { s with hp := s.hp ++ [IObj.loop true none (s.tm.map V.cp) ps.toList asg body] } { a with defers := df }
      { w1 with heap := w1.heap.push (.loop { state := .ready, pending := none, fn := fn, tmps := a.tmps, params := ps, assign := asg, body := body, defers := dr }) } := by
  have i1 : Inv κ Φ B au s { a with defers := df } w1 := { h.grow g with df := hdf }
  have i2 := i1.grow (Grows.push w1 (.loop { state := .ready, pending := none, fn := fn, tmps := a.tmps, params := ps, assign := asg, body := body, defers := dr }))
  have hB : ∀ (i b : Nat), B[i]? = some b → (B ++ [w1.heap.size])[i]? = some b := fun i b e => by
    rw [List.getElem?_append_left (List.getElem?_eq_some_iff.1 e).1]; exact e
  have hnew : au w1.heap.size = none := by
    cases e : au w1.heap.size with
    | none => rfl
    | some x => exact absurd (i1.auw _ _ _ e).1 (Nat.lt_irrefl _)
  have hau : ∀ b h0 st, au b = some (h0, st) → (if b = w1.heap.size then some (Holder.obj s.hp.length, 0) else au b) = some (h0, st) := fun b h0 st e => by
    rw [if_neg]; exact e
    rintro rfl; rw [hnew] at e; cases e
  refine ⟨fun b => if b = w1.heap.size then some (.obj s.hp.length, 0) else au b, { i2 with phia := fun lb b o v h0 st hp e => ?_, auw := fun b h0 st e => ?_, pre := ?_, tm := fun i V v hV hv => ?_, hl := by simp [h.hl], nb := ⟨h.nb.1, by have := h.nb.2; simp; omega⟩, hp := fun id o b ho hb => ?_, df := ?_ }⟩
  · split at e
    · rename_i eb
      have := i1.phi _ b o v hp
      unfold World.cell? at this
      rw [eb] at this
      simp at this
    · exact i1.phia _ b o v h0 st hp e
  · split at e
    · rename_i eb; subst eb; exact ⟨by simp, .inr i1.size⟩
    · exact i2.auw b h0 st e
  · exact h.pre.trans (List.prefix_append _ _)
  · obtain ⟨k1, k2⟩ := i2.tm i V v hV hv
    exact ⟨k1.mono (CM.le_refl _) hB, k2.mono fun j b st e => ⟨hau b _ st e, rfl⟩⟩
  · by_cases hid : id < s.hp.length
    · rw [List.getElem?_append_left hid] at ho
      have hid' : id < B.length := by rw [← h.hl]; exact hid
      rw [List.getElem?_append_left hid'] at hb
      exact (i2.hp id o b ho hb).mono (CM.le_refl _) hB (fun e => ⟨hau b _ _ e, rfl⟩) (fun j b st e => ⟨hau b _ st e, rfl⟩)
    · have hid1 : id = s.hp.length := by
        have := (List.getElem?_eq_some_iff.1 ho).1; simp at this; omega
      subst hid1
      simp at ho
      subst ho
      rw [h.hl] at hb
      simp at hb
      subst hb
      refine ⟨by simp, fn, a.tmps, dr, by simp, RepSL.of (by simpa using h.tl) fun j d c hd hc => ?_, fun V hV => ?_⟩
      · simp only [List.getElem?_map, Option.map_eq_some_iff] at hd
        obtain ⟨d', hd', rfl⟩ := hd
        rw [Array.getElem?_toList] at hc
        exact ((h.tm j d' c hd' hc).1.mono (CM.le_refl _) hB).cp
      · obtain ⟨v, _, rfl⟩ := List.mem_map.1 hV
        exact Idl.V.cp_cp v
  · obtain ⟨rs, h1, h2, h3⟩ := i2.df
    refine ⟨rs, h1, h2, fun r hr => ?_⟩
    obtain ⟨x, y, z⟩ := h3 r hr
    refine ⟨x, ?_, z⟩
    rw [if_neg]; exact y
    rintro rfl
    obtain ⟨rs', h1', h2', h3'⟩ := i1.df
    rw [h1] at h1'
    have : rs = rs' := by
      have := congrArg (List.map fun d : Deferred => match d.target with | .collected r => r | _ => 0) h1'
      simpa [Function.comp_def] using this
    subst this
    have := lt_of_heap (h3' _ hr).1
    omega

theorem run_enterLoop_none {fn : FuncId} {tmps : Array Value} {ps : Array Tmp} {asg body : Code} : (Instr.enterLoop fn tmps ps asg body none).run P w =
    .ok (w.heap.size + 1, [{ target := .collected w.heap.size, args := #[] }]) { w with heap := (w.heap.push (.deferred (some []))).push (.loop { state := .ready, pending := none, fn, tmps, params := ps, assign := asg, body, defers := w.heap.size }) } := by
  simp [Instr.enterLoop, newObj, Sem.run, pure]
  rfl

theorem run_enterLoop_some {fn : FuncId} {tmps : Array Value} {ps : Array Tmp} {asg body : Code} {l : Nat} {r : Loop} (hr : w.heap[l]? = some (.loop r)) : (Instr.enterLoop fn tmps ps asg body (some l)).run P w =
    .ok (w.heap.size, []) { w with heap := w.heap.push (.loop { state := .ready, pending := none, fn, tmps, params := ps, assign := asg, body, defers := r.defers }) } := by
  simp [Instr.enterLoop, Instr.getLoop, getObj, hr, newObj, Sem.run, pure]

theorem run_endLoop {l : Nat} {r : Loop} (hr : w.heap[l]? = some (.loop r)) (hs : r.state ≠ .busy) : (Instr.endLoop l).run P w = .ok r.pending { w with heap := w.heap.setIfInBounds l (.loop { r with state := .exhausted }) } := by
  have : (r.state == LoopState.busy) = false := by cases h : r.state <;> simp_all
  simp [Instr.endLoop, Instr.getLoop, getObj, setObj, hr, Sem.run, pure]
  intro hb; exact absurd hb hs

/-- **Ranging over a function.** -/
theorem range_sem {g : Operand} {ps : Array Tmp} {asg body : Code} {Q : Ex → St → Prop} {f : FuncId} {caps : List V} (hg : ev P 0 s g = .fn (.func f) caps) (hb : hasBody P f = true) (hbare : caps.all V.bare = true)
    (h : CallK P f (.yld s.hp.length :: caps) (s.hp ++ [IObj.loop true none (s.tm.map V.cp) ps.toList asg body]) fun _ hp' => rangeEnd Q s s.hp.length hp') : SemC P (.rangeFunc g ps asg body) Q s := by
  rintro κ a w ⟨Φ, B, au, hi⟩
  have hge := ev_rep (P := P) hi 0 g
  rw [hg] at hge
  refine wpIn_rangeFunc fun fn _ => ?_
  -- the record
  obtain ⟨l, mark, w1, henter, au1, hi1, hl⟩ : ∃ l mark w1, (Instr.enterLoop fn a.tmps ps asg body κ.F.round).run P w = .ok (l, mark) w1 ∧ ∃ au1, Inv κ Φ (B ++ [l]) au1 { s with hp := s.hp ++ [IObj.loop true none (s.tm.map V.cp) ps.toList asg body] } { a with defers := mark ++ a.defers } w1 ∧ True := by
    obtain ⟨rs, h1, h2, h3⟩ := hi.df
    cases hro : κ.round with
    | none =>
      have gr := Grows.push w (.deferred (some []))
      have hnew : au w.heap.size = none := by
        cases e : au w.heap.size with
        | none => rfl
        | some x => exact absurd (hi.auw _ _ _ e).1 (Nat.lt_irrefl _)
      obtain ⟨au1, i1⟩ := hi.loopNew (ps := ps) (asg := asg) (body := body) (fn := fn) (dr := w.heap.size) (df := { target := .collected w.heap.size, args := #[] } :: a.defers) gr
        ⟨w.heap.size :: rs, by simp [h1], List.nodup_cons.2 ⟨fun hm => by have := lt_of_heap (h3 _ hm).1; omega, h2⟩, fun r hr => by
          rcases List.mem_cons.1 hr with rfl | hr
          · exact ⟨by simp, hnew, hi.size⟩
          · obtain ⟨x, y, z⟩ := h3 r hr
            exact ⟨(gr.same r (lt_of_heap x)).trans x, y, z⟩⟩
      have he : (Instr.enterLoop fn a.tmps ps asg body κ.F.round).run P w = .ok (w.heap.size + 1, [{ target := .collected w.heap.size, args := #[] }]) { w with heap := (w.heap.push (.deferred (some []))).push (.loop { state := .ready, pending := none, fn, tmps := a.tmps, params := ps, assign := asg, body, defers := w.heap.size }) } := by
        show (Instr.enterLoop fn a.tmps ps asg body κ.round).run P w = _
        rw [hro]; exact run_enterLoop_none
      exact ⟨_, _, _, he, au1, by simpa using i1, trivial⟩
    | some l0 =>
      obtain ⟨r, hr⟩ := hi.rd l0 hro
      obtain ⟨au1, i1⟩ := hi.loopNew (ps := ps) (asg := asg) (body := body) (fn := fn) (dr := r.defers) (df := a.defers) (Grows.refl w) ⟨rs, h1, h2, h3⟩
      have he : (Instr.enterLoop fn a.tmps ps asg body κ.F.round).run P w = .ok (w.heap.size, []) { w with heap := w.heap.push (.loop { state := .ready, pending := none, fn, tmps := a.tmps, params := ps, assign := asg, body, defers := r.defers }) } := by
        show (Instr.enterLoop fn a.tmps ps asg body κ.round).run P w = _
        rw [hro]; exact run_enterLoop_some hr
      exact ⟨_, _, _, he, au1, by simpa using i1, trivial⟩
  have hlb : (B ++ [l])[s.hp.length]? = some l := by rw [hi.hl]; simp
  generalize hv : a.eval g = v at hge
  cases hge with
  | fn hcaps =>
    rename_i cc
    have hB : ∀ (i b : Nat), B[i]? = some b → (B ++ [l])[i]? = some b := fun i b e => by
      rw [List.getElem?_append_left (List.getElem?_eq_some_iff.1 e).1]; exact e
    have hargs : RepSL Φ (B ++ [l]) (.yld s.hp.length :: caps) (.func (.yield l) #[] #[] :: cc) := .cons (.yld hlb) (hcaps.mono (CM.le_refl _) hB)
    have hcallee := hi1.callee (args := .yld s.hp.length :: caps) (cargs := .func (.yield l) #[] #[] :: cc) hargs (fun v hv => by
      rcases List.mem_cons.1 hv with rfl | hv
      · exact ⟨rfl, rfl⟩
      · exact bare_of (List.all_eq_true.1 hbare v hv))
    have hcall := h Φ (B ++ [l]) (noSlots au1) w1 _ hcallee
    refine ⟨l, mark, w1, { target := .fn (.func f) cc.toArray, args := #[.func (.yield l) #[] #[]] }, w1, f, (.func (.yield l) #[] #[] :: cc).toArray, w1, henter, ?_, fun _ _ => trivial, ?_, fun hh => by simp [Ctx.F_depth] at hh, ?_⟩
    · unfold resolve rangeCall
      simp only [hv, Deferred.ofValue]
      have : (#[] : Array Value) ++ Array.map a.eval #[Operand.const (Value.func (Fn.yield l) #[] #[])] = #[.func (.yield l) #[] #[]] := by simp [Act.eval]
      rw [this]; rfl
    · simp only [invoke]
      rw [run_callFunc hb]
      have : #[Value.func (.yield l) #[] #[]] ++ cc.toArray = (Value.func (.yield l) #[] #[] :: cc).toArray := by simp
      rw [this]
    · refine CallsIn.mono (F := κ.F) hcall fun e w3 => ?_
      rintro ⟨v', r', hp', rfl, hK, Φ', B', au', g'⟩
      have hback := hi1.back g' none
      -- the record again
      have hlp : ∃ o, hp'[s.hp.length]? = some o ∧ B'[s.hp.length]? = some l := by
        have hpre := g'.pre
        obtain ⟨t, ht⟩ := hpre
        simp only [Ctx.at_] at ht
        have hb' : B'[s.hp.length]? = some l := by rw [← ht, List.getElem?_append_left (by simp [hi.hl])]; exact hlb
        have : s.hp.length < hp'.length := by rw [g'.hl]; exact (List.getElem?_eq_some_iff.1 hb').1
        exact ⟨_, List.getElem?_eq_getElem this, hb'⟩
      obtain ⟨ob, hob, hlB⟩ := hlp
      have key : ∀ (ready : Bool) (pend : Option Code) (tm : List V) (qs : List Nat) (ag bd : Code), ob = .loop ready pend tm qs ag bd → (ready = true ∨ pend.isSome = true) →
          ∃ w4, (Instr.endLoop l).run P w3 = .ok pend w4 ∧ Rel κ { s with hp := hp'.set s.hp.length .free } { a with defers := mark ++ a.defers } w4 := by
        rintro ready pend tm qs ag bd rfl hst
        obtain ⟨q1, fn', tmps', dr', q2, q3, q4⟩ := hback.hp s.hp.length _ l hob hlB
        refine ⟨_, run_endLoop q2 ?_, Φ', B', backAu au1 au' none, ?_⟩
        · cases ready <;> cases pend <;> simp_all
        · refine hback.write (o' := .free) hlB q1 (by simp) (fun b' hb' => ?_) rfl rfl rfl (fun r hr => ⟨_, by
            show (w3.heap.setIfInBounds l _)[l]? = _
            rw [Array.getElem?_setIfInBounds, if_pos rfl, if_pos (lt_of_heap q2)]⟩) trivial
          show (w3.heap.setIfInBounds l _)[b']? = _
          rw [Array.getElem?_setIfInBounds, if_neg (Ne.symm hb')]
      unfold rangeEnd at hK
      rw [hob] at hK
      split at hK
      · rename_i e; injection e with e
        obtain ⟨w4, k1, k2⟩ := key _ _ _ _ _ _ e (.inl rfl)
        exact ⟨none, w4, k1, .normal, _, rfl, hK, k2⟩
      · rename_i e; injection e with e
        obtain ⟨w4, k1, k2⟩ := key _ _ _ _ _ _ e (.inr rfl)
        exact ⟨_, w4, k1, wpIn_ret ⟨.ret, _, rfl, hK, k2⟩⟩
      · rename_i e; injection e with e
        obtain ⟨w4, k1, k2⟩ := key _ _ _ _ _ _ e (.inr rfl)
        exact ⟨_, w4, k1, wpIn_exit ⟨.exit _, _, rfl, hK, k2⟩⟩
      · rename_i e; injection e with e
        obtain ⟨w4, k1, k2⟩ := key _ _ _ _ _ _ e (.inr rfl)
        exact ⟨_, w4, k1, wpIn_goto ⟨.goto _, _, rfl, hK, k2⟩⟩
      · exact hK.elim

/-- the loop variables of a round -/
def setAll : List V → List (Nat × V) → List V
  | tm, [] => tm
  | tm, (i, v) :: r => setAll (tm.set i v) r

/-- what is asked at a round's end -/
def roundEndK (id : Nat) (K : V → List IObj → Prop) (e : Ex) (s : St) : Prop :=
  match s.hp[id]? with
  | some (.loop false none tm ps asg body) => match e with
    | .normal => K (.d (.bool true)) (s.hp.set id (.loop true none tm ps asg body))
    | .ret => K (.d (.bool false)) (s.hp.set id (.loop false (some .ret) tm ps asg body))
    | .exit i => K (.d (.bool false)) (s.hp.set id (.loop false (some (.exit i)) tm ps asg body))
    | .goto i => K (.d (.bool false)) (s.hp.set id (.loop false (some (.goto i)) tm ps asg body))
  | _ => False

/-- between the assignment to the loop's variables and the body -/
def beginK (P : Program) (id : Nat) (body : Code) (K : V → List IObj → Prop) (e : Ex) (s : St) : Prop :=
  match e with
  | .normal => match s.hp[id]? with
    | some (.loop true none tm ps asg body') => wpK P body (roundEndK id K) { s with hp := s.hp.set id (.loop false none tm ps asg body') }
    | _ => False
  | _ => False

theorem setAll_rep : ∀ {ps : List Nat} {vs : List V} {cs : List Value} {tm : List V} {tmps : Array Value}, ps.length = vs.length → RepSL Φ B vs cs → tm.length = tmps.size → RepSL Φ B tm tmps.toList → (∀ v ∈ vs, v.cp = v ∧ v.isTup = false) → (∀ v ∈ tm, v.cp = v) →
    RepSL Φ B (setAll tm (ps.zip vs)) ((ps.zip cs).foldl (fun t (p : Nat × Value) => t.setIfInBounds p.1 p.2) tmps).toList ∧ (∀ v ∈ setAll tm (ps.zip vs), v.cp = v)
  | [], vs, cs, tm, tmps, hl, hv, ht, hr, hb, hc => by simpa [setAll] using ⟨hr, hc⟩
  | p :: ps, [], cs, tm, tmps, hl, hv, ht, hr, hb, hc => by simp at hl
  | p :: ps, v :: vs, cs, tm, tmps, hl, hv, ht, hr, hb, hc => by
    cases hv with
    | cons h1 h2 =>
      rename_i c cs
      simp only [List.zip_cons_cons, setAll, List.foldl_cons]
      refine setAll_rep (by simpa using hl) h2 (by simpa using ht) ?_ (fun u hu => hb u (by simp [hu])) (fun u hu => ?_)
      · obtain ⟨a1, a2⟩ := hr.get
        refine RepSL.of (by simpa using ht) fun j d x hd hx => ?_
        rw [Array.getElem?_toList, Array.getElem?_setIfInBounds] at hx
        rw [List.getElem?_set] at hd
        by_cases e : p = j
        · subst e
          rw [if_pos rfl] at hd hx
          split at hd
          · rename_i hlt
            rw [if_pos (by rw [← ht]; exact hlt)] at hx
            injection hd with hd; injection hx with hx; subst hd; subst hx
            exact h1
          · cases hd
        · rw [if_neg e] at hd hx
          exact a2 j d x hd (by rw [Array.getElem?_toList]; exact hx)
      · rcases List.mem_or_eq_of_mem_set hu with e | e
        · exact hc u e
        · subst e; exact (hb u (by simp)).1

theorem run_yield {l : Nat} {r : Loop} {args : Array Value} (hr : w.heap[l]? = some (.loop r)) (hs : args.size = r.params.size) : (Instr.yield l args).run P w = .ok (.round l r.fn ((r.params.zip args).foldl (fun tmps (t, a) => tmps.setIfInBounds t a) r.tmps) r.assign r.body) w := by
  simp [Instr.yield, Instr.getLoop, getObj, hr, hs, Sem.run, pure]

theorem run_beginRound {l : Nat} {r : Loop} (hr : w.heap[l]? = some (.loop r)) (hs : r.state = .ready) : (Instr.beginRound l).run P w = .ok () { w with heap := w.heap.setIfInBounds l (.loop { r with state := .busy }) } := by
  simp [Instr.beginRound, Instr.getLoop, getObj, setObj, hr, hs, Sem.run, pure]

theorem run_endRound {l : Nat} {r : Loop} {j : Option Code} (hr : w.heap[l]? = some (.loop r)) : (Instr.endRound l j).run P w = .ok (.bool j.isNone) { w with heap := w.heap.setIfInBounds l (.loop { r with state := if j.isNone then .ready else .done, pending := j }) } := by
  simp [Instr.endRound, Instr.getLoop, getObj, setObj, hr, Sem.run, pure]

/-- a loop's record is turned -/
theorem Inv.loopTurn (h : Inv κ Φ B au s a w) {id l : Nat} {tm : List V} {ps : List Nat} {asg body : Code} {rd rd' : Bool} {pd pd' : Option Code} (e : s.hp[id]? = some (.loop rd pd tm ps asg body)) (hb : B[id]? = some l) :
    ∃ r : Loop, w.heap[l]? = some (.loop r) ∧ r.state = (if rd then .ready else if pd.isSome then .done else .busy) ∧ r.pending = pd ∧ r.params = ps.toArray ∧ r.assign = asg ∧ r.body = body ∧ RepSL Φ B tm r.tmps.toList ∧ (∀ V ∈ tm, V.cp = V) ∧
      Inv κ Φ B au { s with hp := s.hp.set id (.loop rd' pd' tm ps asg body) } a { w with heap := w.heap.setIfInBounds l (.loop { r with state := (if rd' then .ready else if pd'.isSome then .done else .busy), pending := pd' }) } := by
  obtain ⟨h1, fn, tmps, dr, h2, h3, h4⟩ := h.hp id _ l e hb
  refine ⟨_, h2, rfl, rfl, rfl, rfl, rfl, h3, h4, ?_⟩
  have hlt := lt_of_heap h2
  have hl : (w.heap.setIfInBounds l (.loop { state := (if rd' then .ready else if pd'.isSome then .done else .busy), pending := pd', fn := fn, tmps := tmps, params := ps.toArray, assign := asg, body := body, defers := dr }))[l]? = some (.loop { state := (if rd' then .ready else if pd'.isSome then .done else .busy), pending := pd', fn := fn, tmps := tmps, params := ps.toArray, assign := asg, body := body, defers := dr }) := by
    rw [Array.getElem?_setIfInBounds, if_pos rfl, if_pos hlt]
  refine h.write (o' := .loop rd' pd' tm ps asg body) hb h1 (by simp) (fun b' hb' => ?_) rfl rfl rfl (fun r hr => ⟨_, hl⟩) ?_
  · show (w.heap.setIfInBounds l _)[b']? = _
    rw [Array.getElem?_setIfInBounds, if_neg (Ne.symm hb')]
  · exact ⟨h1, fn, tmps, dr, hl, h3, h4⟩

/-- between the assignment to the loop's variables and the body, whatever their conditions -/
def beginC (P : Program) (id : Nat) (body : Code) (K : V → List IObj → Prop) (e : Ex) (s : St) : Prop :=
  match e with
  | .normal => match s.hp[id]? with
    | some (.loop true none tm ps asg body') => SemC P body (roundEndK id K) { s with hp := s.hp.set id (.loop false none tm ps asg body') }
    | _ => False
  | _ => False

/-- **A round.** -/
theorem roundK_enterC {id : Nat} {args : List V} {hp : List IObj} {K : V → List IObj → Prop} {tm : List V} {ps : List Nat} {asg body : Code} (hid : hp[id]? = some (.loop true none tm ps asg body)) (hl : ps.length = args.length) (hbare : args.all V.bare = true)
    (h : SemC P asg (beginC P id body K) ⟨setAll tm (ps.zip args), hp, hp.length⟩) : RoundK P id args hp K := by
  intro Φ B au w cargs b hi hb
  obtain ⟨r, q1, q2, q3, q4, q5, q6, q7, q8, _⟩ := hi.loopTurn (rd' := true) (pd' := none) hid hb
  have hcl : args.length = cargs.size := hi.tl
  have hargs : RepSL Φ B args cargs.toList := RepSL.of (by simpa using hcl) fun j d c hd hc => (hi.tm j d c hd (by rw [← Array.getElem?_toList]; exact hc)).1
  have hbr : ∀ v ∈ args, v.cp = v ∧ v.isTup = false := fun v hv => bare_of (List.all_eq_true.1 hbare v hv)
  refine ⟨r.fn, _, r.assign, r.body, run_yield q1 (by rw [q4]; simp; omega), ?_⟩
  let κ' : Ctx := { Ctx.at_ Φ B au w with round := some b }
  have hset := setAll_rep (Φ := Φ) (B := B) (ps := ps) (vs := args) (cs := cargs.toList) (tm := tm) (tmps := r.tmps) hl hargs (by have := q7.get.1; simpa using this) q7 hbr q8
  have hfold : (r.params.zip cargs).foldl (fun tmps (p : Nat × Value) => tmps.setIfInBounds p.1 p.2) r.tmps = (ps.zip cargs.toList).foldl (fun t (p : Nat × Value) => t.setIfInBounds p.1 p.2) r.tmps := by
    rw [q4, ← Array.foldl_toList]; simp
  have hrel : Rel κ' ⟨setAll tm (ps.zip args), hp, hp.length⟩ { tmps := (r.params.zip cargs).foldl (fun tmps (p : Nat × Value) => tmps.setIfInBounds p.1 p.2) r.tmps, defers := [] } w := by
    rw [hfold]
    refine ⟨Φ, B, au, { phi := hi.phi, phia := hi.phia, auw := hi.auw, size := hi.size, keep := hi.keep, pre := hi.pre, lePhi := hi.lePhi, tl := by simpa using hset.1.get.1, tm := fun i V v hV hv => ?_, hl := hi.hl, nb := hi.nb, hp := hi.hp, df := ⟨[], rfl, List.nodup_nil, by simp⟩, rd := fun l hl => ?_, lp := hi.lp, src := hi.src, wo := hi.wo }⟩
    · refine ⟨hset.1.get.2 i V v hV (by rw [Array.getElem?_toList]; exact hv), ?_⟩
      have hc := hset.2 V (List.mem_of_getElem? hV)
      cases V with
      | own z xs => simp [Idl.V.cp] at hc
      | tup vs =>
        rintro j z xs cs c rfl hj _
        simp only [Idl.V.cp, Idl.V.tup.injEq] at hc
        rw [← hc, List.getElem?_map, Option.map_eq_some_iff] at hj
        obtain ⟨d, _, hd⟩ := hj
        cases d <;> simp at hd
      | _ => trivial
    · have : b = l := by simpa [κ'] using hl
      subst this; exact ⟨r, q1⟩
  refine roundIn_of_wpIn trivial ?_
  rw [q5, q6]
  refine wpIn_mono (F := κ'.F) (h κ' _ w hrel) ?_
  rintro e a1 w1 ⟨e', s1, rfl, h1, Φ1, B1, au1, i1⟩
  have hBb : ∀ {Φ1 : CM} {B1 : List Nat} {au1 : Auth} {s1 : St} {a1 : Act} {w1 : World}, Inv κ' Φ1 B1 au1 s1 a1 w1 → B1[id]? = some b := by
    intro Φ1 B1 au1 s1 a1 w1 i1
    obtain ⟨t, ht⟩ := i1.pre
    have ht' : B ++ t = B1 := ht
    rw [← ht', List.getElem?_append_left (List.getElem?_eq_some_iff.1 hb).1]; exact hb
  cases e' with
  | exit i => exact h1.elim
  | goto i => exact h1.elim
  | ret => exact h1.elim
  | normal =>
    simp only [beginC] at h1
    split at h1
    · rename_i tm1 ps1 asg1 body1 e1
      obtain ⟨r1, p1, p2, p3, p4, p5, p6, p7, p8, i2⟩ := i1.loopTurn (rd' := false) (pd' := none) e1 (hBb i1)
      refine ⟨_, run_beginRound p1 p2, ?_⟩
      have hw : ({ r1 with state := .busy } : Loop) = { r1 with state := (if false = true then .ready else if (none : Option Code).isSome then .done else .busy), pending := none } := by
        simp [← p3]
      rw [hw]
      refine wpIn_mono (F := κ'.F) (h1 κ' a1 _ ⟨Φ1, B1, au1, i2⟩) ?_
      rintro e a2 w2 ⟨e2, s2, rfl, h2, Φ2, B2, au2, i3⟩
      unfold roundEndK at h2
      split at h2
      · rename_i tm2 ps2 asg2 body2 ehp
        -- the round's end, whatever the way
        have fin : ∀ (j : Option Code) (rd' : Bool), (rd' = j.isNone) → K (.d (.bool rd')) (s2.hp.set id (.loop rd' j tm2 ps2 asg2 body2)) →
            ∃ v w', (Instr.endRound b j).run P w2 = .ok v w' ∧ ∃ v' r hp', Ending.returned v = .returned v' ∧ K r hp' ∧ Rel (Ctx.at_ Φ B au w) ⟨[r], hp', hp.length⟩ ⟨#[v'], []⟩ w' := by
          intro j rd' hrd hK
          obtain ⟨r2, t1, t2, t3, t4, t5, t6, t7, t8, i4⟩ := i3.loopTurn (rd' := rd') (pd' := j) ehp (hBb i3)
          refine ⟨_, _, run_endRound t1, .bool rd', .d (.bool rd'), _, by rw [hrd], hK, Φ2, B2, fun x => match au2 x with | some (.slot _ _, _) => none | x => x, ?_⟩
          have hst : ({ r2 with state := if j.isNone then .ready else .done, pending := j } : Loop) = { r2 with state := (if rd' then .ready else if j.isSome then .done else .busy), pending := j } := by
            subst hrd; cases j <;> rfl
          rw [hst]
          have hns : ∀ b h0 st, au2 b = some (h0, st) → (∀ i j, h0 ≠ .slot i j) → (match au2 b with | some (.slot _ _, _) => none | x => x) = some (h0, st) := by
            intro b h0 st e hn
            rw [e]
            cases h0 with
            | slot i j => exact absurd rfl (hn i j)
            | _ => rfl
          have hns' : ∀ b h0 st, (match au2 b with | some (.slot _ _, _) => none | x => x) = some (h0, st) → au2 b = some (h0, st) := by
            intro b h0 st e
            split at e
            · cases e
            · exact e
          refine { phi := i4.phi, phia := fun lb b o v h0 st hp e => i4.phia _ b o v h0 st hp (hns' b h0 st e), auw := fun b h0 st e => i4.auw b h0 st (hns' b h0 st e), size := i4.size, keep := i4.keep, pre := i4.pre, lePhi := i4.lePhi, tl := rfl, tm := fun i V u hV hu => ?_, hl := i4.hl, nb := ?_, hp := fun id' o' b' ho hb' => ?_, df := ⟨[], rfl, List.nodup_nil, by simp⟩, rd := fun l hl => (by cases hl), lp := i4.lp, src := i4.src, wo := i4.wo }
          · cases i with
            | succ i => simp at hV
            | zero => simp at hV hu; subst hV; subst hu; exact ⟨.d (.bool _), trivial⟩
          · have e1 := hi.nb; have e4 := i4.pre.length_le; have e5 := i4.hl; have e6 := hi.hl
            simp only [κ', Ctx.at_] at e1 e4 ⊢
            simp only at e5 e6
            refine ⟨by omega, ?_⟩
            rw [e5, e6]; exact e4
          · exact (i4.hp id' o' b' ho hb').mono (CM.le_refl _) (fun _ _ h => h) (fun e => ⟨hns _ _ _ e (by simp), rfl⟩) (fun j b st e => ⟨hns _ _ _ e (by simp), rfl⟩)
        cases e2 with
        | normal => exact fin none true rfl h2
        | ret => exact fin (some .ret) false rfl h2
        | exit i => exact fin (some (.exit i)) false rfl h2
        | goto i => exact fin (some (.goto i)) false rfl h2
      · exact h2.elim
    · exact h1.elim

end
end Go.Idl
end
section
namespace Go.Idl

/-! ### What an operation reads and writes -/
def tmpOf : Operand → Option Nat
  | .tmp t => some t
  | _ => none

def opUses (ops : List Oper) (o : Oper) : List Nat := o.op.operands.toList.filterMap tmpOf ++ (match o.guard with | some (j, _) => ((ops[j]?).bind (·.dst)).toList | none => [])

def arg0 (o : Oper) : List Nat := match o.op with
  | .call c => (match c.callee, c.args.toList with
    | .builtin .append, .tmp x :: _ => [x]
    | _, _ => [])
  | _ => []

def opWrites (o : Oper) : List Nat := o.dst.toList ++ arg0 o

def isAlloc (o : Oper) : Bool := match o.op with | .alloc _ | .box _ _ => true | _ => false

/-- the mask of what comes before an operation, whatever is drawn -/
def maskOf (o : Oper) (acc : List Nat) : Nat := (o.after.toList.filter (Region.binds .any)).foldl (fun m e => Nat.lor (Nat.lor m (Nat.shiftLeft 1 e.on)) (acc.getD e.on 0)) 0
def predsL : List Oper → List Nat → List Nat
  | [], acc => acc
  | o :: r, acc => predsL r (acc ++ [maskOf o acc])

def maskL (l : List Nat) : Nat := l.foldl (fun m t => Nat.lor m (Nat.shiftLeft 1 t)) 0

def conflictM (u w : Nat) (al : Bool) (u' w' : Nat) (al' : Bool) : Bool := !(Nat.beq (Nat.land w (Nat.lor u' w')) 0) || !(Nat.beq (Nat.land w' u) 0) || (al && al')
def conflict (ops : List Oper) (o p : Oper) : Bool := conflictM (maskL (opUses ops o)) (maskL (opWrites o)) (isAlloc o) (maskL (opUses ops p)) (maskL (opWrites p)) (isAlloc p)

/-- a number is reckoned before it is used -/
def forceN {α : Type} (n : Nat) (k : Nat → α) : α := match n with
  | 0 => k 0
  | m + 1 => k (m + 1)
theorem forceN_eq {α : Type} (n : Nat) (k : Nat → α) : forceN n k = k n := by cases n <;> rfl

structure Seen where
  u : Nat
  w : Nat
  al : Bool

def checkPrev (m0 i mask u w : Nat) (al : Bool) : Nat → List Seen → Bool
  | _, [] => true
  | j, p :: r => (Nat.testBit mask j || (decide (i < m0) && !conflictM u w al p.u p.w p.al)) && checkPrev m0 i mask u w al (j + 1) r

def drawGo (all : List Oper) (m0 : Nat) : Nat → List Oper → List Seen → List Nat → Bool
  | _, [], _, _ => true
  | i, o :: r, prev, acc => forceN (maskOf o acc) fun mask => forceN (maskL (opUses all o)) fun u => forceN (maskL (opWrites o)) fun w =>
      (o.after.toList.all fun e => !Region.binds .any e || decide (e.on < i)) && checkPrev m0 i mask u w (isAlloc o) 0 prev && drawGo all m0 (i + 1) r (prev ++ [⟨u, w, isAlloc o⟩]) (acc ++ [mask])

def drawOK (m : Nat) (ops : List Oper) : Bool := drawGo ops m 0 ops [] []

theorem maskL_mem {x : Nat} : ∀ {l : List Nat} {m0 : Nat}, Nat.testBit (l.foldl (fun m t => Nat.lor m (Nat.shiftLeft 1 t)) m0) x = true ↔ Nat.testBit m0 x = true ∨ x ∈ l
  | [], m0 => by simp
  | t :: l, m0 => by
    simp only [List.foldl_cons]
    rw [maskL_mem (l := l)]
    have : Nat.testBit (Nat.lor m0 (Nat.shiftLeft 1 t)) x = (Nat.testBit m0 x || decide (x = t)) := by
      show Nat.testBit (m0 ||| 1 <<< t) x = _
      rw [Nat.testBit_or, Nat.testBit_shiftLeft]
      congr 1
      rw [Bool.eq_iff_iff]
      simp only [Bool.and_eq_true, decide_eq_true_eq]
      constructor
      · rintro ⟨h1, h2⟩
        have : x - t = 0 := by
          rcases Nat.eq_zero_or_pos (x - t) with h | h
          · exact h
          · exfalso
            obtain ⟨k, hk⟩ : ∃ k, x - t = k + 1 := ⟨x - t - 1, by omega⟩
            rw [hk, Nat.testBit_succ] at h2; simp at h2
        omega
      · rintro rfl; simp
    rw [this]; simp [or_assoc]

theorem maskL_iff {x : Nat} {l : List Nat} : Nat.testBit (maskL l) x = true ↔ x ∈ l := by
  unfold maskL; rw [maskL_mem]; simp

theorem conflict_of_meet {ops : List Oper} {o p : Oper} {x : Nat} (hx : x ∈ opWrites p) (hy : x ∈ opUses ops o) : conflict ops o p = true := by
  unfold conflict conflictM
  have : Nat.beq (Nat.land (maskL (opWrites p)) (maskL (opUses ops o))) 0 = false := by
    rw [Bool.eq_false_iff]
    intro h
    have h0 : (maskL (opWrites p)) &&& (maskL (opUses ops o)) = 0 := Nat.eq_of_beq_eq_true h
    have : Nat.testBit ((maskL (opWrites p)) &&& (maskL (opUses ops o))) x = true := by rw [Nat.testBit_and, maskL_iff.2 hx, maskL_iff.2 hy]; rfl
    rw [h0] at this; simp at this
  rw [this]; simp

theorem conflict_of_alloc {ops : List Oper} {o p : Oper} (h : isAlloc o = true) (h' : isAlloc p = true) : conflict ops o p = true := by
  unfold conflict conflictM; simp [h, h']

theorem conflict_false {ops : List Oper} {o p : Oper} (h : conflict ops o p = false) : (∀ x ∈ opWrites o, x ∉ opUses ops p ∧ x ∉ opWrites p) ∧ (isAlloc o = false ∨ isAlloc p = false) := by
  unfold conflict conflictM at h
  simp only [Bool.or_eq_false_iff, Bool.and_eq_false_iff, Bool.not_eq_false'] at h
  refine ⟨fun x hx => ?_, h.2⟩
  have h0 : (maskL (opWrites o)) &&& ((maskL (opUses ops p)) ||| (maskL (opWrites p))) = 0 := Nat.eq_of_beq_eq_true h.1.1
  have key : Nat.testBit ((maskL (opWrites o)) &&& ((maskL (opUses ops p)) ||| (maskL (opWrites p)))) x = false := by rw [h0]; simp
  rw [Nat.testBit_and, maskL_iff.2 hx, Bool.true_and, Nat.testBit_or, Bool.or_eq_false_iff] at key
  refine ⟨fun hh => ?_, fun hh => ?_⟩
  · rw [maskL_iff.2 hh] at key; cases key.1
  · rw [maskL_iff.2 hh] at key; cases key.2

theorem predsL_get : ∀ (r : List Oper) (acc : List Nat) (k : Nat), k < acc.length → (predsL r acc).getD k 0 = acc.getD k 0
  | [], _, _, _ => rfl
  | o :: r, acc, k, h => by
    unfold predsL
    rw [predsL_get r _ k (by simp; omega), List.getD, List.getD, List.getElem?_append_left h]

theorem checkPrev_spec {m0 i mask u w : Nat} {al : Bool} : ∀ {l : List Seen} {j : Nat}, checkPrev m0 i mask u w al j l = true → ∀ k p, l[k]? = some p → Nat.testBit mask (j + k) = true ∨ (i < m0 ∧ conflictM u w al p.u p.w p.al = false)
  | [], _, _, k, p, hp => by simp at hp
  | q :: r, j, h, k, p, hp => by
    simp only [checkPrev, Bool.and_eq_true, Bool.or_eq_true, decide_eq_true_eq, Bool.not_eq_true'] at h
    cases k with
    | zero => simp at hp; subst hp; exact h.1
    | succ k =>
      have := checkPrev_spec h.2 k p (by simpa using hp)
      rw [show j + (k + 1) = j + 1 + k by omega]; exact this

theorem drawGo_spec {all : List Oper} {m0 : Nat} : ∀ (rest : List Oper) (i : Nat) (prev : List Seen) (acc : List Nat), drawGo all m0 i rest prev acc = true → rest = all.drop i → acc.length = i → prev = (all.take i).map (fun o => ⟨maskL (opUses all o), maskL (opWrites o), isAlloc o⟩) →
    ∀ k o, i ≤ k → all[k]? = some o → (∀ e ∈ o.after, Region.binds .any e = true → e.on < k) ∧ ∀ j p, j < k → all[j]? = some p → Nat.testBit ((predsL rest acc).getD k 0) j = true ∨ (k < m0 ∧ conflict all o p = false)
  | [], i, prev, acc, _, hr, _, _, k, o, hk, ho => by
    have hlt := (List.getElem?_eq_some_iff.1 ho).1
    have := congrArg List.length hr
    simp at this; omega
  | q :: r, i, prev, acc, h, hr, ha, hp, k, o, hk, ho => by
    simp only [drawGo, forceN_eq, Bool.and_eq_true] at h
    obtain ⟨⟨h1, h2⟩, h3⟩ := h
    have hq : all[i]? = some q := by have := congrArg (·[0]?) hr; simpa using this.symm
    have hil : i < all.length := (List.getElem?_eq_some_iff.1 hq).1
    rcases Nat.lt_or_eq_of_le hk with hlt | rfl
    · have := drawGo_spec r (i + 1) _ _ h3 (by have := congrArg List.tail hr; simpa [List.tail_drop] using this) (by simp [ha]) (by rw [hp, List.take_succ, hq]; simp) k o hlt ho
      simpa only [predsL] using this
    · rw [hq] at ho; injection ho with ho; subst ho
      refine ⟨fun e he hb => ?_, fun j p hj hpj => ?_⟩
      · rw [List.all_eq_true] at h1
        have := h1 e (by simpa using he)
        simpa [hb] using this
      · have hpl : prev[j]? = some ⟨maskL (opUses all p), maskL (opWrites p), isAlloc p⟩ := by
          rw [hp, List.getElem?_map, List.getElem?_take_of_lt hj, hpj]; rfl
        have := checkPrev_spec h2 j _ hpl
        rw [Nat.zero_add] at this
        have hmask : (predsL (q :: r) acc).getD i 0 = maskOf q acc := by
          unfold predsL
          rw [predsL_get r _ i (by simp [ha]), List.getD, List.getElem?_append_right (by omega)]
          simp [ha]
        rw [hmask]; exact this

/-! ### The free part -/
structure Eff where
  ws : List (Nat × V)
  push : Option IObj

def writeTm : List V → List (Nat × V) → List V
  | tm, [] => tm
  | tm, (i, v) :: r => writeTm (tm.set i v) r

def Eff.app (e : Eff) (s : St) : St := { tm := writeTm s.tm e.ws, hp := s.hp ++ e.push.toList, nb := s.nb }

/-- a call in the free part -/
def freeCall (P : Program) (c : Call) (s : St) (dst : Option Nat) (K : St → Prop) : Prop :=
  match c.callee with
  | .value g => match ev P 0 s g with
    | .fn (.func f) caps => hasBody P f = true ∧ caps.all V.bare = true ∧ ∃ ds r, allD (argVs P s c ++ caps) = some ds ∧ r.data = true ∧ PCall P f ds r ∧ K (s.put dst r)
    | _ => False
  | .builtin .len => (match argVs P s c with
    | [.map _] => False
    | _ => callK0 P c s dst K)
  | .builtin .append => callK0 P c s dst K
  | .builtin .min => callK0 P c s dst K
  | .builtin .max => callK0 P c s dst K
  | _ => False

/-- make, where what is made is a value -/
def makeOwnK (P : Program) (t : TypeId) (l c : Operand) (s : St) (dst : Option Nat) (K : St → Prop) : Prop :=
  match elemTy P t, elI P t, ev P 0 s l, ev P 0 s c with
  | some e, some (z, by_), .d (.int _ n), .d (.int _ m) => match (zeroCs P e).bind (ofCells P e) with
    | some zd => n = m ∧ 0 ≤ n ∧ by_ * n ≤ 281474976710656 ∧ n ≤ 9223372036854775807 ∧ dst.isSome = true ∧ zd.flat.length = z ∧ 0 < z ∧ K (s.put dst (.own z (List.replicate n.toNat zd)))
    | none => False
  | _, _, _, _ => False

/-- one operation of the free part; base: the objects that lay there -/
def freeStep (P : Program) (base : Nat) (o : Oper) (s : St) (K : St → Prop) : Prop :=
  match o.op with
  | .move x | .assign x => K (s.put o.dst (ev P o.type s x).cp)
  | .load t a => match ev P 0 s a with
    | .ptr id _ => id < base ∧ loadK P t (ev P 0 s a) s o.dst false K
    | .aptr id _ _ _ => id < base ∧ loadK P t (ev P 0 s a) s o.dst false K
    | v => loadK P t v s o.dst false K
  | .extract x ix => match ev P 0 s x with
    | .tup vs => match vs[ix]? with
      | some v => v.isTup = false ∧ K (s.put o.dst v.cp)
      | none => False
    | _ => False
  | .call c => freeCall P c s o.dst K
  | .indexAddr t x _ => match (ev P t s x).cp with
    | .ref id _ _ _ _ => id < base ∧ stepK P o [] s K
    | _ => stepK P o [] s K
  | .lookup t x _ _ => match ev P t s x with
    | .map id => id < base ∧ stepK P o [] s K
    | _ => False
  | .binOp _ _ _ y _ => isNilC y = false ∧ stepK P o [] s K
  | .makeSlice t l c => makeOwnK P t l c s o.dst K
  | .store .. | .mapUpdate .. | .insert .. | .makeMap .. | .range .. | .next .. => False
  | _ => stepK P o [] s K

def freeOp (P : Program) (base : Nat) (all : List Oper) (o : Oper) (s : St) (K : St → Prop) : Prop :=
  match o.guard with
  | none => freeStep P base o s K
  | some (j, want) => match (all[j]?).bind (·.dst) with
    | some t => match s.tm[t]? with
      | some (.d (.bool b)) => (b = want → freeStep P base o s K) ∧ (b = !want → K (s.put o.dst (.tup [])))
      | some (.tup []) => K (s.put o.dst (.tup []))
      | _ => False
    | none => False

def freeK (P : Program) (base : Nat) (all : List Oper) : List Oper → St → (St → Prop) → Prop
  | [], s, K => K s
  | o :: r, s, K => freeOp P base all o s fun s' => freeK P base all r s' K

/-! ### The states on the way -/
theorem writeTm_length : ∀ (ws : List (Nat × V)) (tm : List V), (writeTm tm ws).length = tm.length
  | [], _ => rfl
  | (i, v) :: r, tm => by simp [writeTm, writeTm_length r]

theorem writeTm_get_not : ∀ (ws : List (Nat × V)) (tm : List V) (x : Nat), (∀ p ∈ ws, p.1 ≠ x) → (writeTm tm ws)[x]? = tm[x]?
  | [], _, _, _ => rfl
  | (i, v) :: r, tm, x, h => by
    simp only [writeTm]
    rw [writeTm_get_not r _ x (fun p hp => h p (by simp [hp])), List.getElem?_set, if_neg (h (i, v) (by simp))]

theorem writeTm_get_congr : ∀ (ws : List (Nat × V)) (tm tm' : List V) (x : Nat), tm.length = tm'.length → ((∃ p ∈ ws, p.1 = x) ∨ tm[x]? = tm'[x]?) → (writeTm tm ws)[x]? = (writeTm tm' ws)[x]?
  | [], tm, tm', x, hl, h => by
    rcases h with ⟨p, hp, _⟩ | h
    · cases hp
    · exact h
  | (i, v) :: r, tm, tm', x, hl, h => by
    simp only [writeTm]
    refine writeTm_get_congr r _ _ x (by simpa using hl) ?_
    by_cases hr : ∃ p ∈ r, p.1 = x
    · exact .inl hr
    · right
      simp only [List.getElem?_set]
      by_cases e : i = x
      · subst e; simp [hl]
      · simp only [e, if_false]
        rcases h with ⟨p, hp, hx⟩ | h
        · rcases List.mem_cons.1 hp with rfl | hp
          · exact absurd hx e
          · exact absurd ⟨p, hp, hx⟩ hr
        · exact h

/-- the state in which just the operations of L are done -/
def stL (L : Nat → Bool) : Nat → List Eff → St → St
  | _, [], s => s
  | i, e :: es, s => stL L (i + 1) es (if L i then e.app s else s)

theorem stL_len (L : Nat → Bool) : ∀ (i : Nat) (es : List Eff) (s : St), (stL L i es s).tm.length = s.tm.length ∧ (stL L i es s).nb = s.nb
  | _, [], _ => ⟨rfl, rfl⟩
  | i, e :: es, s => by
    simp only [stL]
    obtain ⟨h1, h2⟩ := stL_len L (i + 1) es (if L i then e.app s else s)
    rw [h1, h2]
    split
    · exact ⟨writeTm_length _ _, rfl⟩
    · exact ⟨rfl, rfl⟩

/-- A slot's value hangs on those alone that write it. -/
theorem stL_get (L L' : Nat → Bool) (x : Nat) : ∀ (i : Nat) (es : List Eff) (s s' : St), s.tm.length = s'.tm.length → s.tm[x]? = s'.tm[x]? → (∀ k e, es[k]? = some e → (∃ p ∈ e.ws, p.1 = x) → L (i + k) = L' (i + k)) →
    (stL L i es s).tm[x]? = (stL L' i es s').tm[x]?
  | _, [], _, _, _, h, _ => h
  | i, e :: es, s, s', hl, h, hw => by
    simp only [stL]
    refine stL_get L L' x (i + 1) es _ _ ?_ ?_ fun k e' he hp => by
      have := hw (k + 1) e' (by simpa using he) hp
      rw [show i + 1 + k = i + (k + 1) by omega]; exact this
    · split <;> split <;> simp [Eff.app, writeTm_length, hl]
    · by_cases hx : ∃ p ∈ e.ws, p.1 = x
      · have := hw 0 e rfl hx
        simp only [Nat.add_zero] at this
        rw [this]
        split
        · exact writeTm_get_congr e.ws _ _ x hl (.inl hx)
        · exact h
      · have hn : ∀ p ∈ e.ws, p.1 ≠ x := fun p hp he => hx ⟨p, hp, he⟩
        have e1 : ∀ s : St, (e.app s).tm[x]? = s.tm[x]? := fun s => writeTm_get_not e.ws s.tm x hn
        split <;> split <;> (try simp only [e1]) <;> exact h

theorem stL_hp (L : Nat → Bool) : ∀ (i : Nat) (es : List Eff) (s : St), ∃ t, (stL L i es s).hp = s.hp ++ t
  | _, [], s => ⟨[], by simp [stL]⟩
  | i, e :: es, s => by
    simp only [stL]
    obtain ⟨t, ht⟩ := stL_hp L (i + 1) es (if L i then e.app s else s)
    rw [ht]
    split
    · exact ⟨e.push.toList ++ t, by simp [Eff.app]⟩
    · exact ⟨t, rfl⟩

/-- only one of them lays an object -/
theorem stL_hp_none (L : Nat → Bool) : ∀ (i : Nat) (es : List Eff) (s : St), (∀ k e, es[k]? = some e → L (i + k) = true → e.push = none) → (stL L i es s).hp = s.hp
  | _, [], s, _ => rfl
  | i, e :: es, s, h => by
    simp only [stL]
    rw [stL_hp_none L (i + 1) es _ fun k e' he hL => h (k + 1) e' (by simpa using he) (by rw [show i + (k + 1) = i + 1 + k by omega]; exact hL)]
    split
    · rename_i hL
      have := h 0 e rfl (by simpa using hL)
      simp [Eff.app, this]
    · rfl

theorem app_comm {e f : Eff} {s : St} (hw : ∀ p ∈ e.ws, ∀ q ∈ f.ws, p.1 ≠ q.1) (hp : e.push = none ∨ f.push = none) : e.app (f.app s) = f.app (e.app s) := by
  have htm : writeTm (writeTm s.tm f.ws) e.ws = writeTm (writeTm s.tm e.ws) f.ws := by
    apply List.ext_getElem?
    intro x
    by_cases hx : ∃ p ∈ e.ws, p.1 = x
    · obtain ⟨p, hpm, rfl⟩ := hx
      rw [writeTm_get_not f.ws (writeTm s.tm e.ws) p.1 (fun q hq he => hw p hpm q hq he.symm)]
      exact writeTm_get_congr e.ws _ _ _ (writeTm_length _ _) (.inl ⟨p, hpm, rfl⟩)
    · have hn : ∀ p ∈ e.ws, p.1 ≠ x := fun p hp he => hx ⟨p, hp, he⟩
      rw [writeTm_get_not e.ws _ x hn]
      refine writeTm_get_congr f.ws _ _ _ (writeTm_length _ _).symm ?_
      right; rw [writeTm_get_not e.ws _ x hn]
  unfold Eff.app
  simp only [htm, St.mk.injEq, true_and, and_true]
  rcases hp with h | h <;> rw [h] <;> simp

/-- One more is done. -/
theorem stL_insert (L : Nat → Bool) (i0 : Nat) (e0 : Eff) : ∀ (i : Nat) (es : List Eff) (s : St), (∀ k, es[k]? = some e0 → i + k = i0 → True) → (i ≤ i0) → es[i0 - i]? = some e0 → L i0 = false →
    (∀ k f, es[k]? = some f → i0 < i + k → L (i + k) = true → (∀ p ∈ e0.ws, ∀ q ∈ f.ws, p.1 ≠ q.1) ∧ (e0.push = none ∨ f.push = none)) →
    e0.app (stL L i es s) = stL (fun j => L j || j == i0) i es s
  | i, [], s, _, hi, he, hL, _ => by simp at he
  | i, e :: es, s, h, hi, he, hL, hc => by
    by_cases hii : i = i0
    · subst hii
      simp at he; subst he
      simp only [stL, hL, Bool.false_eq_true, if_false, Bool.false_or, beq_self_eq_true, if_true]
      -- it moves to the left of all that come later
      have key : ∀ (es : List Eff) (i' : Nat) (s : St), (∀ k f, es[k]? = some f → L (i' + k) = true → (∀ p ∈ e.ws, ∀ q ∈ f.ws, p.1 ≠ q.1) ∧ (e.push = none ∨ f.push = none)) → i < i' →
          e.app (stL L i' es s) = stL (fun j => L j || j == i) i' es (e.app s) := by
        intro es
        induction es with
        | nil => intro i' s _ _; rfl
        | cons f es ih =>
          intro i' s hcc hlt
          simp only [stL]
          rw [ih (i' + 1) _ (fun k g hg hLk => hcc (k + 1) g (by simpa using hg) (by rw [show i' + (k + 1) = i' + 1 + k by omega]; exact hLk)) (by omega)]
          have hne : (i' == i) = false := by simp; omega
          simp only [hne, Bool.or_false]
          cases hLi : L i' with
          | true =>
            simp only [if_true]
            obtain ⟨c1, c2⟩ := hcc 0 f rfl (by simpa using hLi)
            rw [app_comm c1 c2]
          | false => simp
      exact key es (i + 1) s (fun k f hf hLk => hc (k + 1) f (by simpa using hf) (by omega) (by rw [show i + (k + 1) = i + 1 + k by omega]; exact hLk)) (by omega)
    · simp only [stL]
      have hne : (i == i0) = false := by simpa using hii
      simp only [hne, Bool.or_false]
      refine stL_insert L i0 e0 (i + 1) es _ (fun _ _ _ => trivial) (by omega) ?_ hL fun k f hf hlt hLk => hc (k + 1) f (by simpa using hf) (by omega) (by rw [show i + (k + 1) = i + 1 + k by omega]; exact hLk)
      obtain ⟨d, hd⟩ : ∃ d, i0 - i = d + 1 := ⟨i0 - i - 1, by omega⟩
      rw [hd] at he
      rw [show i0 - (i + 1) = d by omega]; simpa using he

end Go.Idl
end
section
namespace Go.Idl

/-- what append leaves of its first argument -/
def argW (x : Operand) (v : V) : List (Nat × V) := match x with
  | .tmp i => [(i, v)]
  | _ => []

/-- a value goes to its place -/
def effPut (dst : Option Nat) (v : V) : Eff := { ws := (dst.toList).map fun d => (d, v), push := none }

theorem effPut_app (dst : Option Nat) (v : V) (s : St) : (effPut dst v).app s = s.put dst v := by
  cases dst <;> simp [effPut, Eff.app, St.put, writeTm]

/-- what an operation reads of a state is there in another one -/
structure Agree (all : List Oper) (base : Nat) (o : Oper) (s s' : St) : Prop where
  tm : ∀ x ∈ opUses all o, s'.tm[x]? = s.tm[x]?
  hp : ∀ id, id < base → s'.hp[id]? = s.hp[id]?
  al : isAlloc o = true → s'.hp = s.hp

section
variable {P : Program} {base : Nat} {all : List Oper} {o : Oper} {s s' : St} {K : St → Prop}

theorem Agree.ev (h : Agree all base o s s') {x : Operand} (hx : x ∈ o.op.operands) (t : TypeId) : ev P t s' x = ev P t s x := by
  cases x with
  | tmp i =>
    have : i ∈ opUses all o := List.mem_append_left _ (List.mem_filterMap.2 ⟨.tmp i, by simpa using hx, rfl⟩)
    have := h.tm i this
    simp [Idl.ev, List.getD, this]
  | const v => rfl
  | «global» g => rfl
  | func f => rfl

theorem Agree.argVs (h : Agree all base o s s') {c : Call} (ho : o.op = .call c) : argVs P s' c = argVs P s c := by
  unfold Idl.argVs
  refine List.map_congr_left fun p hp => ?_
  obtain ⟨x, t⟩ := p
  have hx : x ∈ c.args := by have := (List.of_mem_zip hp).1; simpa using this
  simp only
  rw [h.ev (x := x) (by rw [ho]; simp only [Op.operands, Call.operands]; exact Array.mem_append.2 (.inr hx))]

/-- What is promised of a free operation. -/
def Local (P : Program) (base : Nat) (all : List Oper) (o : Oper) (s : St) (K : St → Prop) (step : St → (St → Prop) → Prop) : Prop :=
  ∃ e : Eff, K (e.app s) ∧ (∀ p ∈ e.ws, p.1 ∈ opWrites o) ∧ (isAlloc o = false → e.push = none) ∧ ∀ s', Agree all base o s s' → step s' (fun x => x = e.app s')

theorem local_put {v : V} {step : St → (St → Prop) → Prop} (hk : K (s.put o.dst v)) (h : ∀ s', Agree all base o s s' → step s' (fun x => x = s'.put o.dst v)) : Local P base all o s K step := by
  refine ⟨effPut o.dst v, by rw [effPut_app]; exact hk, fun p hp => ?_, fun _ => rfl, fun s' ha => ?_⟩
  · simp only [effPut, List.mem_map] at hp
    obtain ⟨d, hd, rfl⟩ := hp
    exact List.mem_append_left _ hd
  · have := h s' ha
    simpa only [effPut_app] using this

theorem binK_fun {op : BinOp} {t : TypeId} {x y : V} {k : V → Prop} (h : binK P op t x y k) : ∃ v, k v ∧ ∀ k' : V → Prop, k' v → binK P op t x y k' := by
  unfold binK at h
  split at h
  · split at h
    · obtain ⟨a, b, c⟩ := h; exact ⟨_, c, fun k' hk' => by simp only [binK]; exact ⟨a, b, hk'⟩⟩
    · obtain ⟨a, b, c⟩ := h; exact ⟨_, c, fun k' hk' => by simp only [binK]; exact ⟨a, b, hk'⟩⟩
    · obtain ⟨a, c⟩ := h; exact ⟨_, c, fun k' hk' => by simp only [binK]; exact ⟨a, hk'⟩⟩
    · obtain ⟨a, c⟩ := h; exact ⟨_, c, fun k' hk' => by simp only [binK]; exact ⟨a, hk'⟩⟩
    · rename_i n1 n2 n3 n4
      split at h
      · rename_i r hr
        obtain ⟨a, c⟩ := h
        refine ⟨_, c, fun k' hk' => ?_⟩
        cases op <;> first | exact absurd rfl n1 | exact absurd rfl n2 | exact absurd rfl n3 | exact absurd rfl n4 | (simp only [binK, hr]; exact ⟨a, hk'⟩)
      · exact h.elim
  · split at h
    · obtain ⟨a, c⟩ := h; exact ⟨_, c, fun k' hk' => by simp only [binK]; exact ⟨a, hk'⟩⟩
    · obtain ⟨a, c⟩ := h; exact ⟨_, c, fun k' hk' => by simp only [binK]; exact ⟨a, hk'⟩⟩
    · exact h.elim
  · split at h
    · exact ⟨_, h, fun k' hk' => by simp only [binK]; exact hk'⟩
    · exact ⟨_, h, fun k' hk' => by simp only [binK]; exact hk'⟩
    · exact ⟨_, h, fun k' hk' => by simp only [binK]; exact hk'⟩
    · obtain ⟨a, c⟩ := h; exact ⟨_, c, fun k' hk' => by simp only [binK]; exact ⟨a, hk'⟩⟩
    · exact h.elim
  · obtain ⟨a, b, h⟩ := h
    split at h
    · rename_i r hr; exact ⟨_, h, fun k' hk' => by simp only [binK, hr]; exact ⟨a, b, hk'⟩⟩
    · rename_i r hr; exact ⟨_, h, fun k' hk' => by simp only [binK, hr]; exact ⟨a, b, hk'⟩⟩
    · exact h.elim
  · rename_i n1 n2 n3 n4
    split at h
    · rename_i r' er
      obtain ⟨hp, h⟩ := h
      split at h
      · exact ⟨_, h, fun k' hk' => by
          unfold binK
          split
          · exact absurd rfl (n1 _ _ _ _ rfl)
          · exact absurd rfl (n2 _ _ rfl)
          · exact absurd rfl (n3 _ _ rfl)
          · exact absurd rfl (n4 _ _ rfl)
          · simp only [er]; exact ⟨hp, hk'⟩⟩
      · exact ⟨_, h, fun k' hk' => by
          unfold binK
          split
          · exact absurd rfl (n1 _ _ _ _ rfl)
          · exact absurd rfl (n2 _ _ rfl)
          · exact absurd rfl (n3 _ _ rfl)
          · exact absurd rfl (n4 _ _ rfl)
          · simp only [er]; exact ⟨hp, hk'⟩⟩
      · exact h.elim
    · exact h.elim

theorem Agree.sliceIx (h : Agree all base o s s') {d : Int} {x : Option Operand} (hx : ∀ y, x = some y → y ∈ o.op.operands) : sliceIx P s' d x = sliceIx P s d x := by
  cases x with
  | none => rfl
  | some y => simp only [Idl.sliceIx, h.ev (hx y rfl)]

theorem sliceK_fun {t : TypeId} {x : V} {lo hi mx : Option Operand} {k : V → Prop} (h : sliceK P t x s lo hi mx k) : ∃ v, k v ∧ ∀ k' : V → Prop, k' v → sliceK P t x s lo hi mx k' := by
  unfold sliceK at h
  split at h
  · rename_i z xs e
    split at h
    · rename_i l u m e1 e2 e3
      obtain ⟨a1, a2, a3, a4, a5, a6, c⟩ := h
      exact ⟨_, c, fun k' hk' => by unfold sliceK; simp only [e, e1, e2, e3]; exact ⟨a1, a2, a3, a4, a5, a6, hk'⟩⟩
    · exact h.elim
  · rename_i z e
    split at h
    · rename_i l u m e1 e2 e3
      obtain ⟨a1, a2, a3, a4, a5, c⟩ := h
      exact ⟨_, c, fun k' hk' => by unfold sliceK; simp only [e, e1, e2, e3]; exact ⟨a1, a2, a3, a4, a5, hk'⟩⟩
    · exact h.elim
  · rename_i b e
    split at h
    · rename_i l u e1 e2
      obtain ⟨a1, a2, a3, a4, c⟩ := h
      exact ⟨_, c, fun k' hk' => by unfold sliceK; simp only [e, e1, e2]; exact ⟨a1, a2, a3, a4, hk'⟩⟩
    · exact h.elim
  · rename_i id z off len cap e
    split at h
    · rename_i l u m e1 e2 e3
      obtain ⟨a1, a2, a3, a4, a5, a6, c⟩ := h
      exact ⟨_, c, fun k' hk' => by unfold sliceK; simp only [e, e1, e2, e3]; exact ⟨a1, a2, a3, a4, a5, a6, hk'⟩⟩
    · exact h.elim
  · exact h.elim

theorem sliceK_congr (h : Agree all base o s s') {t : TypeId} {x : V} {lo hi mx : Option Operand} {k : V → Prop} (hl : ∀ y, lo = some y → y ∈ o.op.operands) (hh : ∀ y, hi = some y → y ∈ o.op.operands) (hm : ∀ y, mx = some y → y ∈ o.op.operands) :
    sliceK P t x s' lo hi mx k = sliceK P t x s lo hi mx k := by
  unfold sliceK
  simp only [h.sliceIx hl, h.sliceIx hh, h.sliceIx hm]

/-- where a load looks -/
def sameAt (a : V) (s s' : St) : Prop := match a with
  | .ptr id _ | .aptr id _ _ _ => s'.hp[id]? = s.hp[id]?
  | _ => True

/-- loading, where nothing is taken away -/
theorem loadK_fun {t : TypeId} {a : V} {dst : Option Nat} (h : loadK P t a s dst false K) :
    ∃ v, K (s.put dst v) ∧ ∀ (s' : St) (K' : St → Prop), sameAt a s s' → K' (s'.put dst v) → loadK P t a s' dst false K' := by
  cases a with
  | lptr l z xs i j =>
    simp only [loadK] at h
    split at h
    · rename_i d e; exact ⟨_, h, fun s' K' _ hk' => by simp only [loadK, e]; exact hk'⟩
    · exact h.elim
  | ptr id off =>
    simp only [loadK] at h
    split at h
    · rename_i cs e
      split at h
      · rename_i ek
        obtain ⟨h1, h3, h2⟩ := h
        exact ⟨_, h2, fun s' K' hs hk' => by simp only [sameAt] at hs; simp only [loadK, hs, e, ek]; exact ⟨h1, h3, hk'⟩⟩
      · rename_i ek
        split at h
        · rename_i v ev
          obtain ⟨h1, h2⟩ := h
          simp only [Bool.false_eq_true, if_false] at h2
          exact ⟨_, h2, fun s' K' hs hk' => by simp only [sameAt] at hs; simp only [loadK, hs, e, ek, ev, Bool.false_eq_true, if_false]; exact ⟨h1, hk'⟩⟩
        · exact h.elim
      · exact h.elim
    · exact h.elim
  | aptr id z i j =>
    simp only [loadK] at h
    split at h
    · rename_i z' xs e
      split at h
      · rename_i d ed
        obtain ⟨h1, h2⟩ := h
        exact ⟨_, h2, fun s' K' hs hk' => by simp only [sameAt] at hs; simp only [loadK, hs, e, ed]; exact ⟨h1, hk'⟩⟩
      · exact h.elim
    · exact h.elim
  | _ => exact h.elim

/-- **An operation of the free part does the same wherever what it reads is there.** -/
theorem freeStep_local (hk : freeStep P base o s K) : Local P base all o s K (freeStep P base o) := by
  cases ho : o.op with
  | move x =>
    simp only [freeStep, ho] at hk
    exact local_put hk fun s' ha => by simp only [freeStep, ho, ha.ev (x := x) (by rw [ho]; simp [Op.operands])]
  | «assign» x =>
    simp only [freeStep, ho] at hk
    exact local_put hk fun s' ha => by simp only [freeStep, ho, ha.ev (x := x) (by rw [ho]; simp [Op.operands])]
  | pick c x y =>
    simp only [freeStep, ho, stepK] at hk
    split at hk
    · rename_i t e
      have h1 : ∀ s', Agree all base o s s' → ev P 0 s' c = .d (.bool t) := fun s' ha => by rw [ha.ev (by rw [ho]; simp [Op.operands]), e]
      cases t with
      | true => exact local_put (hk.1 rfl) fun s' ha => by simp [freeStep, ho, stepK, h1 s' ha, ha.ev (x := x) (by rw [ho]; simp [Op.operands])]
      | false => exact local_put (hk.2 rfl) fun s' ha => by simp [freeStep, ho, stepK, h1 s' ha, ha.ev (x := y) (by rw [ho]; simp [Op.operands])]
    · exact hk.elim
  | alloc t =>
    simp only [freeStep, ho, stepK] at hk
    split at hk
    · rename_i cs e
      refine ⟨{ ws := (o.dst.toList).map fun d => (d, .ptr s.hp.length 0), push := some (.var cs) }, ?_, fun p hp => ?_, fun hh => by simp [isAlloc, ho] at hh, fun s' ha => ?_⟩
      · cases hd : o.dst <;> simpa [Eff.app, St.put, writeTm, hd] using hk
      · simp only [List.mem_map] at hp
        obtain ⟨d, hd, rfl⟩ := hp
        exact List.mem_append_left _ hd
      · have hh := ha.al (by simp [isAlloc, ho])
        cases hd : o.dst <;> simp [freeStep, ho, stepK, e, Eff.app, St.put, writeTm, hd, hh]
    · exact hk.elim
  | box t x =>
    simp only [freeStep, ho, stepK] at hk
    obtain ⟨hn, hk⟩ := hk
    refine ⟨{ ws := (o.dst.toList).map fun d => (d, .ptr s.hp.length 0), push := some (.var (ev P t s x).cp.flat) }, ?_, fun p hp => ?_, fun hh => by simp [isAlloc, ho] at hh, fun s' ha => ?_⟩
    · cases hd : o.dst <;> simpa [Eff.app, St.put, writeTm, hd] using hk
    · simp only [List.mem_map] at hp
      obtain ⟨d, hd, rfl⟩ := hp
      exact List.mem_append_left _ hd
    · have hh := ha.al (by simp [isAlloc, ho])
      have he := ha.ev (P := P) (x := x) (by rw [ho]; simp [Op.operands]) t
      cases hd : o.dst <;> simp [freeStep, ho, stepK, he, hn, Eff.app, St.put, writeTm, hd, hh]
  | load t x =>
    simp only [freeStep, ho] at hk
    have he : ∀ s', Agree all base o s s' → ev P 0 s' x = ev P 0 s x := fun s' ha => ha.ev (by rw [ho]; simp [Op.operands]) 0
    cases hx : ev P 0 s x with
    | ptr id off =>
      rw [hx] at hk
      obtain ⟨hb, hk⟩ := hk
      obtain ⟨v, h1, h2⟩ := loadK_fun hk
      exact local_put h1 fun s' ha => by simp only [freeStep, ho, he s' ha, hx]; exact ⟨hb, h2 s' _ (ha.hp id hb) rfl⟩
    | aptr id z i j =>
      rw [hx] at hk
      obtain ⟨hb, hk⟩ := hk
      obtain ⟨v, h1, h2⟩ := loadK_fun hk
      exact local_put h1 fun s' ha => by simp only [freeStep, ho, he s' ha, hx]; exact ⟨hb, h2 s' _ (ha.hp id hb) rfl⟩
    | lptr l z xs i j =>
      rw [hx] at hk
      obtain ⟨v, h1, h2⟩ := loadK_fun hk
      exact local_put h1 fun s' ha => by simp only [freeStep, ho, he s' ha, hx]; exact h2 s' _ trivial rfl
    | _ => rw [hx] at hk; exact hk.elim
  | binOp op t x y t' =>
    simp only [freeStep, ho, stepK] at hk
    obtain ⟨hnc, hk⟩ := hk
    rw [hnc, cond_false] at hk
    obtain ⟨v, h1, h2⟩ := binK_fun hk
    exact local_put h1 fun s' ha => by
      simp only [freeStep, ho, stepK, hnc, cond_false, true_and, ha.ev (x := x) (by rw [ho]; simp [Op.operands]), ha.ev (x := y) (by rw [ho]; simp [Op.operands])]
      exact h2 _ rfl
  | unOp op t x =>
    have he : ∀ s', Agree all base o s s' → ev P 0 s' x = ev P 0 s x := fun s' ha => ha.ev (by rw [ho]; simp [Op.operands]) 0
    simp only [freeStep, ho, stepK] at hk
    split at hk
    · rename_i b e; exact local_put hk fun s' ha => by simp only [freeStep, ho, stepK, he s' ha, e]
    · rename_i k n e; exact local_put hk fun s' ha => by simp only [freeStep, ho, stepK, he s' ha, e]
    · exact hk.elim
  | convert a b x =>
    have he : ∀ s', Agree all base o s s' → ev P a s' x = ev P a s x := fun s' ha => ha.ev (by rw [ho]; simp [Op.operands]) a
    simp only [freeStep, ho, stepK] at hk
    split at hk
    · rename_i k n e
      split at hk
      · rename_i k' e2; obtain ⟨h1, hk⟩ := hk; exact local_put hk fun s' ha => by simp only [freeStep, ho, stepK, he s' ha, e, e2]; exact ⟨h1, trivial⟩
      · exact hk.elim
    · rename_i b' e; obtain ⟨h1, h2, hk⟩ := hk; exact local_put hk fun s' ha => by simp only [freeStep, ho, stepK, he s' ha, e]; exact ⟨h1, h2, trivial⟩
    · exact hk.elim
  | makeFunc f fs cs =>
    simp only [freeStep, ho, stepK] at hk
    obtain ⟨h1, hk⟩ := hk
    exact local_put hk fun s' ha => by
      simp only [freeStep, ho, stepK]
      refine ⟨h1, ?_⟩
      congr 2
      refine List.map_congr_left fun x hx => ?_
      rw [ha.ev (x := x) (by rw [ho]; simp only [Op.operands]; exact Array.mem_append.2 (.inr (by simpa using hx)))]
  | slice t x lo hi mx =>
    simp only [freeStep, ho, stepK] at hk
    obtain ⟨v, h1, h2⟩ := sliceK_fun hk
    exact local_put h1 fun s' ha => by
      simp only [freeStep, ho, stepK, ha.ev (x := x) (by rw [ho]; simp [Op.operands])]
      rw [sliceK_congr ha (fun y hy => by rw [ho, hy]; simp [Op.operands]) (fun y hy => by rw [ho, hy]; simp [Op.operands]) (fun y hy => by rw [ho, hy]; simp [Op.operands])]
      exact h2 _ rfl
  | fieldAddr t x f =>
    have he : ∀ s', Agree all base o s s' → ev P 0 s' x = ev P 0 s x := fun s' ha => ha.ev (by rw [ho]; simp [Op.operands]) 0
    simp only [freeStep, ho, stepK] at hk
    split at hk
    · rename_i e e2; exact local_put hk fun s' ha => by simp only [freeStep, ho, stepK, he s' ha, e, e2]
    · rename_i e e2; exact local_put hk fun s' ha => by simp only [freeStep, ho, stepK, he s' ha, e, e2]
    · rename_i e e2; exact local_put hk fun s' ha => by simp only [freeStep, ho, stepK, he s' ha, e, e2]
    · exact hk.elim
  | field t x f =>
    have he : ∀ s', Agree all base o s s' → ev P t s' x = ev P t s x := fun s' ha => ha.ev (by rw [ho]; simp [Op.operands]) t
    simp only [freeStep, ho, stepK] at hk
    split at hk
    · rename_i d n ft e e2
      split at hk
      · rename_i y e3; obtain ⟨h1, hk⟩ := hk; exact local_put hk fun s' ha => by simp only [freeStep, ho, stepK, he s' ha, e, e2, e3]; exact ⟨h1, trivial⟩
      · exact hk.elim
    · rename_i d n ft e e2
      split at hk
      · rename_i y e3; exact local_put hk fun s' ha => by simp only [freeStep, ho, stepK, he s' ha, e, e2, e3]
      · exact hk.elim
    · exact hk.elim
  | indexAddr t x i =>
    have he : ∀ s', Agree all base o s s' → ev P t s' x = ev P t s x := fun s' ha => ha.ev (by rw [ho]; simp [Op.operands]) t
    have he2 : ∀ s', Agree all base o s s' → ev P 0 s' i = ev P 0 s i := fun s' ha => ha.ev (by rw [ho]; simp [Op.operands]) 0
    simp only [freeStep, ho] at hk
    split at hk
    · rename_i id z off len cap ex
      obtain ⟨hb, hk⟩ := hk
      simp only [stepK, ho, ex] at hk
      split at hk
      · rename_i e e2; cases e
      · rename_i e e2
        injection e with q1 q2 q3 q4 q5; subst q1; subst q2; subst q3; subst q4; subst q5
        obtain ⟨a1, a2, a3, hk⟩ := hk
        exact local_put hk fun s' ha => by
          simp only [freeStep, ho, he s' ha, ex, stepK, he2 s' ha, e2, ha.hp _ hb]
          exact ⟨hb, a1, a2, a3, trivial⟩
      · rename_i e e2; cases e
      · exact hk.elim
    · rename_i hnr
      simp only [stepK, ho] at hk
      split at hk
      · rename_i e e2; obtain ⟨a1, a2, a3, hk⟩ := hk; exact local_put hk fun s' ha => by simp only [freeStep, ho, stepK, he s' ha, he2 s' ha, e, e2]; exact ⟨a1, a2, a3, trivial⟩
      · rename_i e e2; exact absurd e (hnr _ _ _ _ _)
      · rename_i e e2
        split at hk
        · rename_i e3; obtain ⟨a1, a2, hk⟩ := hk; exact local_put hk fun s' ha => by simp only [freeStep, ho, stepK, he s' ha, he2 s' ha, e, e2, e3]; exact ⟨a1, a2, trivial⟩
        · exact hk.elim
      · exact hk.elim
  | lookup t x y ok =>
    have he : ∀ s', Agree all base o s s' → ev P t s' x = ev P t s x := fun s' ha => ha.ev (by rw [ho]; simp [Op.operands]) t
    have he2 : ∀ s', Agree all base o s s' → ∀ t, ev P t s' y = ev P t s y := fun s' ha => ha.ev (by rw [ho]; simp [Op.operands])
    simp only [freeStep, ho] at hk
    split at hk
    · rename_i id ex
      obtain ⟨hb, hk⟩ := hk
      simp only [stepK, ho] at hk
      unfold lookupK at hk
      rw [ex] at hk
      split at hk
      · rename_i id' k kt et e1 ek em
        injection e1 with e1; subst e1
        rw [em] at ek
        simp only [Option.map_some, Option.getD_some] at ek
        split at hk
        · rename_i clock es ehp
          obtain ⟨hkey, hk⟩ := hk
          split at hk
          · rename_i i V ef
            exact local_put hk fun s' ha => by
              simp only [freeStep, ho, he s' ha, ex, stepK, he2 s' ha]
              refine ⟨hb, ?_⟩
              unfold lookupK
              simp only [em, Option.map_some, Option.getD_some, ek, ha.hp _ hb, ehp, ef]
              exact ⟨hkey, trivial⟩
          · rename_i ef
            split at hk
            · rename_i Z eZ
              exact local_put hk fun s' ha => by
                simp only [freeStep, ho, he s' ha, ex, stepK, he2 s' ha]
                refine ⟨hb, ?_⟩
                unfold lookupK
                simp only [em, Option.map_some, Option.getD_some, ek, ha.hp _ hb, ehp, ef, eZ]
                exact ⟨hkey, trivial⟩
            · exact hk.elim
          · exact hk.elim
        · exact hk.elim
      · exact hk.elim
    · exact hk.elim
  | index t x i =>
    have he : ∀ s', Agree all base o s s' → ev P t s' x = ev P t s x := fun s' ha => ha.ev (by rw [ho]; simp [Op.operands]) t
    have he2 : ∀ s', Agree all base o s s' → ev P 0 s' i = ev P 0 s i := fun s' ha => ha.ev (by rw [ho]; simp [Op.operands]) 0
    simp only [freeStep, ho, stepK] at hk
    split at hk
    · rename_i e e2; obtain ⟨a1, a2, a3, hk⟩ := hk; exact local_put hk fun s' ha => by simp only [freeStep, ho, stepK, he s' ha, he2 s' ha, e, e2]; exact ⟨a1, a2, a3, trivial⟩
    · exact hk.elim
  | extract x i =>
    have he : ∀ s', Agree all base o s s' → ev P 0 s' x = ev P 0 s x := fun s' ha => ha.ev (by rw [ho]; simp [Op.operands]) 0
    simp only [freeStep, ho] at hk
    split at hk
    · rename_i e
      split at hk
      · rename_i e2; obtain ⟨h1, hk⟩ := hk; exact local_put hk fun s' ha => by simp only [freeStep, ho, he s' ha, e, e2]; exact ⟨h1, trivial⟩
      · exact hk.elim
    · exact hk.elim
  | build t ps =>
    have he : ∀ s', Agree all base o s s' → (ps.toList.map fun p => (p.1, ev P (((fieldOff P t p.1).map (·.2)).getD 0) s' p.2)) = ps.toList.map fun p => (p.1, ev P (((fieldOff P t p.1).map (·.2)).getD 0) s p.2) := fun s' ha =>
      List.map_congr_left fun p hp => by rw [ha.ev (x := p.2) (by rw [ho]; simp only [Op.operands]; simp; exact ⟨p.1, by simpa using hp⟩)]
    simp only [freeStep, ho, stepK] at hk
    split at hk
    · rename_i e e2
      split at hk
      · rename_i e3; obtain ⟨h1, hk⟩ := hk; exact local_put hk fun s' ha => by simp only [freeStep, ho, stepK, he s' ha, e, e2, e3]; exact ⟨h1, trivial⟩
      · exact hk.elim
    · exact hk.elim
  | makeSlice t l c =>
    have he : ∀ s', Agree all base o s s' → ev P 0 s' l = ev P 0 s l := fun s' ha => ha.ev (by rw [ho]; simp [Op.operands]) 0
    have he2 : ∀ s', Agree all base o s s' → ev P 0 s' c = ev P 0 s c := fun s' ha => ha.ev (by rw [ho]; simp [Op.operands]) 0
    simp only [freeStep, ho, makeOwnK] at hk
    split at hk
    · rename_i e1 e2 e3 e4
      split at hk
      · rename_i e5; obtain ⟨h1, h2, h3, h4, h5, h6, h7, hk⟩ := hk; exact local_put hk fun s' ha => by simp only [freeStep, ho, makeOwnK, he s' ha, he2 s' ha, e1, e2, e3, e4, e5]; exact ⟨h1, h2, h3, h4, h5, h6, h7, trivial⟩
      · exact hk.elim
    · exact hk.elim
  | buildSlice t n ps =>
    have he : ∀ e s', Agree all base o s s' → (ps.toList.map fun p => (p.1, ev P e s' p.2)) = ps.toList.map fun p => (p.1, ev P e s p.2) := fun e s' ha =>
      List.map_congr_left fun p hp => by rw [ha.ev (x := p.2) (by rw [ho]; simp only [Op.operands]; simp; exact ⟨p.1, by simpa using hp⟩)]
    simp only [freeStep, ho, stepK] at hk
    split at hk
    · rename_i e e2
      split at hk
      · rename_i e3
        split at hk
        · rename_i e4; obtain ⟨h1, h2, h3, h4, hk⟩ := hk; exact local_put hk fun s' ha => by simp only [freeStep, ho, stepK, he _ s' ha, e, e2, e3, e4]; exact ⟨h1, h2, h3, h4, trivial⟩
        · exact hk.elim
      · exact hk.elim
    · exact hk.elim
  | call c =>
    have hav : ∀ s', Agree all base o s s' → argVs P s' c = argVs P s c := fun s' ha => ha.argVs ho
    simp only [freeStep, ho] at hk
    unfold freeCall at hk
    split at hk
    · rename_i g eg
      have he : ∀ s', Agree all base o s s' → ev P 0 s' g = ev P 0 s g := fun s' ha => ha.ev (by rw [ho]; simp [Op.operands, Call.operands, eg]) 0
      split at hk
      · rename_i f caps e
        obtain ⟨h1, h0, ds, r, h2, h3, h4, hk⟩ := hk
        exact local_put hk fun s' ha => by
          simp only [freeStep, ho]
          unfold freeCall
          simp only [eg, he s' ha, e]
          exact ⟨h1, h0, ds, r, by rw [hav s' ha]; exact h2, h3, h4, rfl⟩
      · exact hk.elim
    · rename_i eg
      have aux : ∀ s' : St, (freeStep P base o s' (fun x => x = s'.put o.dst (.d (.int .i64 0)))) = (freeStep P base o s' (fun x => x = s'.put o.dst (.d (.int .i64 0)))) := fun _ => rfl
      split at hk
      · exact hk.elim
      · rename_i hnm
        unfold callK0 at hk
        simp only [eg] at hk
        split at hk
        · rename_i e; obtain ⟨a1, a2, hk⟩ := hk; exact local_put hk fun s' ha => by simp only [freeStep, ho]; unfold freeCall; simp only [eg, hav s' ha, e]; unfold callK0; simp only [eg, hav s' ha, e]; exact ⟨a1, a2, trivial⟩
        · rename_i e; obtain ⟨a1, a2, hk⟩ := hk; exact local_put hk fun s' ha => by simp only [freeStep, ho]; unfold freeCall; simp only [eg, hav s' ha, e]; unfold callK0; simp only [eg, hav s' ha, e]; exact ⟨a1, a2, trivial⟩
        · rename_i e; obtain ⟨a1, a2, hk⟩ := hk; exact local_put hk fun s' ha => by simp only [freeStep, ho]; unfold freeCall; simp only [eg, hav s' ha, e]; unfold callK0; simp only [eg, hav s' ha, e]; exact ⟨a1, a2, trivial⟩
        · rename_i e; obtain ⟨a1, a2, hk⟩ := hk; exact local_put hk fun s' ha => by simp only [freeStep, ho]; unfold freeCall; simp only [eg, hav s' ha, e]; unfold callK0; simp only [eg, hav s' ha, e]; exact ⟨a1, a2, trivial⟩
        · rename_i e; exact absurd e (hnm _)
        · exact hk.elim
    · rename_i eg
      unfold callK0 at hk
      simp only [eg] at hk
      split at hk
      · rename_i x y exy
        have hx : x ∈ o.op.operands := by rw [ho]; simp only [Op.operands, Call.operands, eg]; have : x ∈ c.args.toList := by rw [exy]; simp
                                          simpa using this
        have hy : y ∈ o.op.operands := by rw [ho]; simp only [Op.operands, Call.operands, eg]; have : y ∈ c.args.toList := by rw [exy]; simp
                                          simpa using this
        split at hk
        · rename_i z xs ly z' ys e1 e2
          split at hk
          · rename_i sz by_ e3
            obtain ⟨a1, a2, a3, a4, a5, a6, a7, a8, hk⟩ := hk
            refine ⟨{ ws := argW x (ev P (c.argTypes.getD 0 0) s x).cp ++ (o.dst.toList.map fun d => (d, .own z (xs ++ ys))), push := none }, ?_, fun p hp => ?_, fun _ => rfl, fun s' ha => ?_⟩
            · cases x <;> cases hd : o.dst <;> simpa [argW, Eff.app, St.put, St.at_, writeTm, hd] using hk
            · rcases List.mem_append.1 hp with hp | hp
              · refine List.mem_append_right _ ?_
                cases x with
                | tmp i => simp [argW] at hp; subst hp; simp [arg0, ho, eg, exy]
                | _ => simp [argW] at hp
              · simp only [List.mem_map] at hp
                obtain ⟨d, hd, rfl⟩ := hp
                exact List.mem_append_left _ hd
            · simp only [freeStep, ho]; unfold freeCall; simp only [eg]; unfold callK0; simp only [eg, exy, ha.ev hx, ha.ev hy, e1, e2, e3]
              refine ⟨a1, a2, a3, a4, a5, a6, a7, a8, ?_⟩
              cases x <;> cases hd : o.dst <;> simp [argW, Eff.app, St.put, St.at_, writeTm]
          · exact hk.elim
        · exact hk.elim
      · exact hk.elim
    · rename_i eg
      unfold callK0 at hk
      simp only [eg] at hk
      split at hk
      · rename_i e; exact local_put hk fun s' ha => by simp only [freeStep, ho]; unfold freeCall; simp only [eg]; unfold callK0; simp only [eg, hav s' ha, e]
      · exact hk.elim
    · rename_i eg
      unfold callK0 at hk
      simp only [eg] at hk
      split at hk
      · rename_i e; exact local_put hk fun s' ha => by simp only [freeStep, ho]; unfold freeCall; simp only [eg]; unfold callK0; simp only [eg, hav s' ha, e]
      · exact hk.elim
    · exact hk.elim
  | _ => simp [freeStep, ho, stepK] at hk

/-- with its guard -/
theorem freeOp_local (hk : freeOp P base all o s K) : Local P base all o s K (freeOp P base all o) := by
  unfold freeOp at hk
  split at hk
  · rename_i hg
    obtain ⟨e, h1, h2, h3, h4⟩ := freeStep_local (all := all) hk
    exact ⟨e, h1, h2, h3, fun s' ha => by unfold freeOp; simp only [hg]; exact h4 s' ha⟩
  · rename_i j want hg
    split at hk
    · rename_i t et
      have ht : t ∈ opUses all o := by
        unfold opUses; rw [hg]; refine List.mem_append_right _ ?_; simp [et]
      split at hk
      · rename_i b eb
        by_cases hb : b = want
        · obtain ⟨e, h1, h2, h3, h4⟩ := freeStep_local (all := all) (hk.1 hb)
          refine ⟨e, h1, h2, h3, fun s' ha => ?_⟩
          unfold freeOp; simp only [hg, et, ha.tm t ht, eb]
          exact ⟨fun _ => h4 s' ha, fun hn => by subst hb; cases b <;> simp at hn⟩
        · have hb' : b = !want := by cases b <;> cases want <;> simp_all
          exact local_put (hk.2 hb') fun s' ha => by
            unfold freeOp; simp only [hg, et, ha.tm t ht, eb]
            exact ⟨fun hh => absurd hh hb, fun _ => trivial⟩
      · rename_i eb
        exact local_put hk fun s' ha => by
          unfold freeOp; simp only [hg, et, ha.tm t ht, eb]
      · exact hk.elim
    · exact hk.elim

/-- The effects of a free part, one an operation. -/
theorem free_effs (hb : base ≤ s.hp.length) : ∀ (ops : List Oper) (s : St), base ≤ s.hp.length → freeK P base all ops s K → ∃ es : List Eff, es.length = ops.length ∧ K (stL (fun _ => true) 0 es s) ∧
    ∀ (i : Nat) o, ops[i]? = some o → ∃ e, es[i]? = some e ∧ (∀ p ∈ e.ws, p.1 ∈ opWrites o) ∧ (isAlloc o = false → e.push = none) ∧
      ∀ s', Agree all base o (stL (fun _ => true) 0 (es.take i) s) s' → freeOp P base all o s' (fun x => x = e.app s')
  | [], s, _, hk => ⟨[], rfl, hk, by simp⟩
  | o :: ops, s, hs, hk => by
    simp only [freeK] at hk
    obtain ⟨e, h1, h2, h3, h4⟩ := freeOp_local hk
    have hlen : base ≤ (e.app s).hp.length := by simp [Eff.app]; omega
    obtain ⟨es, k1, k2, k3⟩ := free_effs hb ops (e.app s) hlen h1
    have hshift : ∀ (es : List Eff) (i : Nat) (s : St), stL (fun _ => true) (i + 1) es s = stL (fun _ => true) i es s := by
      intro es
      induction es with
      | nil => intro i s; rfl
      | cons f es ih => intro i s; simp only [stL, if_true]; rw [ih]
    refine ⟨e :: es, by simp [k1], by simp only [stL, if_true]; rw [hshift]; exact k2, fun i o' ho => ?_⟩
    cases i with
    | zero =>
      simp at ho; subst ho
      exact ⟨e, rfl, h2, h3, fun s' ha => h4 s' (by simpa [stL] using ha)⟩
    | succ i =>
      obtain ⟨e', q1, q2, q3, q4⟩ := k3 i o' (by simpa using ho)
      refine ⟨e', by simpa using q1, q2, q3, fun s' ha => q4 s' ?_⟩
      simp only [List.take_succ_cons, stL, if_true, hshift] at ha
      exact ha

end
end Go.Idl
end
section
namespace Go.Idl

section
variable {P : Program} {κ : Ctx} {s : St} {a : Act} {w : World} {K : St → Prop} {o : Oper} {base : Nat}

theorem mv_false (s : St) (x : Operand) (v : V) (dst : Option Nat) : mv s x v dst false = s.put dst v.cp := by
  unfold mv; simp

theorem freeCall_callK {c : Call} {dst : Option Nat} (hk : freeCall P c s dst K) : callK P c s dst K := by
  unfold freeCall at hk
  split at hk
  · rename_i g eg
    split at hk
    · rename_i f caps e
      obtain ⟨h1, h0, ds, r, h2, h3, h4, hk⟩ := hk
      unfold callK
      simp only [eg]
      unfold callK0
      simp only [eg, e, h1, cond_true]
      refine ⟨?_, ?_⟩
      · rw [List.all_append, h0, Bool.and_true, List.all_eq_true]
        intro v hv
        have hc : v.cp = v := by
          simp only [argVs, List.mem_map] at hv
          obtain ⟨x, _, rfl⟩ := hv
          exact Idl.V.cp_cp _
        obtain ⟨q1, q2⟩ := allD_get h2
        obtain ⟨j, hj, rfl⟩ := List.getElem_of_mem hv
        have hj' : j < ds.length := by rw [← q1]; simp; omega
        obtain ⟨v', e1, e2⟩ := q2 j _ (List.getElem?_eq_getElem hj')
        rw [List.getElem?_append_left hj, List.getElem?_eq_getElem hj] at e1
        injection e1 with e1; subst e1
        generalize (argVs P s c)[j] = v at e2 hc
        cases v <;> simp_all [V.d?, V.cp, V.bare]
      · exact callK_pcall h4 h2 h3 hk
    · exact hk.elim
  · rename_i eg
    split at hk
    · exact hk.elim
    · unfold callK; simp only [eg]; exact hk
  · rename_i eg
    unfold callK
    split
    · rename_i x y t0 t1 _ ea et
      split
      · rename_i e
        unfold callK0 at hk
        simp only [eg, ea] at hk
        have : c.argTypes = #[t0, t1] := toList_two et
        rw [this] at hk
        have ed0 : (#[t0, t1] : Array TypeId).getD 0 0 = t0 := rfl
        rw [ed0, e] at hk
        simp [appBase] at hk
      · exact hk
    · rename_i e _ _; rw [eg] at e; cases e
    · rename_i e _ _; rw [eg] at e; cases e
    · rename_i e _ _; rw [eg] at e; cases e
    · rename_i e _ _; rw [eg] at e; cases e
    · exact hk
  · rename_i eg; unfold callK; simp only [eg]; exact hk
  · rename_i eg; unfold callK; simp only [eg]; exact hk
  · exact hk.elim

/-- a slice made as a value -/
theorem does_makeOwn {Φ : CM} {B : List Nat} {au : Auth} {t : TypeId} {l c : Operand} (h : Inv κ Φ B au s a w) (ho : o.op = .makeSlice t l c) (hk : makeOwnK P t l c s o.dst K) : Does P κ o a w K := by
  unfold makeOwnK at hk
  split at hk
  · rename_i e z y k n k' m e1 e2 el ec
    split at hk
    · rename_i zd ez
      obtain ⟨rfl, hn, hby, hnm, hdst, hzd, hz0, hk⟩ := hk
      obtain ⟨ty, i, zv, hut, hi, hzv, hsz, hyb, hzs⟩ := elI_inv e2
      have : e = ty := by simp [elemTy, hut] at e1; exact e1.symm
      subst this
      have hln := repD_int (ev_d h el)
      have hcn := repD_int (ev_d h ec)
      have hz := zero_rep (Φ := Φ) ez hi hzv (by rw [hzd, hzs])
      have hzr := zeros_rep (n := n.toNat) hz hzd hz0
      have hall : ∀ x ∈ List.replicate n.toNat zd, x.flat.length = z := fun x hx => by rw [(List.mem_replicate.1 hx).2]; exact hzd
      obtain ⟨arr, harr⟩ : ∃ arr, arr = (Array.range (n.toNat * z)).map (zv.cells[· % zv.cells.size]!) := ⟨_, rfl⟩
      rw [← harr] at hzr
      obtain ⟨d, hd⟩ := Option.isSome_iff_exists.1 hdst
      rw [hd] at hk
      obtain ⟨Φ', au', hfin⟩ := h.lay (el := e) (rest := []) (z := z) (xs := List.replicate n.toNat zd) hzr hall d n.toNat (by simp) (by
        rw [← hzr.get.1, flat_length hall]; simp)
      refine does_value (v := .slice (some ⟨w.heap.size, 0, none⟩) n.toNat n.toNat) ?_ hk ⟨Φ', B, au', by rw [hd]; simpa using hfin⟩
      unfold execOp; rw [ho]; refine run_v ?_
      have hw : IntKind.i64.wrap n = n := wrap_i64 (by omega) (by omega)
      subst hsz; subst hyb
      simp only [hln, hcn]
      unfold Instr.makeSlice
      rw [Sem.run_bind, run_underlying hut]; simp only [Result.andThen_ok, asInt, asIntOf, pure_bind]
      rw [Sem.run_bind, run_typeInfo hi]; simp only [Result.andThen_ok, hw]
      have c1 : decide (n < 0) = false := by simpa using hn
      have c2 : decide ((i.bytes : Int) * n > 2 ^ 48) = false := by simp; omega
      have c3 : decide (n > n) = false := by simp
      simp only [c1, c2, c3, Bool.or_self, Bool.false_eq_true, if_false]
      rw [Sem.run_bind, run_askRoom]; simp only [Result.andThen_ok]
      rw [Sem.run_bind, run_sizeOf hi]; simp only [Result.andThen_ok]
      split
      · rename_i h0
        have hc0 : (Array.range (n.toNat * i.size)).map (fun x => (#[] : Array Value)[x % (#[] : Array Value).size]!) = (Array.range (n.toNat * i.size)).map (zv.cells[· % zv.cells.size]!) := by rw [h0]; simp
        rw [hc0, ← harr]; rfl
      · rw [Sem.run_bind, run_zeroValue hi hzv]; simp only [Result.andThen_ok]; rw [← harr]; rfl
    · exact hk.elim
  · exact hk.elim

theorem freeStep_sound (h : Rel κ s a w) (hk : freeStep P base o s K) : Does P κ o a w K := by
  unfold freeStep at hk
  split at hk
  · rename_i x ho
    obtain ⟨Φ, B, au, h⟩ := h
    exact does_move (take := false) h (.inl ho) (by rw [mv_false]; exact hk)
  · rename_i x ho
    obtain ⟨Φ, B, au, h⟩ := h
    exact does_move (take := false) h (.inr ho) (by rw [mv_false]; exact hk)
  · rename_i t x ho
    obtain ⟨Φ, B, au, h⟩ := h
    refine does_load (r := []) h ho ?_
    simp only [stepK, ho, takes]
    split at hk
    · exact hk.2
    · exact hk.2
    · exact hk
  · rename_i x ix ho
    obtain ⟨Φ, B, au, h⟩ := h
    split at hk
    · rename_i vs e
      split at hk
      · rename_i V eV
        obtain ⟨hnt, hk⟩ := hk
        have g := ev_rep (P := P) h 0 x
        rw [e] at g
        generalize hv : a.eval x = v at g
        cases g with
        | tup hl =>
          rename_i cs
          obtain ⟨q1, q2⟩ := hl.get
          have hix : ix < cs.length := by rw [← q1]; exact (List.getElem?_eq_some_iff.1 eV).1
          have hc : cs[ix]? = some cs[ix] := List.getElem?_eq_getElem hix
          have hrep := q2 ix V _ eV hc
          refine does_plain (v := cs[ix]) h ?_ hrep.cp (fun _ => OwnV_cp) hk
          unfold execOp; rw [ho]; refine run_v ?_
          simp only [hv]
          unfold Instr.extract
          simp [hix]
      · exact hk.elim
    · exact hk.elim
  · rename_i c ho
    exact step_sound (r := []) h (by simp only [stepK, ho]; exact freeCall_callK hk)
  · split at hk
    · exact step_sound (r := []) h hk.2
    · exact step_sound (r := []) h hk
  · split at hk
    · exact step_sound (r := []) h hk.2
    · exact hk.elim
  · exact step_sound (r := []) h hk.2
  · rename_i t l c ho
    obtain ⟨Φ, B, au, h⟩ := h
    exact does_makeOwn h ho hk
  · exact hk.elim
  · exact hk.elim
  · exact hk.elim
  · exact hk.elim
  · exact hk.elim
  · exact hk.elim
  · exact step_sound (r := []) h hk

theorem freeStep_nodefer {c : Call} (hk : freeStep P base o s K) : o.op ≠ .defer c := by
  intro e; simp [freeStep, stepK, e] at hk

theorem guard_yield {ops : Array Oper} {j t : Nat} {b : Bool} (h : Rel κ s a w) (et : (ops.toList[j]?).bind (·.dst) = some t) (eb : s.tm[t]? = some (.d (.bool b))) : yielded ops a.tmps j = some b := by
  obtain ⟨Φ, B, au, hi⟩ := h
  have hlt : t < s.tm.length := (List.getElem?_eq_some_iff.1 eb).1
  have hat : t < a.tmps.size := by rw [← hi.tl]; exact hlt
  have hv : a.tmps[t]? = some (.bool b) := by
    have := (hi.tm t _ _ eb (Array.getElem?_eq_getElem hat)).1
    cases this with | d q => rw [Array.getElem?_eq_getElem hat, repD_bool q]
  unfold yielded
  rw [Array.getElem?_toList] at et
  simp only [et, Option.bind_some, hv]

theorem freeOp_sound {ops : Array Oper} {i : Nat} {Q : Exit → Act → World → Prop} {next : Act → World → Prop} (h : Rel κ s a w) (hi : ops[i]? = some o) (hk : freeOp P base ops.toList o s K)
    (hn : ∀ s' a' w', K s' → Rel κ s' a' w' → next a' w') : wpOpIn κ.F 0 P ops Q i next a w := by
  unfold wpOpIn
  simp only [hi]
  unfold freeOp at hk
  split at hk
  · rename_i hg
    rw [if_pos (by simp [Region.wanted, hg])]
    exact (freeStep_sound h hk).wpIn (fun c => freeStep_nodefer hk) hn
  · rename_i j want hg
    split at hk
    · rename_i t et
      split at hk
      · rename_i b eb
        have hy := guard_yield (ops := ops) h et eb
        by_cases e : b = want
        · rw [if_pos (by simp [Region.wanted, hg, hy, e])]
          exact (freeStep_sound h (hk.1 e)).wpIn (fun c => freeStep_nodefer (hk.1 e)) hn
        · rw [if_neg (by simp [Region.wanted, hg, hy, e])]
          have e' : b = !want := by cases b <;> cases want <;> simp_all
          exact ⟨fun _ _ => trivial, hn _ _ _ (hk.2 e') (h.skip o.dst)⟩
      · rename_i eb
        rw [if_neg (by simp [Region.wanted, hg, guard_skip h et eb])]
        exact ⟨fun _ _ => trivial, hn _ _ _ hk (h.skip o.dst)⟩
      · exact hk.elim
    · exact hk.elim

/-- one operation of the rest -/
theorem restOp_sound {ops : Array Oper} {i : Nat} {rest : List Oper} {Q : Exit → Act → World → Prop} {next : Act → World → Prop} (h : Rel κ s a w) (hi : ops[i]? = some o) (hk : opsK P ops.toList (o :: rest) s K)
    (hn : ∀ s' a' w', opsK P ops.toList rest s' K → Rel κ s' a' w' → next a' w') : wpOpIn κ.F 0 P ops Q i next a w := by
  unfold wpOpIn
  simp only [hi]
  simp only [opsK] at hk
  split at hk
  · rename_i hg
    rw [if_pos (by simp [Region.wanted, hg])]
    exact (step_sound h hk).wpIn (fun c => stepK_nodefer hk) hn
  · rename_i j want hg
    split at hk
    · rename_i t et
      split at hk
      · rename_i b eb
        have hy := guard_yield (ops := ops) h et eb
        obtain ⟨k1, k2⟩ := hk
        obtain ⟨Φ, B, au, hinv⟩ := h
        have hlt : t < s.tm.length := (List.getElem?_eq_some_iff.1 eb).1
        have hat : t < a.tmps.size := by rw [← hinv.tl]; exact hlt
        have hv : a.tmps[t]? = some (.bool b) := by
          have := (hinv.tm t _ _ eb (Array.getElem?_eq_getElem hat)).1
          cases this with | d q => rw [Array.getElem?_eq_getElem hat, repD_bool q]
        have hset : ∀ b', b = b' → Rel κ { s with tm := s.tm.set t (.d (.bool b')) } a w := by
          rintro b' rfl
          refine ⟨Φ, B, au, hinv.islot t fun V' v hV hv' => ?_⟩
          rw [hv] at hv'; injection hv' with hv'; subst hv'
          exact ⟨.d (.bool _), trivial⟩
        by_cases e : b = want
        · rw [if_pos (by simp [Region.wanted, hg, hy, e])]
          have hk1 := k1 e
          exact (step_sound (hset want e) hk1).wpIn (fun c => stepK_nodefer hk1) hn
        · rw [if_neg (by simp [Region.wanted, hg, hy, e])]
          have e' : b = !want := by cases b <;> cases want <;> simp_all
          exact ⟨fun _ _ => trivial, hn _ _ _ (k2 e') ((hset (!want) e').skip o.dst)⟩
      · rename_i eb
        rw [if_neg (by simp [Region.wanted, hg, guard_skip h et eb])]
        exact ⟨fun _ _ => trivial, hn _ _ _ hk (h.skip o.dst)⟩
      · exact hk.elim
    · exact hk.elim

/-! ### What is listed -/
/-- all that an operation waits for is listed -/
def Waits (ops : Array Oper) (listed : Array Bool) (i : Nat) : Prop := ∀ o, ops[i]? = some o → ∀ e ∈ o.after, Region.binds .any e = true → listed.getD e.on false = true

theorem mask_fold {acc : List Nat} : ∀ (l : List Edge) (m0 j : Nat), Nat.testBit (l.foldl (fun m e => Nat.lor (Nat.lor m (Nat.shiftLeft 1 e.on)) (acc.getD e.on 0)) m0) j = true → Nat.testBit m0 j = true ∨ ∃ e ∈ l, j = e.on ∨ Nat.testBit (acc.getD e.on 0) j = true
  | [], m0, j, h => .inl h
  | e :: l, m0, j, h => by
    simp only [List.foldl_cons] at h
    rcases mask_fold l _ j h with h | ⟨e', he', h⟩
    · have h' : Nat.testBit ((m0 ||| (1 <<< e.on)) ||| acc.getD e.on 0) j = true := h
      rw [Nat.testBit_or, Nat.testBit_or, Nat.testBit_shiftLeft] at h'
      simp only [Bool.or_eq_true, Bool.and_eq_true, decide_eq_true_eq] at h'
      rcases h' with (h' | ⟨h1, h2⟩) | h'
      · exact .inl h'
      · right
        refine ⟨e, by simp, .inl ?_⟩
        have : j - e.on = 0 := by
          rcases Nat.eq_zero_or_pos (j - e.on) with h | h
          · exact h
          · exfalso
            obtain ⟨k, hk⟩ : ∃ k, j - e.on = k + 1 := ⟨j - e.on - 1, by omega⟩
            rw [hk, Nat.testBit_succ] at h2; simp at h2
        omega
      · exact .inr ⟨e, by simp, .inr h'⟩
    · exact .inr ⟨e', by simp [he'], h⟩

theorem preds_listed {ops : Array Oper} {listed : Array Bool} : ∀ (rest : List Oper) (acc : List Nat), (∀ j, rest[j]? = ops[acc.length + j]?) → (∀ i, listed.getD i false = true → Waits ops listed i) →
    (∀ i, Waits ops listed i → ∀ j, Nat.testBit (acc.getD i 0) j = true → listed.getD j false = true) → ∀ i, Waits ops listed i → ∀ j, Nat.testBit ((predsL rest acc).getD i 0) j = true → listed.getD j false = true
  | [], acc, _, _, ha, i, hi, j, hj => ha i hi j hj
  | o :: rest, acc, hr, hc, ha, i, hi, j, hj => by
    simp only [predsL] at hj
    refine preds_listed rest _ (fun j => ?_) hc (fun i hi j hj => ?_) i hi j hj
    · have := hr (j + 1)
      simp only [List.getElem?_cons_succ] at this
      rw [this]; simp [Nat.add_assoc, Nat.add_comm 1 j]
    · rw [List.getD, List.getElem?_append] at hj
      split at hj
      · exact ha i hi j hj
      · rename_i hlt
        have hii : i = acc.length ∨ acc.length < i := by omega
        rcases hii with rfl | h
        · simp only [Nat.sub_self, List.getElem?_cons_zero, Option.getD_some] at hj
          rcases mask_fold _ _ _ hj with hj | ⟨e, he, hj⟩
          · simp at hj
          · simp only [List.mem_filter, Array.mem_toList_iff] at he
            obtain ⟨he, hb⟩ := he
            have ho : ops[acc.length]? = some o := by have := hr 0; simpa using this.symm
            have hon := hi o ho e he hb
            rcases hj with rfl | hj
            · exact hon
            · exact ha e.on (hc _ hon) j hj
        · rw [List.getElem?_eq_none (by simp; omega)] at hj
          simp at hj

theorem getD_bool (l : Array Bool) (i : Nat) : (l.getD i true = false) ↔ (i < l.size ∧ l.getD i false = false) := by
  simp only [Array.getD]
  split <;> simp [*]

theorem ready_iff {ops : Array Oper} {listed : Array Bool} (hs : listed.size = ops.size) {i : Nat} : i ∈ Region.ready .any ops listed ↔ i < ops.size ∧ listed.getD i false = false ∧ Waits ops listed i := by
  rw [mem_ready, getD_bool, hs]
  constructor
  · rintro ⟨⟨h1, h2⟩, o, ho, h3⟩
    exact ⟨h1, h2, fun o' ho' => by rw [ho] at ho'; injection ho' with ho'; subst ho'; exact h3⟩
  · rintro ⟨h1, h2, h3⟩
    exact ⟨⟨h1, h2⟩, ops[i], by simp [h1], h3 _ (by simp [h1])⟩

theorem getD_set (l : Array Bool) (i j : Nat) (h : i < l.size) : (l.setIfInBounds i true).getD j false = (l.getD j false || j == i) := by
  simp only [Array.getD_eq_getD_getElem?, Array.getElem?_setIfInBounds]
  by_cases e : i = j
  · subst e; simp [h]
  · have e' : (j == i) = false := by simp; omega
    simp [e, e']

theorem count_set {l : Array Bool} {i : Nat} (h : i < l.size) (hf : l.getD i false = false) : (l.setIfInBounds i true).toList.count false + 1 = l.toList.count false := by
  have e : l[i] = false := by simpa [Array.getD, h] using hf
  simp only [Array.toList_setIfInBounds]
  rw [List.count_set (by simpa using h)]
  have : 0 < l.toList.count false := List.count_pos_iff.2 (by rw [← e]; simp)
  simp only [Array.getElem_toList, e, beq_self_eq_true, if_true]
  rw [if_neg (by simp)]
  omega

/-- what the test of the region says -/
structure DrawOK (m : Nat) (ops : Array Oper) : Prop where
  lt : ∀ i o, ops[i]? = some o → ∀ e ∈ o.after, Region.binds .any e = true → e.on < i
  all : ∀ i j o p, ops[i]? = some o → ops[j]? = some p → j < i → Nat.testBit ((predsL ops.toList []).getD i 0) j = true ∨ (i < m ∧ conflict ops.toList o p = false)

theorem drawOK_spec {m : Nat} {ops : Array Oper} (h : drawOK m ops.toList = true) : DrawOK m ops := by
  have key := drawGo_spec ops.toList 0 [] [] h (by simp) rfl (by simp)
  constructor
  · intro i o ho e he hb
    exact (key i o (Nat.zero_le _) (by simpa using ho)).1 e he hb
  · intro i j o p ho hp hji
    exact (key i o (Nat.zero_le _) (by simpa using ho)).2 j p hji (by simpa using hp)

theorem ready_nil {ops : Array Oper} {listed : Array Bool} {m : Nat} (hd : DrawOK m ops) (hs : listed.size = ops.size) (h : Region.ready .any ops listed = []) : ∀ i, i < ops.size → listed.getD i false = true := by
  intro i
  induction i using Nat.strongRecOn with
  | ind i ih =>
    intro hi
    by_cases hl : listed.getD i false = true
    · exact hl
    · have : i ∈ Region.ready .any ops listed := (ready_iff hs).2 ⟨hi, by simpa using hl, fun o ho e he hb => by
        have hlt := hd.lt i o ho e he hb
        exact ih e.on hlt (by omega)⟩
      rw [h] at this; cases this

theorem waits_set {ops : Array Oper} {listed : Array Bool} {i : Nat} (hi : i < listed.size) (hw : Waits ops listed i) (hc : ∀ i, listed.getD i false = true → Waits ops listed i) :
    ∀ j, (listed.setIfInBounds i true).getD j false = true → Waits ops (listed.setIfInBounds i true) j := by
  intro j hj o ho e he hb
  rw [getD_set _ _ _ hi] at hj ⊢
  simp only [Bool.or_eq_true, beq_iff_eq] at hj ⊢
  rcases hj with hj | rfl
  · exact .inl (hc j hj o ho e he hb)
  · exact .inl (hw o ho e he hb)

/-- The rest: one after the other. -/
theorem rest_any {ops : Array Oper} {m : Nat} {Q : Exit → Act → World → Prop} (hd : DrawOK m ops) (hq : ∀ s' a' w', K s' → Rel κ s' a' w' → Q .normal a' w') : ∀ (fuel k : Nat) (listed : Array Bool) (s : St) (a : Act) (w : World), k + fuel = ops.size → m ≤ k → listed.size = ops.size →
    (∀ j, listed.getD j false = decide (j < k)) → (∀ i, listed.getD i false = true → Waits ops listed i) → Rel κ s a w → opsK P ops.toList (ops.toList.drop k) s K → wpAnyIn κ.F 0 P .any ops Q fuel listed a w
  | 0, k, listed, s, a, w, hk, hm, hs, hl, hc, h, hop => by
    refine ⟨?_, ?_⟩
    · apply List.eq_nil_iff_forall_not_mem.2
      intro i hi
      obtain ⟨h1, h2, _⟩ := (ready_iff hs).1 hi
      rw [hl] at h2; simp at h2; omega
    · rw [List.drop_eq_nil_of_le (by simp; omega)] at hop
      exact hq _ _ _ hop h
  | fuel + 1, k, listed, s, a, w, hk, hm, hs, hl, hc, h, hop => by
    refine ⟨fun hn => ?_, fun i hi => ?_⟩
    · have := ready_nil hd hs hn k (by omega)
      rw [hl] at this; simp at this
    · obtain ⟨h1, h2, h3⟩ := (ready_iff hs).1 hi
      have hik : i = k := by
        rw [hl] at h2; simp at h2
        rcases Nat.lt_or_ge k i with hlt | hge
        · have ho : ops[i]? = some ops[i] := by simp [h1]
          have hp : ops[k]? = some ops[k] := by simp
          rcases hd.all i k _ _ ho hp hlt with hin | ⟨hlm, _⟩
          · have := preds_listed ops.toList [] (by simp) hc (by simp) i h3 k hin
            rw [hl] at this; simp at this
          · omega
        · omega
      subst hik
      have ho : ops[i]? = some ops[i] := by simp [h1]
      rw [List.drop_eq_getElem_cons (by simpa using h1)] at hop
      refine restOp_sound h ho (by simpa using hop) fun s' a' w' k1 k2 => ?_
      refine rest_any hd hq fuel (i + 1) _ s' a' w' (by omega) (by omega) (by simpa using hs) (fun j => ?_) (waits_set (by omega) h3 hc) k2 k1
      rw [getD_set _ _ _ (by omega), hl]
      by_cases e : j = i
      · subst e; simp
      · have : (j == i) = false := by simpa using e
        rw [this]; simp; omega

theorem stL_congr (L L' : Nat → Bool) : ∀ (i : Nat) (es : List Eff) (s : St), (∀ k, k < es.length → L (i + k) = L' (i + k)) → stL L i es s = stL L' i es s
  | _, [], _, _ => rfl
  | i, e :: es, s, h => by
    simp only [stL]
    rw [show L i = L' i by simpa using h 0 (by simp)]
    exact stL_congr L L' (i + 1) es _ fun k hk => by rw [show i + 1 + k = i + (k + 1) by omega]; exact h (k + 1) (by simpa using hk)

theorem stL_hp_congr (L L' : Nat → Bool) : ∀ (i : Nat) (es : List Eff) (s s' : St), s.hp = s'.hp → (∀ k e, es[k]? = some e → e.push ≠ none → L (i + k) = L' (i + k)) → (stL L i es s).hp = (stL L' i es s').hp
  | _, [], _, _, h, _ => h
  | i, e :: es, s, s', h, hp => by
    simp only [stL]
    refine stL_hp_congr L L' (i + 1) es _ _ ?_ fun k e' he hn => by
      rw [show i + 1 + k = i + (k + 1) by omega]; exact hp (k + 1) e' (by simpa using he) hn
    by_cases hn : e.push = none
    · split <;> split <;> simp [Eff.app, hn, h]
    · have := hp 0 e rfl hn
      simp only [Nat.add_zero] at this
      rw [this]; split <;> simp [Eff.app, h]

theorem stL_take (i : Nat) : ∀ (b : Nat) (es : List Eff) (s : St), stL (fun _ => true) b (es.take i) s = stL (fun j => decide (j < b + i)) b es s := by
  induction i with
  | zero =>
    intro b es s
    have : ∀ (es : List Eff) (c : Nat) (s : St), b ≤ c → stL (fun j => decide (j < b)) c es s = s := by
      intro es
      induction es with
      | nil => intros; rfl
      | cons e es ih => intro c s hc; simp only [stL]; rw [if_neg (by simp; omega)]; exact ih (c + 1) s (by omega)
    simp only [List.take_zero, Nat.add_zero]
    rw [this es b s (Nat.le_refl _)]; rfl
  | succ i ih =>
    intro b es s
    cases es with
    | nil => rfl
    | cons e es =>
      simp only [List.take_succ_cons, stL, if_true]
      rw [if_pos (by simp), ih (b + 1) es _]
      exact stL_congr _ _ _ _ _ fun k _ => by simp; omega

/-- The free part, in whatever order. -/
theorem free_any {ops : Array Oper} {m : Nat} {Q : Exit → Act → World → Prop} (hd : DrawOK m ops) (hm : m ≤ ops.size) (hq : ∀ s' a' w', K s' → Rel κ s' a' w' → Q .normal a' w') {es : List Eff} (hel : es.length = m) (s : St) (hb : base ≤ s.hp.length)
    (he : ∀ (i : Nat) o, i < m → ops[i]? = some o → ∃ e, es[i]? = some e ∧ (∀ p ∈ e.ws, p.1 ∈ opWrites o) ∧ (isAlloc o = false → e.push = none) ∧
      ∀ s', Agree ops.toList base o (stL (fun _ => true) 0 (es.take i) s) s' → freeOp P base ops.toList o s' (fun x => x = e.app s'))
    (hop : opsK P ops.toList (ops.toList.drop m) (stL (fun _ => true) 0 es s) K) : ∀ (fuel : Nat) (listed : Array Bool) (a : Act) (w : World), listed.toList.count false = fuel → listed.size = ops.size →
    (∀ i, listed.getD i false = true → i < m) → (∀ i, listed.getD i false = true → Waits ops listed i) → Rel κ (stL (fun j => listed.getD j false) 0 es s) a w → wpAnyIn κ.F 0 P .any ops Q fuel listed a w := by
  intro fuel
  induction fuel with
  | zero =>
    intro listed a w hf hs hlt hc h
    have hall : ∀ i, i < ops.size → listed.getD i false = true := fun i hi => by
      by_cases e : listed.getD i false = true
      · exact e
      · exfalso
        have e' : listed[i]'(by omega) = false := by simpa [Array.getD, show i < listed.size by omega] using e
        have : 0 < listed.toList.count false := List.count_pos_iff.2 (by rw [← e']; simp)
        omega
    have hms : ops.size = m := by
      rcases Nat.lt_or_ge m ops.size with h1 | h1
      · have := hlt m (hall m h1); omega
      · omega
    refine ⟨?_, ?_⟩
    · apply List.eq_nil_iff_forall_not_mem.2
      intro i hi
      obtain ⟨h1, h2, _⟩ := (ready_iff hs).1 hi
      rw [hall i h1] at h2; cases h2
    · rw [List.drop_eq_nil_of_le (by simp; omega)] at hop
      rw [stL_congr _ (fun _ => true) 0 es s fun k hk => by simpa using hall k (by omega)] at h
      exact hq _ _ _ hop h
  | succ fuel ih =>
    intro listed a w hf hs hlt hc h
    by_cases hfin : ∀ i, i < m → listed.getD i false = true
    · -- the rest
      have hlm : ∀ j, listed.getD j false = decide (j < m) := fun j => by
        by_cases e : j < m
        · rw [hfin j e]; simp [e]
        · have : ¬ listed.getD j false = true := fun hh => e (hlt j hh)
          simp [e]; simpa using this
      rw [stL_congr _ (fun _ => true) 0 es s fun k hk => by simpa using hfin k (by omega)] at h
      have hcnt : m + (fuel + 1) = ops.size := by
        rw [← hf, ← hs]
        have e1 : listed.toList = (List.range listed.size).map fun j => decide (j < m) := by
          apply List.ext_getElem
          · simp
          · intro i h1 h2
            have := hlm i
            simp only [List.getElem_map, List.getElem_range]
            rw [← this]
            simp at h1
            simp [Array.getD, h1]
        rw [e1, hs]
        have e2 : ∀ n, m ≤ n → m + ((List.range n).map fun j => decide (j < m)).count false = n := by
          intro n
          induction n with
          | zero => intro h; simp; omega
          | succ n ihn =>
            intro h
            rw [List.range_succ, List.map_append, List.count_append]
            rcases Nat.lt_or_ge n m with h1 | h1
            · have : m = n + 1 := by omega
              subst this
              have e3 : ((List.range n).map fun j => decide (j < n + 1)).count false = 0 := by
                rw [List.count_eq_zero]
                intro hmem
                simp only [List.mem_map, List.mem_range] at hmem
                obtain ⟨j, hj, hj2⟩ := hmem
                simp at hj2; omega
              rw [e3]; simp
            · have := ihn h1
              have e4 : decide (n < m) = false := by simp; omega
              simp [e4]; omega
        exact e2 _ hm
      exact rest_any hd hq (fuel + 1) m listed _ a w hcnt (Nat.le_refl _) hs hlm hc h hop
    · -- one more of the free part
      refine ⟨fun hn => absurd (fun i hi => ready_nil hd hs hn i (by omega)) hfin, fun i hi => ?_⟩
      obtain ⟨h1, h2, h3⟩ := (ready_iff hs).1 hi
      have hpre : ∀ j, Nat.testBit ((predsL ops.toList []).getD i 0) j = true → listed.getD j false = true := preds_listed ops.toList [] (by simp) hc (by simp) i h3
      have ho : ops[i]? = some ops[i] := by simp [h1]
      have him : i < m := by
        rcases Nat.lt_or_ge i m with h' | h'
        · exact h'
        · exfalso
          refine hfin fun j hj => ?_
          rcases hd.all i j _ ops[j] ho (by simp) (by omega) with hin | ⟨hlm, _⟩
          · exact hpre j hin
          · omega
      obtain ⟨e, q1, q2, q3, q4⟩ := he i _ him ho
      -- earlier ones that are felt are done; later ones that feel are not
      have hearly : ∀ j p, ops[j]? = some p → j < i → conflict ops.toList ops[i] p = true → listed.getD j false = true := fun j p hp hji hcf => by
        rcases hd.all i j _ p ho hp hji with hin | ⟨_, hcf'⟩
        · exact hpre j hin
        · rw [hcf] at hcf'; cases hcf'
      have hlate : ∀ j p, ops[j]? = some p → i < j → listed.getD j false = true → conflict ops.toList p ops[i] = false := fun j p hp hij hl => by
        rcases hd.all j i p _ hp ho hij with hin | ⟨_, hcf'⟩
        · have := preds_listed ops.toList [] (by simp) hc (by simp) j (hc j hl) i hin
          rw [h2] at this; cases this
        · exact hcf'
      have hag : Agree ops.toList base ops[i] (stL (fun _ => true) 0 (es.take i) s) (stL (fun j => listed.getD j false) 0 es s) := by
        rw [stL_take]
        have hek : ∀ k e', es[k]? = some e' → ∃ p, ops[k]? = some p ∧ k < m := fun k e' hk => by
          have hk := (List.getElem?_eq_some_iff.1 hk).1
          exact ⟨ops[k]'(by omega), by simp, by omega⟩
        constructor
        · intro x hx
          refine stL_get _ _ x 0 es s s rfl rfl fun k e' hk hw => ?_
          obtain ⟨p, hp, hkm⟩ := hek k e' hk
          obtain ⟨e'', r1, r2, _⟩ := he k p hkm hp
          rw [hk] at r1; injection r1 with r1; subst r1
          obtain ⟨pr, hpr, hprx⟩ := hw
          have hxw : x ∈ opWrites p := hprx ▸ r2 pr hpr
          simp only [Nat.zero_add]
          rcases Nat.lt_trichotomy k i with hlt' | rfl | hgt
          · rw [hearly k p hp hlt' (conflict_of_meet hxw hx)]
            simp [hlt']
          · rw [h2]; simp
          · have : listed.getD k false = false := by
              by_cases hl : listed.getD k false = true
              · have hcf := hlate k p hp hgt hl
                exact absurd hx ((conflict_false hcf).1 x hxw).1
              · simpa using hl
            rw [this]; simp; omega
        · intro id hid
          obtain ⟨t1, e1⟩ := stL_hp (fun j => listed.getD j false) 0 es s
          obtain ⟨t2, e2⟩ := stL_hp (fun j => decide (j < 0 + i)) 0 es s
          rw [e1, e2, List.getElem?_append_left (by omega), List.getElem?_append_left (by omega)]
        · intro hal
          refine stL_hp_congr _ _ 0 es s s rfl fun k e' hk hne => ?_
          obtain ⟨p, hp, hkm⟩ := hek k e' hk
          obtain ⟨e'', r1, _, r3, _⟩ := he k p hkm hp
          rw [hk] at r1; injection r1 with r1; subst r1
          have hap : isAlloc p = true := by
            by_cases hh : isAlloc p = true
            · exact hh
            · exact absurd (r3 (by simpa using hh)) hne
          simp only [Nat.zero_add]
          rcases Nat.lt_trichotomy k i with hlt' | rfl | hgt
          · rw [hearly k p hp hlt' (conflict_of_alloc hal hap)]; simp [hlt']
          · rw [h2]; simp
          · have : listed.getD k false = false := by
              by_cases hl : listed.getD k false = true
              · have hcf := hlate k p hp hgt hl
                rw [conflict_of_alloc hap hal] at hcf; cases hcf
              · simpa using hl
            rw [this]; simp; omega
      refine freeOp_sound h ho (q4 _ hag) fun s' a' w' hs' hr' => ?_
      subst hs'
      refine ih _ a' w' ?_ (by simpa using hs) (fun j hj => ?_) (waits_set (by omega) h3 hc) ?_
      · have := count_set (l := listed) (i := i) (by omega) h2; omega
      · rw [getD_set _ _ _ (by omega)] at hj
        simp only [Bool.or_eq_true, beq_iff_eq] at hj
        rcases hj with hj | rfl
        · exact hlt j hj
        · exact him
      · rw [stL_insert (fun j => listed.getD j false) i e 0 es s (fun _ _ _ => trivial) (Nat.zero_le _) (by simpa using q1) h2 ?_] at hr'
        · rw [show (fun j => (listed.setIfInBounds i true).getD j false) = fun j => listed.getD j false || j == i from funext fun j => getD_set _ _ _ (by omega)]
          exact hr'
        · intro k f hf' hik hl
          simp only [Nat.zero_add] at hik hl
          have hkm : k < m := by have := (List.getElem?_eq_some_iff.1 hf').1; omega
          have hp : ops[k]? = some (ops[k]'(by omega)) := by simp
          obtain ⟨e'', r1, r2, r3, _⟩ := he k _ hkm hp
          rw [hf'] at r1; injection r1 with r1; subst r1
          have hcf := hlate k _ hp hik hl
          obtain ⟨hc1, hc2⟩ := conflict_false hcf
          refine ⟨fun x hx y hy hxy => ?_, ?_⟩
          · exact absurd (q2 x hx) (hc1 _ (hxy ▸ r2 y hy)).2
          · rcases hc2 with hh | hh
            · exact .inr (r3 hh)
            · exact .inl (q3 hh)

/-- THE LAW OF A DRAWN REGION. -/
theorem draw_sem {id : Nat} {ops : Array Oper} {Q : Ex → St → Prop} (m : Nat) (hmo : P.follows .mixedOrders = true) (hd : drawOK m ops.toList = true) (hm : m ≤ ops.size)
    (hk : freeK P s.hp.length ops.toList (ops.toList.take m) s fun s' => opsK P ops.toList (ops.toList.drop m) s' (Q .normal)) : SemC P (.region id ops true) Q s := by
  intro κ a w hr
  obtain ⟨es, h1, h2, h3⟩ := free_effs (base := s.hp.length) (all := ops.toList) (Nat.le_refl _) (ops.toList.take m) s (Nat.le_refl _) hk
  refine wpIn_region_any hmo ?_
  have hd' := drawOK_spec hd
  have hel : es.length = m := by rw [h1]; simp; omega
  refine free_any (base := s.hp.length) hd' hm (fun s' a' w' k1 k2 => ⟨.normal, s', rfl, k1, k2⟩) hel s (Nat.le_refl _) (fun i o him ho => ?_) h2 ops.size _ a _ ?_ ?_ ?_ ?_ ?_
  · exact h3 i o (by rw [List.getElem?_take_of_lt him]; simpa using ho)
  · simp
  · simp
  · intro i hi; simp [Array.getD] at hi
  · intro i hi; simp [Array.getD] at hi
  · have e0 : stL (fun j => (Array.replicate ops.size false).getD j false) 0 es s = s := by
      have : ∀ (es : List Eff) (i : Nat) (s : St), stL (fun _ => false) i es s = s := by
        intro es
        induction es with
        | nil => intros; rfl
        | cons e es ih => intro i s; simp only [stL, Bool.false_eq_true, if_false]; exact ih _ _
      rw [show (fun j => (Array.replicate ops.size false).getD j false) = fun _ => false from funext fun j => by simp [Array.getD]]
      exact this es 0 s
    rw [e0]
    obtain ⟨Φ, B, au, h⟩ := hr
    exact ⟨Φ, B, au, h.grow (Grows.drew w _)⟩

end
end Go.Idl
end
section
namespace Go.Idl
open Go.RowKit Go.ChangeShapes Go.WideShapes

/-- all cells of a world -/
def cellsOfW (w : World) : CM := fun _ b o => w.cell? ⟨b, o, none⟩

/-- fields that lie one behind the other -/
def consec (P : Program) : Nat → List Field → Nat → Bool
  | o, [], z => o == z
  | o, f :: r, z => f.offset == o && consec P (o + P.cellsOf f.type) r z

/-- types of plain data: numbers, bools, strings, slices and structs of these -/
def plainTy (P : Program) : Nat → TypeId → Bool
  | 0, _ => false
  | n + 1, t => match P.underlying t with
    | some .bool => true
    | some (.int _) => true
    | some .string => true
    | some (.slice e) => decide (0 < P.cellsOf e) && plainTy P n e
    | some (.struct fs) => (fs.toList.all fun f => plainTy P n f.type) && consec P 0 fs.toList (P.cellsOf t)
    | _ => false

def isStruct (P : Program) (t : TypeId) : Bool := match P.underlying t with
  | some (.struct _) => true
  | _ => false

/-- cells that hold a value of a type -/
def TyD (P : Program) : Nat → TypeId → List D → Prop
  | 0, _, _ => False
  | n + 1, t, ds => match P.underlying t with
    | some .bool => ∃ b, ds = [.bool b]
    | some (.int k) => ∃ m, ds = [.int k m] ∧ (Lit.int k m).wf = true
    | some .string => ∃ s : ByteArray, ds = [.str s] ∧ s.size ≤ reachBytes
    | some (.slice e) => ∃ xs, ds = [.sl false (P.cellsOf e) xs] ∧ xs.length ≤ maxLen ∧ xs.length * P.bytesOf e ≤ reachBytes ∧ ∀ x ∈ xs, x.flat.length = P.cellsOf e ∧ (isStruct P e = true → ∃ cs, x = .agg cs) ∧ (isStruct P e = false → ∀ cs, x ≠ .agg cs) ∧ TyD P n e x.flat
    | some (.struct fs) => ds.length = P.cellsOf t ∧ ∀ f ∈ fs.toList, TyD P n f.type ((ds.drop f.offset).take (P.cellsOf f.type))
    | _ => False

theorem TyD.length_le {P : Program} : ∀ {n : Nat} {t : TypeId} {ds : List D}, TyD P n t ds → isStruct P t = false → ∃ d, ds = [d] ∧ ∀ cs, d ≠ .agg cs := by
  intro n t ds h hs
  cases n with
  | zero => exact h.elim
  | succ n =>
    unfold TyD at h
    unfold isStruct at hs
    split at h
    · obtain ⟨b, rfl⟩ := h; exact ⟨_, rfl, by simp⟩
    · obtain ⟨b, rfl, _⟩ := h; exact ⟨_, rfl, by simp⟩
    · obtain ⟨b, rfl, _⟩ := h; exact ⟨_, rfl, by simp⟩
    · obtain ⟨b, rfl, _⟩ := h; exact ⟨_, rfl, by simp⟩
    · rename_i e; rw [e] at hs; simp at hs
    · exact h.elim

theorem weightsAll_mem {H : Type} {P : Program} {e : TypeId} : ∀ {l : List (DataW H)} {d : DataW H}, d ∈ l → ∀ x ∈ d.weights P e, x ∈ DataW.weightsAll P e l
  | a :: l, d, hd, x, hx => by
    unfold DataW.weightsAll
    rcases List.mem_cons.1 hd with rfl | hd
    · exact List.mem_append_left _ hx
    · exact List.mem_append_right _ (weightsAll_mem hd x hx)

theorem weightsEach_mem {H : Type} {P : Program} : ∀ {ts : List TypeId} {l : List (DataW H)} {i : Nat} {t : TypeId} {d : DataW H}, ts[i]? = some t → l[i]? = some d → ∀ x ∈ d.weights P t, x ∈ DataW.weightsEach P ts l
  | t :: ts, d :: l, 0, _, _, ht, hd, x, hx => by
    simp at ht hd; subst ht; subst hd
    unfold DataW.weightsEach; exact List.mem_append_left _ hx
  | t :: ts, d :: l, i + 1, _, _, ht, hd, x, hx => by
    unfold DataW.weightsEach; exact List.mem_append_right _ (weightsEach_mem (i := i) (by simpa using ht) (by simpa using hd) x hx)
  | [], _, _, _, _, ht, _, _, _ => by simp at ht
  | _ :: _, [], _, _, _, _, hd, _, _ => by simp at hd

/-- cell by cell -/
def CellsRep (Φ : CM) (ds : List D) (cs : List Value) : Prop := ds.length = cs.length ∧ ∀ (j : Nat) d c, ds[j]? = some d → cs[j]? = some c → okCell c ∧ RepD Φ d c

theorem cellsRep_one {Φ : CM} {d : D} {c : Value} (h : okCell c) (h' : RepD Φ d c) : CellsRep Φ [d] [c] :=
  ⟨rfl, fun j d' c' hd hc => by cases j <;> simp at hd hc; subst hd; subst hc; exact ⟨h, h'⟩⟩

theorem CellsRep.append {Φ : CM} {a b : List D} {c d : List Value} (h : CellsRep Φ a c) (h' : CellsRep Φ b d) : CellsRep Φ (a ++ b) (c ++ d) := by
  refine ⟨by simp [h.1, h'.1], fun j x v hx hv => ?_⟩
  rw [List.getElem?_append] at hx hv
  rw [h.1] at hx
  split at hx
  · rename_i hlt; rw [if_pos hlt] at hv; exact h.2 j x v hx hv
  · rename_i hlt; rw [if_neg hlt] at hv; exact h'.2 _ x v hx hv

/-- fields, one behind the other -/
theorem fields_rep {P : Program} {Φ : CM} {n z : Nat} {cs : List Value} : ∀ (L : List Field) (o : Nat), consec P o L z = true → cs.length = z → o ≤ z →
    (∀ f ∈ L, ∃ ds, CellsRep Φ ds ((cs.drop f.offset).take (P.cellsOf f.type)) ∧ TyD P n f.type ds) → ∃ ds, CellsRep Φ ds (cs.drop o) ∧ ∀ f ∈ L, TyD P n f.type ((ds.drop (f.offset - o)).take (P.cellsOf f.type))
  | [], o, hc, hl, ho, _ => by
    simp only [consec, beq_iff_eq] at hc
    refine ⟨[], ?_, by simp⟩
    rw [List.drop_eq_nil_of_le (by omega)]
    exact ⟨rfl, by simp⟩
  | f :: L, o, hc, hl, ho, hf => by
    simp only [consec, Bool.and_eq_true, beq_iff_eq] at hc
    obtain ⟨rfl, hc⟩ := hc
    have hle : ∀ (L : List Field) (o : Nat), consec P o L z = true → o ≤ z := by
      intro L
      induction L with
      | nil => intro o h; simp only [consec, beq_iff_eq] at h; omega
      | cons g L ih => intro o h; simp only [consec, Bool.and_eq_true, beq_iff_eq] at h; have := ih _ h.2; omega
    have ho' := hle L _ hc
    obtain ⟨ds0, h1, h2⟩ := hf f (by simp)
    obtain ⟨ds, q1, q2⟩ := fields_rep L (f.offset + P.cellsOf f.type) hc hl ho' fun g hg => hf g (by simp [hg])
    have hd0 : ds0.length = P.cellsOf f.type := by rw [h1.1, List.length_take, List.length_drop]; omega
    refine ⟨ds0 ++ ds, ?_, fun g hg => ?_⟩
    · have := h1.append q1
      rw [← List.drop_drop, List.take_append_drop] at this
      exact this
    · rcases List.mem_cons.1 hg with rfl | hg
      · rw [Nat.sub_self, List.drop_zero, List.take_append_of_le_length (by omega), List.take_of_length_le (by omega)]; exact h2
      · have hoff : ∀ (L : List Field) (o : Nat), consec P o L z = true → ∀ g ∈ L, o ≤ g.offset := by
          intro L
          induction L with
          | nil => intro o h g hg; cases hg
          | cons k L ih =>
            intro o h g hg
            simp only [consec, Bool.and_eq_true, beq_iff_eq] at h
            rcases List.mem_cons.1 hg with rfl | hg
            · omega
            · have := ih _ h.2 g hg; omega
        have := hoff L _ hc g hg
        rw [List.drop_append, List.drop_eq_nil_of_le (by omega), List.nil_append, hd0, show g.offset - f.offset - P.cellsOf f.type = g.offset - (f.offset + P.cellsOf f.type) by omega]
        exact q2 g hg

theorem spot_of_cell {w : World} {a : Addr} {v : Value} (h : w.cell? a = some v) : a.spot = none := by
  unfold World.cell? at h
  split at h
  · split at h
    · cases h
    · rename_i hh; cases hs : a.spot with
      | none => rfl
      | some q => rw [hs] at hh; simp at hh
  · cases h

/-- What is read is data. -/
theorem trod_rep {H : Type} {enc : TypeId × Value → H} {P : Program} {w : World} {base : Nat} {spare : Nat → Bool} {held : Bool} :
    ∀ (n : Nat) {t : TypeId} {cs : List Value} {x : DataW H × List MemPlace} {fuel : Nat}, plainTy P n t = true → DataW.trod enc P w base spare held fuel t cs = some x → (∀ y ∈ x.1.weights P t, y ≤ reachBytes) →
      ∃ ds, CellsRep (cellsOfW w) ds cs ∧ TyD P n t ds := by
  intro n
  induction n with
  | zero => intro t cs x fuel hp; simp [plainTy] at hp
  | succ n ih =>
    intro t cs x fuel hp h hw
    unfold plainTy at hp
    unfold TyD
    split at hp
    · rename_i e
      obtain ⟨b, rfl, rfl⟩ := DataW.trod_bool e h
      exact ⟨[.bool b], cellsRep_one trivial (.bool b), b, rfl⟩
    · rename_i k e
      obtain ⟨b, rfl, rfl, hb⟩ := DataW.trod_int e h
      exact ⟨[.int k b], cellsRep_one trivial (.int k b), b, rfl, hb⟩
    · rename_i e
      obtain ⟨s, rfl, rfl, hs⟩ := DataW.trod_string e h
      refine ⟨[.str s], cellsRep_one trivial (.str s), s, rfl, ?_⟩
      have := hw s.data.toList.length (by simp [DataW.weights])
      simpa using this
    · rename_i e eu
      simp only [Bool.and_eq_true, decide_eq_true_eq] at hp
      obtain ⟨hz0, hp⟩ := hp
      rcases DataW.trod_slice eu h with ⟨rfl, rfl⟩ | ⟨a, len, cap, elems, rest, m, rfl, rfl, rfl, hb, hl, hm, hlen, hel, hsp, hns⟩
      · exact ⟨[.sl false (P.cellsOf e) []], cellsRep_one trivial .sl0, [], rfl, by simp, by simp, by simp⟩
      · have hw0 : (elems.length + rest.length) * P.bytesOf e ≤ reachBytes := by
          have := hw ((elems.length + rest.length) * P.bytesOf e) (by simp [DataW.weights, eu])
          exact this
        have hex : ∀ i, i < len → ∃ d : D, d.flat.length = P.cellsOf e ∧ CellsAt (cellsOfW w) false a.block (a.off + i * P.cellsOf e) d.flat ∧ (i = 0 → a.spot = none) ∧ (isStruct P e = true → ∃ cs, d = .agg cs) ∧ (isStruct P e = false → ∀ cs, d ≠ .agg cs) ∧ TyD P n e d.flat := by
          intro i hi
          have h1 := hel i hi
          have hs1 : elems[i]? = some (elems[i]'(by omega)) := by simp
          rw [hs1] at h1
          obtain ⟨cs', hc1, hc2⟩ := Option.bind_eq_some_iff.1 h1
          obtain ⟨_, hc4, hc5⟩ := World.cells?_some hc1
          obtain ⟨ds, ⟨q1, q2⟩, q3⟩ := ih (t := e) (x := elems[i]'(by omega)) hp hc2 (fun y hy => hw y (by
            simp only [DataW.weights, eu]
            refine List.mem_cons_of_mem _ (List.mem_append_left _ ?_)
            exact weightsAll_mem (List.mem_map.2 ⟨_, List.getElem_mem _, rfl⟩) y hy))
          have hspot : i = 0 → a.spot = none := by
            rintro rfl
            have h6 := hc5 0 hz0
            have h7 : cs'[0]? = some (cs'[0]'(by omega)) := by simp
            rw [h7] at h6
            simp only [Nat.zero_mul] at h6
            exact spot_of_cell (a := (a.add 0).add 0) h6
          have hcells : CellsAt (cellsOfW w) false a.block (a.off + i * P.cellsOf e) ds := by
            refine CellsAt.of fun j d hd => ?_
            have hj : j < P.cellsOf e := by rw [← hc4, ← q1]; exact (List.getElem?_eq_some_iff.1 hd).1
            have hcj : cs'[j]? = some (cs'[j]'(by omega)) := by simp
            have h6 := hc5 j hj
            rw [hcj] at h6
            obtain ⟨r1, r2⟩ := q2 j d _ hd hcj
            refine ⟨_, ?_, r1, r2⟩
            rw [← h6]
            show w.cell? ⟨a.block, a.off + i * P.cellsOf e + j, none⟩ = _
            congr 1
            have hsp := spot_of_cell h6
            have hb1 : ((a.add (i * P.cellsOf e)).add j).block = a.block := by unfold Addr.add; split <;> split <;> rfl
            have ho1 : ((a.add (i * P.cellsOf e)).add j).off = a.off + i * P.cellsOf e + j := by unfold Addr.add; split <;> split <;> simp_all
            rw [← hb1, ← ho1, ← hsp]
          cases hst : isStruct P e with
          | true => exact ⟨.agg ds, by simp [D.flat, q1, hc4], by simpa [D.flat] using hcells, hspot, fun _ => ⟨ds, rfl⟩, by simp, by simpa [D.flat] using q3⟩
          | false =>
            obtain ⟨d, rfl, hd⟩ := TyD.length_le q3 hst
            have hfl : d.flat = [d] := by cases d <;> first | rfl | exact absurd rfl (hd _)
            exact ⟨d, by rw [hfl, ← hc4, ← q1], by rw [hfl]; exact hcells, hspot, by simp, fun _ => hd, by rw [hfl]; exact q3⟩
        obtain ⟨f, hf⟩ := Deep.choose_lt hex
        refine ⟨[.sl false (P.cellsOf e) ((List.range len).map f)], cellsRep_one trivial ?_, (List.range len).map f, rfl, by simp; omega, ?_, ?_⟩
        · rcases Nat.eq_zero_or_pos len with rfl | hpos
          · exact .sl0
          · have hE : ∀ z, z = P.cellsOf e → ElemsAt (cellsOfW w) false z a.block a.off ((List.range len).map f) := by
              rintro z rfl
              refine ElemsAt.of fun i x hx => ?_
              simp only [List.getElem?_map, Option.map_eq_some_iff] at hx
              obtain ⟨i', hi', rfl⟩ := hx
              have hi'' := List.getElem?_eq_some_iff.1 hi'
              obtain ⟨hlt, he⟩ := hi''
              simp at hlt he; subst he
              obtain ⟨r1, r2, _⟩ := hf i hlt
              exact ⟨r1, r2⟩
            have hl' : ((List.range len).map f).length = len := by simp
            have hz : a = ⟨a.block, a.off, none⟩ := by
              have := (hf 0 hpos).2.2.1 rfl
              cases a with | mk b o sp => simp only at this; subst this; rfl
            have := RepD.sl (Φ := cellsOfW w) (z := P.cellsOf e) (b := a.block) (o := a.off) (xs := (List.range len).map f) (cap := cap) (by simp; omega) (by simpa using hl) (hE _ rfl)
            rw [hl'] at this
            rw [hz]; exact this
        · simp only [List.length_map, List.length_range]
          refine Nat.le_trans (Nat.mul_le_mul_right _ ?_) hw0
          omega
        · intro x hx
          simp only [List.mem_map, List.mem_range] at hx
          obtain ⟨i, hi, rfl⟩ := hx
          obtain ⟨r1, r2, r3, r4, r5, r6⟩ := hf i hi
          exact ⟨r1, r4, r5, r6⟩
    · rename_i fs eu
      simp only [Bool.and_eq_true, List.all_eq_true] at hp
      obtain ⟨hp1, hp2⟩ := hp
      obtain ⟨xs, m, rfl, rfl, hcl, hxl, hx⟩ := DataW.trod_struct eu h
      have hfld : ∀ (i : Nat) (f : Field), fs[i]? = some f → ∃ ds, CellsRep (cellsOfW w) ds ((cs.drop f.offset).take (P.cellsOf f.type)) ∧ TyD P n f.type ds := by
        intro i f hf
        have hi : i < xs.length := by rw [hxl]; exact (Array.getElem?_eq_some_iff.1 hf).1
        have h1 := hx i f hf
        rw [List.getElem?_eq_getElem hi] at h1
        refine ih (x := xs[i]) (hp1 f (by have := Array.mem_of_getElem? hf; simpa using this)) h1 fun y hy => hw y ?_
        simp only [DataW.weights, eu]
        exact weightsEach_mem (i := i) (by rw [List.getElem?_map, Array.getElem?_toList, hf]; rfl) (by rw [List.getElem?_map, List.getElem?_eq_getElem hi]; rfl) y hy
      obtain ⟨ds, q1, q2⟩ := fields_rep fs.toList 0 hp2 hcl (Nat.zero_le _) fun f hf => by
        obtain ⟨i, hi⟩ := List.getElem?_of_mem hf
        exact hfld i f (by simpa using hi)
      simp only [List.drop_zero, Nat.sub_zero] at q1 q2
      exact ⟨ds, q1, by rw [q1.1, hcl], fun f hf => q2 f hf⟩
    · cases hp

end Go.Idl
end
