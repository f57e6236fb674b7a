/- One operation. Part 10: maps.; One operation. Part 11: slices that are changed in place. -/
import Derived.Test.YtkfpaffcglijeaaPart04
set_option linter.all false
section
namespace Go.Idl

section
variable {P : Program} {κ : Ctx} {Φ : CM} {B : List Nat} {au : Auth} {s : St} {a : Act} {w : World} {K : St → Prop} {o : Oper}

/-- A new object. -/
theorem Inv.pushObj (h : Inv κ Φ B au s a w) {ob : Obj} {io : IObj}
    (hO : ∀ au' : Auth, au' w.heap.size = some (.obj s.hp.length, 0) → RepO Φ (B ++ [w.heap.size]) au' { w with heap := w.heap.push ob } s.hp.length w.heap.size io) :
    ∃ au', Inv κ Φ (B ++ [w.heap.size]) au' { s with hp := s.hp ++ [io] } a { w with heap := w.heap.push ob } := by
  have g := h.grow (Grows.push w ob)
  have hB : ∀ (i b : Nat), B[i]? = some b → (B ++ [w.heap.size])[i]? = some b := fun i b e => by
    rw [List.getElem?_append_left (List.getElem?_eq_some_iff.1 e).1]; exact e
  have hnew : au w.heap.size = none := by
    cases e : au w.heap.size with
    | none => rfl
    | some x => exact absurd (h.auw _ _ _ e).1 (Nat.lt_irrefl _)
  refine ⟨fun b => if b = w.heap.size then some (.obj s.hp.length, 0) else au b, ?_⟩
  have hau : ∀ b h0 st, au b = some (h0, st) → (if b = w.heap.size then some (Holder.obj s.hp.length, 0) else au b) = some (h0, st) := fun b h0 st e => by
    rw [if_neg]; exact e
    rintro rfl; rw [hnew] at e; cases e
  refine { g with phia := fun lb b o v h0 st hp e => ?_, auw := fun b h0 st e => ?_, pre := ?_, tm := fun i V v hV hv => ?_, hl := by simp [h.hl], nb := ⟨h.nb.1, by have := h.nb.2; simp; omega⟩, hp := fun id o b ho hb => ?_, df := ?_ }
  · split at e
    · rename_i eb
      have := h.phi _ b o v hp
      unfold World.cell? at this
      rw [eb] at this
      simp at this
    · exact h.phia _ b o v h0 st hp e
  · split at e
    · rename_i eb; subst eb; exact ⟨by simp, .inr h.size⟩
    · exact g.auw b h0 st e
  · exact h.pre.trans (List.prefix_append _ _)
  · obtain ⟨k1, k2⟩ := g.tm i V v hV hv
    exact ⟨k1.mono (CM.le_refl _) hB, k2.mono fun j b st e => ⟨hau b _ st e, rfl⟩⟩
  · by_cases hid : id < s.hp.length
    · rw [List.getElem?_append_left hid] at ho
      have hid' : id < B.length := by rw [← h.hl]; exact hid
      rw [List.getElem?_append_left hid'] at hb
      exact (g.hp id o b ho hb).mono (CM.le_refl _) hB (fun e => ⟨hau b _ _ e, rfl⟩) (fun j b st e => ⟨hau b _ st e, rfl⟩)
    · have hid1 : id = s.hp.length := by
        have := (List.getElem?_eq_some_iff.1 ho).1; simp at this; omega
      subst hid1
      simp at ho
      subst ho
      rw [h.hl] at hb
      simp at hb
      subst hb
      exact hO _ (by simp)
  · obtain ⟨rs, h1, h2, h3⟩ := g.df
    refine ⟨rs, h1, h2, fun r hr => ?_⟩
    obtain ⟨x, y, z⟩ := h3 r hr
    refine ⟨x, ?_, z⟩
    rw [if_neg]; exact y
    rintro rfl
    obtain ⟨rs', h1', h2', h3'⟩ := h.df
    rw [h1] at h1'
    have : rs = rs' := by
      have := congrArg (List.map fun d : Deferred => match d.target with | .collected r => r | _ => 0) h1'
      simpa [Function.comp_def] using this
    subst this
    have := lt_of_heap (h3' _ hr).1
    omega

theorem does_makeMap {t : TypeId} {r : List Oper} (h : Inv κ Φ B au s a w) (ho : o.op = .makeMap t none) (hk : stepK P o r s K) : Does P κ o a w K := by
  simp only [stepK, ho] at hk
  obtain ⟨au', g⟩ := h.pushObj (ob := .map #[] 0) (io := .map 0 []) fun au' ha => ⟨ha, #[], by simp, rfl, by simp⟩
  refine does_value (v := .map (some w.heap.size)) (w' := { w with heap := w.heap.push (.map #[] 0) }) ?_ hk ⟨Φ, _, au', g.put o.dst (.map (b := w.heap.size) ?_) fun _ _ => trivial⟩
  · unfold execOp; rw [ho]; refine run_v ?_
    simp [Instr.makeMap, newObj, Sem.run, pure]
  · rw [h.hl]; simp

theorem mapTy_inv {t kt et : TypeId} (e : mapTy P t = some (kt, et)) : P.underlying t = some (.map kt et) := by
  unfold mapTy at e
  split at e
  · rename_i e'; injection e with e; injection e with e1 e2; subst e1; subst e2; exact e'
  · cases e

/-- a map's object, seen -/
theorem Inv.mapAt (h : Inv κ Φ B au s a w) {id clock : Nat} {es : List (Nat × D × V)} (e : s.hp[id]? = some (.map clock es)) :
    ∃ b ms, B[id]? = some b ∧ au b = some (.obj id, 0) ∧ w.heap[b]? = some (.map ms clock) ∧ ms.size = es.length ∧
      ∀ (i : Nat) n k V, es[i]? = some (n, k, V) → ∃ e : MapEntry, ms[i]? = some e ∧ e.born = n ∧ RepD Φ k e.key ∧ RepS Φ B V e.val := by
  have hid : id < B.length := by rw [← h.hl]; exact (List.getElem?_eq_some_iff.1 e).1
  have hb : B[id]? = some B[id] := List.getElem?_eq_getElem hid
  obtain ⟨h1, ms, h2, h3, h4⟩ := h.hp id _ _ e hb
  exact ⟨_, ms, hb, h1, h2, h3, h4⟩

theorem run_checkFields {e : Bool} {n : Nat} {xs : List D} {cs : List Value} (hr : RepL Φ xs cs) : ∀ (fs : List Field), (fs.all fun f => (match P.underlying f.type, xs[f.offset]? with
    | some (.int c), some (.int a _) => a == c
    | _, _ => false)) = true →
    (forIn fs PUnit.unit (fun f _ => do
      if f.name ≠ "_" then Instr.checkKey e (n + 1) f.type (← part f.type cs.toArray f.offset)
      pure (ForInStep.yield PUnit.unit)) : Sem PUnit).run P w = .ok PUnit.unit w
  | [], _ => rfl
  | f :: fs, h => by
    simp only [List.all_cons, Bool.and_eq_true] at h
    obtain ⟨h1, h2⟩ := h
    split at h1
    · rename_i c a m hu hx
      have hkd : kindD P f.type = some false := by simp [kindD, hu]
      obtain ⟨v, g1, g2⟩ := run_part (P := P) (w := w) (t := f.type) (j := f.offset) (d := .int a m) hr (by simp [partD, hkd, D.flat, hx])
      have ih := run_checkFields (e := e) (n := n) hr fs h2
      rw [List.forIn_cons, Sem.run_bind]
      split
      · have hck : (Instr.checkKey e (n + 1) f.type v).run P w = .ok () w := by
          unfold Instr.checkKey
          rw [Sem.run_bind, run_underlying hu]; rfl
        rw [Sem.run_bind, g1]; simp only [Result.andThen_ok]
        rw [Sem.run_bind, hck]; exact ih
      · exact ih
    · cases h1

theorem run_checkKey {e : Bool} {n : Nat} {kt : TypeId} {k : D} {v : Value} (hk : keyOK P kt k = true) (hr : RepD Φ k v) : (Instr.checkKey e (n + 2) kt v).run P w = .ok () w := by
  unfold keyOK at hk
  split at hk
  · rename_i c a m hu
    unfold Instr.checkKey
    rw [Sem.run_bind, run_underlying hu]; rfl
  · rename_i fs xs hu
    cases hr with
    | agg hl =>
      rename_i cs
      unfold Instr.checkKey
      rw [Sem.run_bind, run_underlying hu]; simp only [Result.andThen_ok]
      rw [← Array.forIn_toList]
      have := run_checkFields (P := P) (w := w) (e := e) (n := n) hl fs.toList hk
      rw [Sem.run_bind]
      first | (rw [this]; rfl) | exact this
  · cases hk

def sameKey (k k' : D) : Prop := match k, k' with
  | .int c a, .int d b => c = d ∧ a = b
  | .agg xs, .agg ys => sameL xs ys = true
  | _, _ => False

theorem sameBits_of {n : Nat} : ∀ {k k' : D} {v v' : Value}, RepD Φ k v → RepD Φ k' v' → sameKey k k' → Instr.sameBits (n + 1) v v' = true := by
  intro k k' v v' h h' hs
  unfold sameKey at hs
  split at hs
  · obtain ⟨rfl, rfl⟩ := hs
    rw [repD_int h, repD_int h']; simp [Instr.sameBits]
  · cases h with
    | agg hx => cases h' with
      | agg hy =>
        rename_i xs ys cs cs'
        have key : ∀ (xs ys : List D) (cs cs' : List Value), RepL Φ xs cs → RepL Φ ys cs' → sameL xs ys = true → cs.length = cs'.length ∧ ((cs.zip cs').all fun (x, y) => Instr.sameBits n x y) = true := by
          intro xs
          induction xs with
          | nil =>
            intro ys cs cs' hx hy hs
            cases ys with
            | nil => cases hx; cases hy; simp
            | cons y ys => simp [sameL] at hs
          | cons x xs ih =>
            intro ys cs cs' hx hy hs
            cases ys with
            | nil => cases x <;> simp [sameL] at hs
            | cons y ys =>
              cases x <;> cases y <;> simp [sameL] at hs
              obtain ⟨rfl, rfl, hs⟩ := hs
              cases hx with
              | cons o1 d1 t1 => cases hy with
                | cons o2 d2 t2 =>
                  obtain ⟨q1, q2⟩ := ih _ _ _ t1 t2 hs
                  refine ⟨by simp [q1], ?_⟩
                  simp only [List.zip_cons_cons, List.all_cons, Bool.and_eq_true]
                  refine ⟨?_, q2⟩
                  rw [repD_int d1, repD_int d2]; cases n <;> simp [Instr.sameBits]
        obtain ⟨q1, q2⟩ := key _ _ _ _ hx hy hs
        simp only [Instr.sameBits]
        simp [q1]
        simpa using q2
  · exact hs.elim

/-- what is found, ideal and real -/
def FoundRep (Φ : CM) (B : List Nat) : Option (Nat × V) → Option (Nat × Value) → Prop
  | none, none => True
  | some (i, V), some (j, v) => i = j ∧ RepS Φ B V v
  | _, _ => False

theorem keyEq_now {kt : TypeId} {td : TypeDesc} {k k' : D} {v v' : Value} {b : Bool} (hu : P.underlying kt = some td) (hns : ∀ fs, td ≠ .struct fs) (e : keyEq P kt k k' = some b) (h : RepD Φ k v) (h' : RepD Φ k' v') : Instr.sameNow td v v' = some b := by
  unfold keyEq at e
  rw [hu] at e
  split at e
  · rename_i c a m c' n e0
    injection e0 with e0; subst e0
    split at e
    · rename_i hc; obtain ⟨rfl, rfl⟩ := hc
      injection e with e; subst e
      rw [repD_int h, repD_int h']
      simp only [Instr.sameNow, if_true]
      congr 1
    · cases e
  · rename_i fs xs ys e0
    injection e0 with e0
    exact absurd e0 (hns _)
  · cases e

theorem keyEq_struct {kt : TypeId} {fs : Array Field} {k k' : D} {v v' : Value} {b : Bool} (hu : P.underlying kt = some (.struct fs)) (e : keyEq P kt k k' = some b) (h : RepD Φ k v) (h' : RepD Φ k' v') : (Op.equal kt v v').run P w = .ok b w := by
  unfold keyEq at e
  rw [hu] at e
  split at e
  · rename_i e0; injection e0 with e0; cases e0
  · rename_i xs ys e0
    split at e
    · rename_i b' eb
      split at e
      · injection e with e; subst e
        cases hle : leafOffs P 8 kt with
        | none => simp [hle] at eb
        | some l =>
          simp only [hle, Option.bind_some] at eb
          cases h with
          | agg l1 => cases h' with
            | agg l2 => exact (run_equalIn_plain 8 kt l hle Op.maxDepth (by decide) b').1 xs ys _ _ fs hu l1 l2 eb
      · cases e
    · cases e
  · cases e

theorem keyEq_same {kt : TypeId} {k k' : D} (e : keyEq P kt k k' = some true) : sameKey k' k := by
  have sym : ∀ xs ys : List D, sameL xs ys = sameL ys xs := by
    intro xs
    induction xs with
    | nil => intro ys; cases ys <;> simp [sameL]
    | cons x xs ih =>
      intro ys
      cases ys with
      | nil => cases x <;> simp [sameL]
      | cons y ys => cases x <;> cases y <;> simp [sameL, ih ys, eq_comm]
  unfold keyEq at e
  split at e
  · split at e
    · rename_i hc; injection e with e; obtain ⟨rfl, rfl⟩ := hc; exact ⟨rfl, (of_decide_eq_true e).symm⟩
    · cases e
  · split at e
    · split at e
      · rename_i xs ys b h; injection e with e; subst e; show sameL _ _ = true; rw [sym]; exact h.symm
      · cases e
    · cases e
  · cases e

/-- a key is looked for -/
theorem run_find {kt : TypeId} {k : D} {v : Value} {es : List (Nat × D × V)} {ms : List MapEntry} {r : Option (Nat × V)} (hk : keyOK P kt k = true) (hr : RepD Φ k v) (hl : ms.length = es.length)
    (hg : ∀ (i : Nat) n k V, es[i]? = some (n, k, V) → ∃ e : MapEntry, ms[i]? = some e ∧ e.born = n ∧ RepD Φ k e.key ∧ RepS Φ B V e.val) (e : mfind P kt k es 0 = some r) :
    ∃ r', (Instr.findKey kt v ms).run P w = .ok r' w ∧ FoundRep Φ B r r' := by
  obtain ⟨td, hu⟩ : ∃ td, P.underlying kt = some td := by
    unfold keyOK at hk
    split at hk
    · exact ⟨_, ‹_›⟩
    · exact ⟨_, ‹_›⟩
    · cases hk
  unfold Instr.findKey
  rw [Sem.run_bind, run_underlying hu]; simp only [Result.andThen_ok]
  by_cases hs : ∃ fs, td = .struct fs
  · obtain ⟨fs, rfl⟩ := hs
    have ask : ∀ (es : List (Nat × D × V)) (ms : List MapEntry) (i : Nat), ms.length = es.length → (∀ (i : Nat) n k V, es[i]? = some (n, k, V) → ∃ e : MapEntry, ms[i]? = some e ∧ e.born = n ∧ RepD Φ k e.key ∧ RepS Φ B V e.val) → mfind P kt k es i = some r →
        ∃ r', (Instr.findAsking kt v ms i).run P w = .ok r' w ∧ FoundRep Φ B r r' := by
      intro es
      induction es with
      | nil =>
        intro ms i hl _ e
        cases ms with
        | nil => simp [mfind] at e; subst e; exact ⟨none, rfl, trivial⟩
        | cons m ms => simp at hl
      | cons x es ih =>
        intro ms i hl hg e
        cases ms with
        | nil => simp at hl
        | cons m ms =>
          obtain ⟨n, k', V⟩ := x
          obtain ⟨m', hm, _, hm2, hm3⟩ := hg 0 n k' V rfl
          simp at hm; subst hm
          simp only [mfind] at e
          unfold Instr.findAsking
          rw [Sem.run_bind]
          split at e
          · rename_i ek
            injection e with e; subst e
            rw [keyEq_struct hu ek hr hm2]
            exact ⟨some (i, m.val), rfl, rfl, hm3⟩
          · rename_i ek
            rw [keyEq_struct hu ek hr hm2]
            exact ih ms (i + 1) (by simpa using hl) (fun j n k V hj => hg (j + 1) n k V (by simpa using hj)) e
          · cases e
    have hask := ask es ms 0 hl hg e
    cases ms with
    | nil => exact hask
    | cons m ms =>
      have hnow : Instr.findNow (.struct fs) v (m :: ms) 0 = none := by simp [Instr.findNow, Instr.sameNow]
      simp only [hnow]; exact hask
  · have hns : ∀ fs, td ≠ .struct fs := fun fs h => hs ⟨fs, h⟩
    have now : ∀ (es : List (Nat × D × V)) (ms : List MapEntry) (i : Nat), ms.length = es.length → (∀ (i : Nat) n k V, es[i]? = some (n, k, V) → ∃ e : MapEntry, ms[i]? = some e ∧ e.born = n ∧ RepD Φ k e.key ∧ RepS Φ B V e.val) → mfind P kt k es i = some r →
        ∃ r', Instr.findNow td v ms i = some r' ∧ FoundRep Φ B r r' := by
      intro es
      induction es with
      | nil =>
        intro ms i hl _ e
        cases ms with
        | nil => simp [mfind] at e; subst e; exact ⟨none, rfl, trivial⟩
        | cons m ms => simp at hl
      | cons x es ih =>
        intro ms i hl hg e
        cases ms with
        | nil => simp at hl
        | cons m ms =>
          obtain ⟨n, k', V⟩ := x
          obtain ⟨m', hm, _, hm2, hm3⟩ := hg 0 n k' V rfl
          simp at hm; subst hm
          simp only [mfind] at e
          unfold Instr.findNow
          split at e
          · rename_i ek
            injection e with e; subst e
            rw [keyEq_now hu hns ek hr hm2]
            exact ⟨some (i, m.val), rfl, rfl, hm3⟩
          · rename_i ek
            rw [keyEq_now hu hns ek hr hm2]
            exact ih ms (i + 1) (by simpa using hl) (fun j n k V hj => hg (j + 1) n k V (by simpa using hj)) e
          · cases e
    obtain ⟨r', q1, q2⟩ := now es ms 0 hl hg e
    rw [q1]
    exact ⟨r', rfl, q2⟩

theorem zeroV_rep {t : TypeId} {V : V} (e : zeroV P t = some V) : ∃ z, (zeroValue t).run P w = .ok z w ∧ RepS Φ B V z ∧ ∀ au w h, OwnV au w h V z := by
  unfold zeroV at e
  split at e
  · rename_i hk
    split at e
    · rename_i cs c e1 ez
      split at e
      · rename_i hl
        injection e with e; subst e
        obtain ⟨i, hi, hz⟩ : ∃ i, P.info? t = some i ∧ i.zero = some (.agg c) := by
          cases e2 : P.info? t with
          | none => simp [e2] at ez
          | some i => exact ⟨i, rfl, by simpa [e2] using ez⟩
        have hr := zeroCs_rep (Φ := Φ) e1 hi hz
        refine ⟨_, run_zeroValue hi hz, .d ?_, fun _ _ _ => trivial⟩
        have := RepD.agg (Φ := Φ) (ds := cs) (cs := c.toList) (RepL.of (by simpa using hl) fun j d v hd hv => by
          obtain ⟨v', q1, q2, q3, _⟩ := hr j d hd
          simp only [Value.cells] at q1
          rw [Array.getElem?_toList, q1] at hv; injection hv with hv; subst hv; exact ⟨q2, q3⟩)
        simpa using this
      · cases e
    · cases e
  · rename_i hk
    split at e
    · rename_i zv ez
      injection e with e; subst e
      obtain ⟨i, hi, hz⟩ : ∃ i, P.info? t = some i ∧ i.zero = some zv := by
        cases e2 : P.info? t with
        | none => simp [e2] at ez
        | some i => exact ⟨i, rfl, by simpa [e2] using ez⟩
      exact ⟨zv, run_zeroValue hi hz, (constV_rep (au := fun _ => none) (w := w) (h := fun _ => .obj 0)).1, fun au w h => (constV_rep (Φ := Φ) (B := B)).2.1⟩
    · cases e
  · cases e

theorem does_lookup {t : TypeId} {x y : Operand} {ok : Bool} {r : List Oper} (h : Inv κ Φ B au s a w) (ho : o.op = .lookup t x y ok) (hk : stepK P o r s K) : Does P κ o a w K := by
  simp only [stepK, ho] at hk
  unfold lookupK at hk
  split at hk
  · rename_i id k kt et ex ek em
    rw [em] at ek
    simp only [Option.map_some, Option.getD_some] at ek
    split at hk
    · rename_i clock es ehp
      obtain ⟨hkey, hk⟩ := hk
      obtain ⟨b, ms, hb, h1, h2, h3, h4⟩ := h.mapAt ehp
      have hut := mapTy_inv em
      have hx := ev_rep (P := P) h t x
      rw [ex] at hx
      have hxv : a.eval x = .map (some b) := by
        generalize a.eval x = v at hx
        cases hx with | map q => rw [hb] at q; injection q with q; rw [q]
      have hkv := ev_d h ek
      have run : ∀ {r' : Option (Nat × Value)} {v : Value} {z : Bool}, (Instr.findKey kt (a.eval y) ms.toList).run P w = .ok r' w → ((match r' with | some (_, v) => pure (v, true) | none => do pure (← zeroValue et, false)) : Sem (Value × Bool)).run P w = .ok (v, z) w →
          (execOp a.eval o).run P w = .ok (.value (if ok then .tuple #[v, .bool z] else v)) w := by
        intro r' v z e1 e2
        unfold execOp; rw [ho]; refine run_v ?_
        simp only [hxv]
        unfold Instr.lookup
        rw [Sem.run_bind, run_underlying hut]; simp only [Result.andThen_ok]
        rw [Sem.run_bind]
        simp only [Sem.run_bind, run_getObj h2 rfl, Result.andThen_ok]
        simp only [Sem.run_pure, Result.andThen_ok]
        rw [run_checkKey hkey hkv]; simp only [Result.andThen_ok, e1]
        cases r' with
        | none =>
          simp only [Sem.run_bind] at e2 ⊢
          cases hz : (zeroValue et).run P w with
          | ok z' w' =>
            rw [hz] at e2
            simp only [Result.andThen_ok, Sem.run_pure, Result.ok.injEq, Prod.mk.injEq] at e2 ⊢
            obtain ⟨⟨rfl, rfl⟩, rfl⟩ := e2
            exact ⟨rfl, rfl⟩
          | halt _ _ => rw [hz] at e2; simp [Result.andThen] at e2
        | some p =>
          simp only [Sem.run_pure, Result.ok.injEq, Prod.mk.injEq] at e2
          obtain ⟨⟨rfl, rfl⟩, _⟩ := e2
          rfl
      split at hk
      · rename_i i V ef
        obtain ⟨r', g1, g2⟩ := run_find (B := B) (w := w) hkey hkv (by rw [Array.length_toList]; exact h3) (fun i n k V hi => by simpa using h4 i n k V hi) ef
        cases r' with
        | none => exact g2.elim
        | some p =>
          obtain ⟨j, v⟩ := p
          obtain ⟨_, hV⟩ := g2
          have := run (v := v) (z := true) g1 rfl
          cases ok with
          | false =>
            simp only [Bool.false_eq_true, if_false] at hk this
            exact does_plain h this hV.cp (fun _ => OwnV_cp) hk
          | true =>
            simp only [if_true] at hk this
            refine does_plain h this (.tup (cs := [v, .bool true]) (.cons hV.cp (.cons (.d (.bool _)) .nil))) (fun _ => ?_) hk
            rintro j z xs cs c e hj hc
            match j, hj with
            | 0, hj => simp at hj; cases V <;> simp [Idl.V.cp] at hj
            | 1, hj => simp at hj
            | j + 2, hj => simp at hj
      · rename_i ef
        obtain ⟨r', g1, g2⟩ := run_find (B := B) (w := w) hkey hkv (by rw [Array.length_toList]; exact h3) (fun i n k V hi => by simpa using h4 i n k V hi) ef
        cases r' with
        | some p => exact g2.elim
        | none =>
          split at hk
          · rename_i Z eZ
            obtain ⟨z, z1, z2, z3⟩ := zeroV_rep (Φ := Φ) (B := B) (w := w) eZ
            have := run (v := z) (z := false) g1 (by simp only [Sem.run_bind, z1, Result.andThen_ok, Sem.run_pure])
            cases ok with
            | false =>
              simp only [Bool.false_eq_true, if_false] at hk this
              exact does_plain h this z2 (fun _ => z3 _ _ _) hk
            | true =>
              simp only [if_true] at hk this
              refine does_plain h this (.tup (cs := [z, .bool false]) (.cons z2 (.cons (.d (.bool _)) .nil))) (fun hd => ?_) hk
              rintro j zz xs cs c e hj hc
              injection e with e; 
              match j, hj with
              | 0, hj =>
                simp at hj; subst hj
                have : c = z := by
                  subst e; simpa using hc.symm
                subst this
                exact z3 au w (fun _ => hd 0)
              | 1, hj => simp at hj
              | j + 2, hj => simp at hj
          · exact hk.elim
      · exact hk.elim
    · exact hk.elim
  · exact hk.elim

theorem run_setMap {b : Nat} {ms ms' : Array MapEntry} {c c' : Nat} (h2 : w.heap[b]? = some (.map ms c)) : (setObj b (.map ms' c')).run P w = .ok () { w with heap := w.heap.setIfInBounds b (.map ms' c') } := run_setObj h2 rfl

theorem Inv.setMap (h : Inv κ Φ B au s a w) {id b clock clock' : Nat} {ms ms' : Array MapEntry} {es' : List (Nat × D × V)} (hb : B[id]? = some b) (h1 : au b = some (.obj id, 0)) (h2 : w.heap[b]? = some (.map ms clock)) (h3 : ms'.size = es'.length)
    (h4 : ∀ (i : Nat) n k V, es'[i]? = some (n, k, V) → ∃ e : MapEntry, ms'[i]? = some e ∧ e.born = n ∧ RepD Φ k e.key ∧ RepS Φ B V e.val) :
    Inv κ Φ B au { s with hp := s.hp.set id (.map clock' es') } a { w with heap := w.heap.setIfInBounds b (.map ms' clock') } := by
  have hl : (w.heap.setIfInBounds b (.map ms' clock'))[b]? = some (.map ms' clock') := by
    rw [Array.getElem?_setIfInBounds, if_pos rfl, if_pos (lt_of_heap h2)]
  refine h.write hb h1 (by simp) (fun b' hb' => ?_) rfl rfl rfl (fun r hr => by rw [h2] at hr; cases hr) ⟨h1, ms', hl, h3, h4⟩
  show (w.heap.setIfInBounds b _)[b']? = _
  rw [Array.getElem?_setIfInBounds, if_neg (Ne.symm hb')]

theorem mfind_at {kt : TypeId} {k : D} {i : Nat} {V : V} : ∀ {es : List (Nat × D × Idl.V)} {n : Nat}, mfind P kt k es n = some (some (i, V)) → n ≤ i ∧ ∃ b k', es[i - n]? = some (b, k', V) ∧ keyEq P kt k k' = some true
  | [], n, e => by simp [mfind] at e
  | (b, k', v) :: es, n, e => by
    simp only [mfind] at e
    split at e
    · rename_i ek
      injection e with e; injection e with e; injection e with e1 e2; subst e1; subst e2
      exact ⟨Nat.le_refl _, b, k', by simp, ek⟩
    · obtain ⟨h1, b', k2, h2, h3⟩ := mfind_at e
      refine ⟨by omega, b', k2, ?_, h3⟩
      obtain ⟨m, rfl⟩ : ∃ m, i = n + 1 + m := ⟨i - (n + 1), by omega⟩
      rw [show n + 1 + m - (n + 1) = m by omega] at h2
      rw [show n + 1 + m - n = m + 1 by omega]; exact h2
    · cases e

theorem does_mapUpdate {t : TypeId} {x y z : Operand} {r : List Oper} (h : Inv κ Φ B au s a w) (ho : o.op = .mapUpdate t x y z) (hk : stepK P o r s K) : Does P κ o a w K := by
  simp only [stepK, ho] at hk
  obtain ⟨_, hk⟩ := hk
  unfold mapUpdateK at hk
  split at hk
  · rename_i id k kt et ex ek em
    rw [em] at ek hk
    simp only [Option.map_some, Option.getD_some] at ek hk
    split at hk
    · rename_i clock es ehp
      obtain ⟨hkey, hk⟩ := hk
      obtain ⟨b, ms, hb, h1, h2, h3, h4⟩ := h.mapAt ehp
      have hut := mapTy_inv em
      have hx := ev_rep (P := P) h t x
      rw [ex] at hx
      have hxv : a.eval x = .map (some b) := by
        generalize a.eval x = v at hx
        cases hx with | map q => rw [hb] at q; injection q with q; rw [q]
      have hkv := ev_d h ek
      have hzv := (ev_rep (P := P) h et z).cp
      have run : ∀ {r' : Option (Nat × Value)} {w' : World}, (Instr.findKey kt (a.eval y) ms.toList).run P w = .ok r' w → ((match r' with
          | some (i, _) => do
            let key ← Instr.keyThatStays (((ms[i]?).map (·.key)).getD (a.eval y)) (a.eval y)
            setObj b (.map (ms.modify i fun e => { e with key, val := a.eval z }) clock)
          | none => setObj b (.map (ms.push { key := a.eval y, val := a.eval z, born := clock }) (clock + 1))) : Sem Unit).run P w = .ok () w' →
          (execOp a.eval o).run P w = .ok .skip w' := by
        intro r' w' e1 e2
        unfold execOp; rw [ho]; refine run_u ?_
        simp only [hxv]
        unfold Instr.mapUpdate
        rw [Sem.run_bind, run_underlying hut]; simp only [Result.andThen_ok]
        rw [Sem.run_bind, run_getObj h2 rfl]; simp only [Result.andThen_ok]
        rw [Sem.run_bind, run_checkKey hkey hkv]; simp only [Result.andThen_ok]
        rw [Sem.run_bind, e1]; simp only [Result.andThen_ok]
        exact e2
      split at hk
      · rename_i i V ef
        obtain ⟨r', g1, g2⟩ := run_find (B := B) (w := w) hkey hkv (by rw [Array.length_toList]; exact h3) (fun i n k V hi => by simpa using h4 i n k V hi) ef
        cases r' with
        | none => exact g2.elim
        | some p =>
          obtain ⟨j, v⟩ := p
          obtain ⟨rfl, hV⟩ := g2
          obtain ⟨_, b0, k', hat, hkk⟩ := mfind_at ef
          simp only [Nat.sub_zero] at hat
          obtain ⟨e0, m1, m2, m3, m4⟩ := h4 i b0 k' V hat
          have hbits : Instr.sameBits 10000 e0.key (a.eval y) = true := sameBits_of (n := 9999) m3 hkv (keyEq_same hkk)
          have hrun := run (r' := some (i, v)) (w' := { w with heap := w.heap.setIfInBounds b (.map (ms.modify i fun e => { e with key := a.eval y, val := a.eval z }) clock) }) g1 (by
            simp only [m1, Option.map_some, Option.getD_some, Instr.keyThatStays, hbits, if_true, pure_bind]
            exact run_setMap h2)
          refine does_skip hrun hk ⟨Φ, B, au, (h.setMap (es' := es.modify i fun e => (e.1, e.2.1, (ev P et s z).cp)) hb h1 h2 (by simpa using h3) (fun j n k2 V2 hj => ?_)).put o.dst (.un _) fun _ _ => trivial⟩
          rw [List.getElem?_modify] at hj
          by_cases ej : i = j
          · subst ej
            rw [hat] at hj; simp at hj
            obtain ⟨rfl, rfl, rfl⟩ := hj
            refine ⟨{ e0 with key := a.eval y, val := a.eval z }, by simp [Array.getElem?_modify, m1], m2, ?_, hzv⟩
            have hs := keyEq_same hkk
            unfold sameKey at hs
            split at hs
            · obtain ⟨rfl, rfl⟩ := hs; exact hkv
            · rename_i xs ys
              have aux : ∀ (xs ys : List D), sameL xs ys = true → xs = ys := by
                intro xs
                induction xs with
                | nil => intro ys h; cases ys with | nil => rfl | cons y ys => simp [sameL] at h
                | cons x xs ih =>
                  intro ys h
                  cases ys with
                  | nil => cases x <;> simp [sameL] at h
                  | cons y ys =>
                    cases x <;> cases y <;> simp [sameL] at h
                    obtain ⟨rfl, rfl, h⟩ := h; rw [ih ys h]
              rw [aux _ _ hs]; exact hkv
            · exact hs.elim
          · simp [ej] at hj
            obtain ⟨e2, q1, q2, q3, q4⟩ := h4 j n k2 V2 hj
            exact ⟨e2, by simp [Array.getElem?_modify, ej, q1], q2, q3, q4⟩
      · rename_i ef
        obtain ⟨r', g1, g2⟩ := run_find (B := B) (w := w) hkey hkv (by rw [Array.length_toList]; exact h3) (fun i n k V hi => by simpa using h4 i n k V hi) ef
        cases r' with
        | some p => exact g2.elim
        | none =>
          have hrun := run (w' := { w with heap := w.heap.setIfInBounds b (.map (ms.push { key := a.eval y, val := a.eval z, born := clock }) (clock + 1)) }) g1 (run_setMap h2)
          refine does_skip hrun hk ⟨Φ, B, au, (h.setMap (es' := es ++ [(clock, k, (ev P et s z).cp)]) hb h1 h2 (by simp [h3]) (fun j n k2 V2 hj => ?_)).put o.dst (.un _) fun _ _ => trivial⟩
          by_cases ej : j < es.length
          · rw [List.getElem?_append_left ej] at hj
            obtain ⟨e2, q1, q2, q3, q4⟩ := h4 j n k2 V2 hj
            refine ⟨e2, ?_, q2, q3, q4⟩
            rw [Array.getElem?_push, if_neg (by omega)]; exact q1
          · rw [List.getElem?_append_right (by omega)] at hj
            have ej' : j = es.length := by
              have := (List.getElem?_eq_some_iff.1 hj).1; simp at this; omega
            subst ej'
            simp at hj
            obtain ⟨rfl, rfl, rfl⟩ := hj
            exact ⟨_, by rw [Array.getElem?_push, if_pos h3.symm], rfl, hkv, hzv⟩
      · exact hk.elim
    · exact hk.elim
  · exact hk.elim

theorem does_range {t : TypeId} {x : Operand} {r : List Oper} (h : Inv κ Φ B au s a w) (ho : o.op = .range t x) (hk : stepK P o r s K) : Does P κ o a w K := by
  simp only [stepK, ho] at hk
  split at hk
  · rename_i id ex
    split at hk
    · rename_i clock es ehp
      obtain ⟨hm, hk⟩ := hk
      obtain ⟨b, ms, hb, h1, h2, h3, h4⟩ := h.mapAt ehp
      obtain ⟨p, em⟩ := Option.isSome_iff_exists.1 hm
      have hut := mapTy_inv (kt := p.1) (et := p.2) em
      have hx := ev_rep (P := P) h t x
      rw [ex] at hx
      have hxv : a.eval x = .map (some b) := by
        generalize a.eval x = v at hx
        cases hx with | map q => rw [hb] at q; injection q with q; rw [q]
      obtain ⟨au', g⟩ := h.pushObj (ob := .mapIter (some b) clock #[] clock) (io := .iter id clock [] clock) fun au' ha => ⟨ha, b, by
        rw [List.getElem?_append_left (List.getElem?_eq_some_iff.1 hb).1]; exact hb, by simp⟩
      refine does_value (v := .pointer (some ⟨w.heap.size, 0, none⟩)) (w' := { w with heap := w.heap.push (.mapIter (some b) clock #[] clock) }) ?_ hk ⟨Φ, _, au', g.put o.dst (.ptr (b := w.heap.size) ?_) fun _ _ => trivial⟩
      · unfold execOp; rw [ho]; refine run_v ?_
        simp only [hxv]
        unfold Instr.range
        rw [Sem.run_bind, run_underlying hut]; simp only [Result.andThen_ok]
        rw [Sem.run_bind, run_getObj h2 rfl]; simp only [Result.andThen_ok]
        simp [newObj, Sem.run, pure]
      · rw [h.hl]; simp
    · exact hk.elim
  · exact hk.elim

theorem run_choose_mapNext {n : Nat} : ∃ i w', (choose (.mapNext n)).run P w = .ok i w' ∧ Grows w w' ∧ (0 < n → i < n) := by
  by_cases hn : n ≤ 1
  · refine ⟨0, w, ?_, Grows.refl w, fun h => h⟩
    simp [choose, Sem.run, Question.forced, hn, pure]
  · refine ⟨w.tape w.drawn (.mapNext n) % n, w.drew, ?_, Grows.drew w _, fun _ => ?_⟩
    rotate_left
    · exact Nat.mod_lt (w.tape w.drawn (.mapNext n)) (by omega)
    · simp [choose, Sem.run, Question.forced, hn, pure, Question.cut]

theorem does_next {x : Operand} {r : List Oper} (h : Inv κ Φ B au s a w) (ho : o.op = .next x false) (hk : stepK P o r s K) : Does P κ o a w K := by
  simp only [stepK, ho] at hk
  unfold nextK at hk
  split at hk
  · rename_i id ex
    split at hk
    · rename_i m since seen last ehp
      split at hk
      · rename_i clock es ehm
        obtain ⟨hlast, hend, hstep⟩ := hk
        obtain ⟨bm, ms, hbm, h1, h2, h3, h4⟩ := h.mapAt ehm
        have hid : id < B.length := by rw [← h.hl]; exact (List.getElem?_eq_some_iff.1 ehp).1
        have hb : B[id]? = some B[id] := List.getElem?_eq_getElem hid
        obtain ⟨i1, bm', i2, i3⟩ := h.hp id _ _ ehp hb
        rw [hbm] at i2; injection i2 with i2; subst i2
        have hx := ev_rep (P := P) h 0 x
        rw [ex] at hx
        have hxv := hx.ptr_inv hb
        generalize B[id] = b at *
        -- the run
        have hcond : (!(seen.toArray).isEmpty && !ms.isEmpty && ms.all (·.born ≥ last)) = false := by
          rcases hlast with rfl | rfl | he
          · simp
          · have : ms = #[] := by have := h3; simp at this; exact this
            subst this; simp
          · rw [List.any_eq_true] at he
            obtain ⟨⟨n, k, V⟩, hmem, hlt⟩ := he
            obtain ⟨i, hi, hie⟩ := List.getElem_of_mem hmem
            obtain ⟨e, q1, q2, _⟩ := h4 i n k V (by rw [← hie]; exact List.getElem?_eq_getElem hi)
            have : ms.all (·.born ≥ last) = false := by
              rw [Array.all_eq_false]
              obtain ⟨hi', he'⟩ := Array.getElem?_eq_some_iff.1 q1
              refine ⟨i, hi', ?_⟩
              rw [he', q2]; simpa using hlt
            rw [this]; simp
        generalize hcand : (if ((ms.filter fun e => !(seen.toArray).contains e.born).filter (·.born < since)).isEmpty then #[none] else #[]) ++ (((ms.filter fun e => !(seen.toArray).contains e.born).filter (·.born < since)) ++ ((ms.filter fun e => !(seen.toArray).contains e.born).filter (·.born ≥ since))).map some = cand
        have hpos : 0 < cand.size := by
          rw [← hcand]
          split
          · simp; omega
          · rename_i hne
            have : 0 < ((ms.filter fun e => !(seen.toArray).contains e.born).filter (·.born < since)).size := by
              rw [Array.isEmpty_iff_size_eq_zero] at hne; omega
            simp only [Array.size_append, Array.size_map]; omega
        obtain ⟨i, w', hch, hg, hlt⟩ := run_choose_mapNext (P := P) (w := w) (n := cand.size)
        have hci := Array.getElem?_eq_getElem (hlt hpos)
        have hrun : ∀ {y : Value} {w2 : World}, ((match cand[i]? with
            | some (some e) => do
              setObj b (.mapIter (some bm) since (seen.toArray.push e.born) clock)
              pure (.tuple #[.bool true, e.key, e.val])
            | some none => pure (.tuple #[.bool false])
            | none => stuck "Next: no such candidate") : Sem Value).run P w' = .ok y w2 → (execOp a.eval o).run P w = .ok (.value y) w2 := by
          intro y w2 e
          unfold execOp; rw [ho]; refine run_v ?_
          simp only [hxv]
          unfold Instr.next
          simp only
          rw [Sem.run_bind, run_getObj i3 rfl]; simp only [Result.andThen_ok]
          rw [Sem.run_bind, run_getObj h2 rfl]; simp only [Result.andThen_ok]
          rw [hcond]
          simp only [Bool.false_eq_true, if_false]
          rw [hcand, Sem.run_bind, hch]; simp only [Result.andThen_ok]
          exact e
        have hmem : cand[i]'(hlt hpos) ∈ cand := Array.getElem_mem _
        cases hc : cand[i]'(hlt hpos) with
        | none =>
          rw [hc] at hci hmem
          have hold : ((ms.filter fun e => !(seen.toArray).contains e.born).filter (·.born < since)).isEmpty = true := by
            rw [← hcand] at hmem
            rw [Array.mem_append] at hmem
            rcases hmem with hm | hm
            · split at hm
              · assumption
              · simp at hm
            · simp at hm
          have hempty : (es.filter fun e => !seen.contains e.1 && decide (e.1 < since)) = [] := by
            rw [List.filter_eq_nil_iff]
            rintro ⟨n, k, V⟩ hme hc2
            obtain ⟨j, hj, hje⟩ := List.getElem_of_mem hme
            obtain ⟨e, q1, q2, _⟩ := h4 j n k V (by rw [← hje]; exact List.getElem?_eq_getElem hj)
            simp only [Bool.and_eq_true, Bool.not_eq_true', decide_eq_true_eq] at hc2
            have : e ∈ ((ms.filter fun e => !(seen.toArray).contains e.born).filter (·.born < since)) := by
              rw [Array.mem_filter, Array.mem_filter]
              refine ⟨⟨Array.mem_of_getElem? q1, ?_⟩, ?_⟩
              · rw [q2]; simpa using hc2.1
              · rw [q2]; simpa using hc2.2
            rw [Array.isEmpty_iff] at hold
            rw [hold] at this; simp at this
          have := hrun (y := .tuple #[.bool false]) (w2 := w') (by rw [hci]; rfl)
          refine does_value this (hend hempty) ⟨Φ, B, au, (h.grow hg).put o.dst (.tup (cs := [.bool false]) (.cons (.d (.bool _)) .nil)) fun _ _ => ?_⟩
          rintro j z xs cs c e hj hc
          cases j <;> simp at hj
        | some e =>
          rw [hc] at hci hmem
          have hme : e ∈ ms ∧ seen.contains e.born = false := by
            rw [← hcand] at hmem
            rw [Array.mem_append] at hmem
            rcases hmem with hm | hm
            · split at hm <;> simp at hm
            · rw [Array.mem_map] at hm
              obtain ⟨e', he', hee⟩ := hm
              injection hee with hee; subst hee
              rw [Array.mem_append] at he'
              rcases he' with he' | he' <;> (rw [Array.mem_filter, Array.mem_filter] at he'; exact ⟨he'.1.1, by simpa using he'.1.2⟩)
          obtain ⟨hm1, hm2⟩ := hme
          obtain ⟨j, hj, hje⟩ := Array.getElem_of_mem hm1
          have hj' : j < es.length := by omega
          obtain ⟨e2, q1, q2, q3, q4⟩ := h4 j es[j].1 es[j].2.1 es[j].2.2 (List.getElem?_eq_getElem hj')
          have : e2 = e := by rw [Array.getElem?_eq_getElem hj, hje] at q1; injection q1 with q1; exact q1.symm
          subst this
          have hk2 := hstep es[j] (List.getElem_mem hj') (by rw [← q2]; exact hm2)
          have hl' : w'.heap[b]? = some (.mapIter (some bm) since seen.toArray last) := (hg.same b (lt_of_heap i3)).trans i3
          have := hrun (y := .tuple #[.bool true, e2.key, e2.val]) (w2 := { w' with heap := w'.heap.setIfInBounds b (.mapIter (some bm) since (seen.toArray.push e2.born) clock) }) (by
            rw [hci]; simp only
            rw [Sem.run_bind, run_setObj hl' rfl]; rfl)
          refine does_value this hk2 ⟨Φ, B, au, Inv.put (s := { s with hp := s.hp.set id (.iter m since (seen ++ [es[j].1]) clock) }) ?_ o.dst (.tup (cs := [.bool true, e2.key, e2.val]) (.cons (.d (.bool _)) (.cons (.d q3) (.cons q4.cp .nil)))) fun _ _ => ?_⟩
          · have hlb : (w'.heap.setIfInBounds b (.mapIter (some bm) since (seen.toArray.push e2.born) clock))[b]? = some (.mapIter (some bm) since (seen.toArray.push e2.born) clock) := by
              rw [Array.getElem?_setIfInBounds, if_pos rfl, if_pos (lt_of_heap hl')]
            refine (h.grow hg).write hb i1 (by simp) (fun b' hb' => ?_) rfl rfl rfl (fun r hr => by rw [hl'] at hr; cases hr) ⟨i1, bm, hbm, by rw [hlb, q2]; simp⟩
            show (w'.heap.setIfInBounds b _)[b']? = _
            rw [Array.getElem?_setIfInBounds, if_neg (Ne.symm hb')]
          · rintro jj z xs cs c e hjj hcc
            match jj, hjj with
            | 0, hjj => simp at hjj
            | 1, hjj => simp at hjj
            | 2, hjj =>
              simp at hjj
              cases hV : es[j].2.2 <;> rw [hV] at hjj <;> simp [Idl.V.cp] at hjj
            | jj + 3, hjj => simp at hjj
      · exact hk.elim
    · exact hk.elim
  · exact hk.elim

end
end Go.Idl
end
section
namespace Go.Idl

section
variable {P : Program} {κ : Ctx} {Φ : CM} {B : List Nat} {au : Auth} {s : St} {a : Act} {w : World} {K : St → Prop} {o : Oper}

theorem RepL.append {ds es : List D} {cs fs : List Value} (h : RepL Φ ds cs) (h' : RepL Φ es fs) : RepL Φ (ds ++ es) (cs ++ fs) := by
  induction ds generalizing cs with
  | nil => cases h; simpa using h'
  | cons d ds ih => cases h with
    | cons a b c => exact .cons a b (ih c)

theorem RepL.take {ds : List D} {cs : List Value} (h : RepL Φ ds cs) (n : Nat) : RepL Φ (ds.take n) (cs.take n) := by
  induction n generalizing ds cs with
  | zero => exact .nil
  | succ n ih => cases h with
    | nil => exact .nil
    | cons a b c => exact .cons a b (ih c)

theorem RepL.drop {ds : List D} {cs : List Value} (h : RepL Φ ds cs) (n : Nat) : RepL Φ (ds.drop n) (cs.drop n) := by
  induction n generalizing ds cs with
  | zero => exact h
  | succ n ih => cases h with
    | nil => exact .nil
    | cons a b c => exact ih c

theorem flat_take {z : Nat} {xs : List D} (hz : ∀ x ∈ xs, x.flat.length = z) (n : Nat) : (xs.take n).flatMap D.flat = (xs.flatMap D.flat).take (n * z) := by
  induction n generalizing xs with
  | zero => simp
  | succ n ih =>
    cases xs with
    | nil => simp
    | cons x xs =>
      have hx := hz x (by simp)
      have hm : (n + 1) * z = z + n * z := by rw [Nat.add_mul]; omega
      rw [List.take_succ_cons, List.flatMap_cons, List.flatMap_cons, ih (fun y hy => hz y (by simp [hy])), List.take_append, hx, hm, List.take_of_length_le (l := x.flat) (by omega), Nat.add_sub_cancel_left]

theorem flat_drop {z : Nat} {xs : List D} (hz : ∀ x ∈ xs, x.flat.length = z) (n : Nat) : (xs.drop n).flatMap D.flat = (xs.flatMap D.flat).drop (n * z) := by
  induction n generalizing xs with
  | zero => simp
  | succ n ih =>
    cases xs with
    | nil => simp
    | cons x xs =>
      have hx := hz x (by simp)
      have hm : (n + 1) * z = z + n * z := by rw [Nat.add_mul]; omega
      rw [List.drop_succ_cons, List.flatMap_cons, ih (fun y hy => hz y (by simp [hy])), List.drop_append, hx, hm, List.drop_eq_nil_of_le (as := x.flat) (by omega), Nat.add_sub_cancel_left, List.nil_append]

/-- an array's block, as a row of cells -/
theorem Inv.arrFlat (h : Inv κ Φ B au s a w) {id z : Nat} {xs : List D} (e : s.hp[id]? = some (.arr z xs)) (hne : xs ≠ []) (hz0 : 0 < z) :
    ∃ b c el, B[id]? = some b ∧ au b = some (.obj id, 0) ∧ w.heap[b]? = some (.cells c el (0, 0)) ∧ c.size = xs.length * z ∧ (∀ x ∈ xs, x.flat.length = z) ∧ RepL Φ (xs.flatMap D.flat) c.toList := by
  obtain ⟨b, c, el, hb, h1, h2, h3, h4⟩ := h.arrAt e hne
  have hz : ∀ x ∈ xs, x.flat.length = z := fun x hx => by
    obtain ⟨i, hi, rfl⟩ := List.getElem_of_mem hx
    exact (h4 i _ (List.getElem?_eq_getElem hi)).1
  refine ⟨b, c, el, hb, h1, h2, h3, hz, RepL.of (by rw [flat_length hz, ← h3]; simp) fun k d v hd hv => ?_⟩
  obtain ⟨q, r, hr', rfl⟩ : ∃ q r, r < z ∧ k = q * z + r := ⟨k / z, k % z, Nat.mod_lt _ hz0, by rw [Nat.mul_comm]; exact (Nat.div_add_mod k z).symm⟩
  rw [flat_get hz q r hr'] at hd
  cases hx : xs[q]? with
  | none => simp [hx] at hd
  | some x =>
    simp [hx] at hd
    obtain ⟨_, g⟩ := h4 q x hx
    obtain ⟨v', m1, m2, m3⟩ := g r d hd
    rw [Array.getElem?_toList, m1] at hv; injection hv with hv; subst hv
    exact ⟨m2, m3⟩

theorem arrRep_of_flat {id b z : Nat} {xs : List D} {c : Array Value} {el : TypeId} (h1 : au b = some (.obj id, 0)) (h2 : w.heap[b]? = some (.cells c el (0, 0))) (hz : ∀ x ∈ xs, x.flat.length = z) (hr : RepL Φ (xs.flatMap D.flat) c.toList) : RepO Φ B au w id b (.arr z xs) := by
  obtain ⟨q1, q2⟩ := hr.get
  refine fun _ => ⟨h1, c, el, h2, by rw [← flat_length hz, q1]; simp, fun i x hx => ?_⟩
  have hxz := hz x (List.mem_of_getElem? hx)
  refine ⟨hxz, fun j d hd => ?_⟩
  have hj : j < z := by rw [← hxz]; exact (List.getElem?_eq_some_iff.1 hd).1
  have hg := flat_get hz i j hj
  rw [hx, Option.bind_some, hd] at hg
  have hlt : i * z + j < c.toList.length := by rw [← q1]; exact (List.getElem?_eq_some_iff.1 hg).1
  obtain ⟨a1, a2⟩ := q2 _ d _ hg (List.getElem?_eq_getElem hlt)
  exact ⟨c.toList[i * z + j], by rw [← Array.getElem?_toList]; exact List.getElem?_eq_getElem hlt, a1, a2⟩

/-- what a slice shows, read -/
theorem run_elems (h : Inv κ Φ B au s a w) {X : V} {v : Value} {z : Nat} {ys : List D} (e : elemsOf s X = some (z, ys)) (hz0 : 0 < z) (hr : RepS Φ B X v) :
    ∃ ad cap, v = .slice ad ys.length cap ∧ ∃ vs : List Value, (∀ (n : Nat) w', n ≤ ys.length → Grows w w' → (Builtin.firstCells z n v).run P w' = .ok (vs.take (n * z)).toArray w') ∧ RepL Φ (ys.flatMap D.flat) vs ∧ vs.length = ys.length * z ∧ (∀ x ∈ ys, x.flat.length = z) ∧ ∀ v ∈ vs, okCell v := by
  have data : ∀ {l : Bool}, RepD Φ (.sl l z ys) v → ∃ ad cap, v = .slice ad ys.length cap ∧ ∃ vs : List Value, (∀ (n : Nat) w', n ≤ ys.length → Grows w w' → (Builtin.firstCells z n v).run P w' = .ok (vs.take (n * z)).toArray w') ∧ RepL Φ (ys.flatMap D.flat) vs ∧ vs.length = ys.length * z ∧ (∀ x ∈ ys, x.flat.length = z) ∧ ∀ v ∈ vs, okCell v := by
    intro l hr
    obtain ⟨ad, cap, rfl, _, he⟩ := hr.sl_inv
    refine ⟨ad, cap, rfl, ?_⟩
    by_cases hne : ys = []
    · subst hne
      refine ⟨[], fun n w' hn _ => ?_, .nil, by simp, by simp, by simp⟩
      have : n = 0 := by simpa using hn
      subst this
      cases ad with
      | none => rw [Nat.zero_mul]; rfl
      | some ad =>
        show (loadCells ad (0 * z)).run P w' = _
        rw [Nat.zero_mul]; rfl
    · obtain ⟨b, off, rfl, he'⟩ := he hne
      obtain ⟨hc, hz⟩ := ElemsAt.flat he'
      obtain ⟨vs, h1, h2, h3⟩ := hc.cells
      have hl : vs.length = ys.length * z := by rw [h1, flat_length hz]
      refine ⟨vs, fun n w' hn g => ?_, h3, hl, hz, fun v hv => ?_⟩
      · show (loadCells ⟨b, off, none⟩ (n * z)).run P w' = _
        have hnl : (vs.take (n * z)).length = n * z := by
          rw [List.length_take, hl]
          have := Nat.mul_le_mul_right z hn; omega
        rw [← hnl]
        refine (run_loadCells fun j v hj => g.cell (h.phi _ _ _ _ (h2 j v ?_))).trans (by rw [hnl])
        rw [List.getElem?_take] at hj
        split at hj
        · exact hj
        · cases hj
      · obtain ⟨j, hj, rfl⟩ := List.getElem_of_mem hv
        obtain ⟨q1, q2⟩ := h3.get
        have hj' : j < (ys.flatMap D.flat).length := by rw [q1]; exact hj
        exact (q2 j _ _ (List.getElem?_eq_getElem hj') (List.getElem?_eq_getElem hj)).1
  unfold elemsOf at e
  split at e
  · injection e with e; injection e with e1 e2; subst e1; subst e2
    cases hr with | d hr => exact data hr
  · injection e with e; injection e with e1 e2; subst e1; subst e2
    cases hr with | own hr => exact data hr
  · injection e with e; injection e with e1 e2; subst e1; subst e2
    cases hr with | nil => exact data (l := false) .sl0
  · rename_i id z1 off len cap
    split at e
    · rename_i z' xs ehp
      split at e
      · rename_i hc
        obtain ⟨rfl, hlc, hoc⟩ := hc
        injection e with e; injection e with e1 e2; subst e1; subst e2
        have hlen : ((xs.drop off).take len).length = len := by simp; omega
        rw [hlen]
        by_cases hl0 : len = 0
        · subst hl0
          obtain ⟨ad, rfl⟩ : ∃ ad, v = .slice ad 0 cap := by cases hr <;> exact ⟨_, rfl⟩
          refine ⟨ad, cap, rfl, [], fun n w' hn _ => ?_, by simp; exact .nil, by simp, by simp, by simp⟩
          have : n = 0 := by omega
          subst this
          cases ad with
          | none => rw [Nat.zero_mul]; rfl
          | some ad =>
            show (loadCells ad (0 * z')).run P w' = _
            rw [Nat.zero_mul]; rfl
        · have hne : xs ≠ [] := by rintro rfl; simp at hoc; omega
          obtain ⟨b, c, el, hb, h1, h2, h3, hz, hrep⟩ := h.arrFlat ehp hne hz0
          cases hr with
          | ref0 => omega
          | ref hb' hle had =>
            rw [hb] at hb'; injection hb' with hb'; subst hb'
            obtain rfl := had (by omega)
            have hz' : ∀ x ∈ (xs.drop off).take len, x.flat.length = z' := fun x hx => hz x (List.mem_of_mem_drop (List.mem_of_mem_take hx))
            have hfl : ((xs.drop off).take len).flatMap D.flat = ((xs.flatMap D.flat).drop (off * z')).take (len * z') := by
              rw [flat_take (fun x hx => hz x (List.mem_of_mem_drop hx)), flat_drop hz]
            have hmul : (off + len) * z' ≤ xs.length * z' := Nat.mul_le_mul_right z' (by omega)
            rw [Nat.add_mul] at hmul
            have hvl : ((c.toList.drop (off * z')).take (len * z')).length = len * z' := by
              simp only [List.length_take, List.length_drop, Array.length_toList, h3]; omega
            refine ⟨_, _, rfl, (c.toList.drop (off * z')).take (len * z'), fun n w' hn g => ?_, by rw [hfl]; exact (hrep.drop _).take _, hvl, hz', fun v hv => ?_⟩
            · show (loadCells ⟨b, off * z', none⟩ (n * z')).run P w' = _
              have hmn := Nat.mul_le_mul_right z' hn
              have hnl : ((((c.toList.drop (off * z')).take (len * z'))).take (n * z')).length = n * z' := by
                rw [List.length_take, hvl]; omega
              conv => lhs; rw [← hnl]
              refine run_loadCells fun j v hj => ?_
              rw [List.getElem?_take] at hj
              split at hj
              · rw [List.getElem?_take] at hj
                split at hj
                · rw [List.getElem?_drop, Array.getElem?_toList] at hj
                  exact g.cell (by rw [cell_of h2]; exact hj)
                · cases hj
              · cases hj
            · obtain ⟨q1, q2⟩ := hrep.get
              have hv' := List.mem_of_mem_drop (List.mem_of_mem_take hv)
              obtain ⟨j, hj, rfl⟩ := List.getElem_of_mem hv'
              have hj' : j < (xs.flatMap D.flat).length := by rw [q1]; exact hj
              exact (q2 j _ _ (List.getElem?_eq_getElem hj') (List.getElem?_eq_getElem hj)).1
      · cases e
    · cases e
  · cases e

/-- A row of elements is written into an array. -/
theorem Inv.writeArr (h : Inv κ Φ B au s a w) {id z n : Nat} {xs ys : List D} {vs : List Value} {b : Nat} {c : Array Value} {el : TypeId} {w' : World} (hb : B[id]? = some b) (h1 : au b = some (.obj id, 0)) (h2 : w.heap[b]? = some (.cells c el (0, 0))) (h3 : c.size = xs.length * z)
    (hz : ∀ x ∈ xs, x.flat.length = z) (hrep : RepL Φ (xs.flatMap D.flat) c.toList) (hy : RepL Φ (ys.flatMap D.flat) vs) (hyz : ∀ x ∈ ys, x.flat.length = z) (hn : n + ys.length ≤ xs.length) (g : Writes w w' b c el (n * z) vs) :
    Inv κ Φ B au { s with hp := s.hp.set id (.arr z (xs.take n ++ ys ++ xs.drop (n + ys.length))) } a w' := by
  obtain ⟨c', q1, q2, q3, q4⟩ := g.here
  have hvl : vs.length = ys.length * z := by rw [← hy.get.1, flat_length hyz]
  have hmul := Nat.mul_le_mul_right z hn
  rw [Nat.add_mul] at hmul
  have hc' : c'.toList = c.toList.take (n * z) ++ vs ++ c.toList.drop ((n + ys.length) * z) := by
    apply List.ext_getElem?
    intro k
    rw [Array.getElem?_toList]
    by_cases k1 : k < n * z
    · rw [q4 k (.inl k1), List.append_assoc, List.getElem?_append_left (by simp; omega), List.getElem?_take, if_pos k1, Array.getElem?_toList]
    · by_cases k2 : k < n * z + vs.length
      · rw [q3 k (by omega) k2, List.append_assoc, List.getElem?_append_right (by simp; omega), List.getElem?_append_left (by simp; omega)]
        congr 1; simp; omega
      · rw [q4 k (.inr (by omega)), List.getElem?_append_right (by simp; omega), List.getElem?_drop, Array.getElem?_toList]
        congr 1; simp; rw [Nat.add_mul]; omega
  refine h.write hb h1 g.size g.there g.tape g.os g.out (fun r hr => by rw [h2] at hr; cases hr) (arrRep_of_flat h1 q1 (fun x hx => ?_) ?_)
  · simp only [List.mem_append] at hx
    rcases hx with (hx | hx) | hx
    · exact hz x (List.mem_of_mem_take hx)
    · exact hyz x hx
    · exact hz x (List.mem_of_mem_drop hx)
  · rw [List.flatMap_append, List.flatMap_append, flat_take hz, flat_drop hz, hc']
    exact ((hrep.take _).append hy).append (hrep.drop _)

theorem zeroEl_inv {t : TypeId} {z y : Nat} {zd : D} (e : zeroEl P t = some zd) (hel : elI P t = some (z, y)) (hzd : zd.flat.length = z) :
    ∃ el i zv, P.underlying t = some (.slice el) ∧ P.info? el = some i ∧ i.zero = some zv ∧ i.size = z ∧ i.bytes = y ∧ zv.cells.size = z ∧ RepL Φ zd.flat zv.cells.toList := by
  obtain ⟨el, i, zv, hut, hi, hzv, hsz, hby, hzs⟩ := elI_inv hel
  have : elemTy P t = some el := by simp [elemTy, hut]
  simp only [zeroEl, this, Option.bind_some] at e
  exact ⟨el, i, zv, hut, hi, hzv, hsz, hby, hzs, zero_rep e hi hzv (by rw [hzd, hzs])⟩

/-- so many zeros, as the machine makes them -/
theorem zeros_rep' {zd : D} {zc : Array Value} {n z : Nat} (hr : RepL Φ zd.flat zc.toList) (hz : zd.flat.length = z) (hz0 : 0 < z) :
    RepL Φ ((List.replicate n zd).flatMap D.flat) (Builtin.zeroCells zc n).toList := by
  have h := zeros_rep (n := n) hr hz hz0
  have : zc.size = z := by rw [← hz, hr.get.1]; simp
  unfold Builtin.zeroCells
  rw [this] at h ⊢
  exact h

theorem repL_ok {ds : List D} {cs : List Value} (h : RepL Φ ds cs) : ∀ v ∈ cs, okCell v := by
  intro v hv
  obtain ⟨q1, q2⟩ := h.get
  obtain ⟨j, hj, rfl⟩ := List.getElem_of_mem hv
  have hj' : j < ds.length := by rw [q1]; exact hj
  exact (q2 j _ _ (List.getElem?_eq_getElem hj') (List.getElem?_eq_getElem hj)).1

/-- append, where it is known what comes -/
def appTail (el : TypeId) (size : Nat) (ad : Option Addr) (len cap : Nat) (u : Value) (n : Nat) (appended : Sem (Array Value)) (zs : Bool) : Sem Value :=
  if len + n ≤ cap then do
    let new ← appended
    if let some a := ad then storeCells (a.add (len * size)) new.toList
    pure (.slice ad (len + n) cap)
  else do
    if ((len + n : Nat) : Int) > IntKind.i64.max ∧ (zs ∨ (← typeInfo el).bytes = 0) then runtimePanic (.error "growslice: len out of range")
    if Builtin.nextslicecap (len + n) cap * (← typeInfo el).bytes > 2 ^ 48 then (if zs then runtimePanic (.error "growslice: len out of range") else do
      if !(← Builtin.mayShare size len n ad u) then mark .noRoom
      unsupported (.resourceLimit "append: a slice or a string whose bytes no memory bears"))
    let newCap ← choose (.appendCap (len + n) cap el)
    askRoom (newCap * (← typeInfo el).bytes)
    let old ← Builtin.firstCells size len (.slice ad len cap)
    let new ← appended
    let rest := Builtin.zeroCells (← zeroValue el).cells (newCap - (len + n))
    pure (.slice (some (← newRow el (old ++ new ++ rest))) (len + n) newCap)

/-- what an append appends, read -/
theorem run_appElems (h : Inv κ Φ B au s a w) {t0 t1 : TypeId} {Y : V} {u : Value} {z by_ : Nat} {ys : List D} {zd : D} (e : appElems P t0 t1 s Y = some (z, ys)) (hel : elI P t0 = some (z, by_)) (hzd : zeroEl P t0 = some zd) (hzl : zd.flat.length = z) (hz0 : 0 < z) (hr : RepS Φ B Y u)
    {el : TypeId} {i : TypeInfo} {zv : Value} (hut : P.underlying t0 = some (.slice el)) (hi : P.info? el = some i) (hzv : i.zero = some zv) (hsz : i.size = z) (hby : i.bytes = by_) :
    ∃ vs : List Value, RepL Φ (ys.flatMap D.flat) vs ∧ vs.length = ys.length * z ∧ (∀ x ∈ ys, x.flat.length = z) ∧
      ∀ {r : Value} {w' : World} {ad : Option Addr} {len cap : Nat} {rt : TypeId}, (∀ (appended : Sem (Array Value)) (zs : Bool), (∀ w', Grows w w' → appended.run P w' = .ok vs.toArray w') → (appTail el i.size ad len cap u ys.length appended zs).run P w = .ok r w') →
        (Builtin.append_ #[t0, t1] rt #[.slice ad len cap, u]).run P w = .ok r w' := by
  unfold appElems at e
  split at e
  · rename_i e1 hu1
    obtain ⟨ad, cap, rfl, vs, g1, g2, g3, g4, g5⟩ := run_elems (P := P) h e hz0 hr
    refine ⟨vs, g2, g3, g4, fun {r w' ad0 len cap0 rt} hk => ?_⟩
    have := hk (Builtin.firstCells i.size ys.length (.slice ad ys.length cap)) false fun w' g => by
      have := g1 ys.length w' (Nat.le_refl _) g
      rw [List.take_of_length_le (by omega)] at this
      rw [hsz]; exact this
    unfold Builtin.append_
    simp only [List.getElem?_toArray, List.getElem?_cons_zero, List.getElem?_cons_succ]
    rw [Sem.run_bind, run_underlying hut]; simp only [Result.andThen_ok]
    rw [Sem.run_bind, run_sizeOf hi]; simp only [Result.andThen_ok]
    rw [Sem.run_bind, run_underlying hu1]
    exact this
  · rename_i n hu1
    split at e
    · rename_i hc
      obtain ⟨h0, h1, h2⟩ := hc
      rw [hzd] at e
      simp only [Option.map_some, Option.some.injEq, Prod.mk.injEq] at e
      obtain ⟨-, rfl⟩ := e
      obtain ⟨el', i', zv', hut', hi', hzv', hsz', hby', hzs', hzr⟩ := zeroEl_inv (Φ := Φ) hzd hel hzl
      rw [hut] at hut'; injection hut' with hut'; injection hut' with hut'; subst hut'
      rw [hi] at hi'; injection hi' with hi'; subst hi'
      rw [hzv] at hzv'; injection hzv' with hzv'; subst hzv'
      have hrep := zeros_rep' (n := n.toNat) hzr hzl hz0
      have hall : ∀ x ∈ List.replicate n.toNat zd, x.flat.length = z := fun x hx => by rw [(List.mem_replicate.1 hx).2]; exact hzl
      refine ⟨_, hrep, by rw [← hrep.get.1, flat_length hall], hall, fun {r w' ad0 len cap0 rt} hk => ?_⟩
      have hu : u = .int .i64 n := by cases hr with | d q => exact repD_int q
      have hw : IntKind.i64.wrap n = n := wrap_i64 (by omega) (by omega)
      rw [hel] at h1
      simp only [Option.map_some, Option.getD_some] at h1
      have hbig : ¬ (n * (i.bytes : Int) > 2 ^ 48) := by rw [hby]; omega
      have := hk (if n.toNat * i.size = 0 then pure #[] else do pure (Builtin.zeroCells (← zeroValue el).cells n.toNat)) true fun w' _ => by
        split
        · rename_i hz
          have hn0 : n.toNat = 0 := by
            rcases Nat.mul_eq_zero.1 hz with hz | hz
            · exact hz
            · omega
          rw [hn0]
          simp [Builtin.zeroCells, pure, Sem.run]
        · simp only [Sem.run_bind, run_zeroValue hi hzv, Result.andThen_ok]
          simp [pure, Sem.run]
      simp only [List.length_replicate] at this
      unfold Builtin.append_
      simp only [List.getElem?_toArray, List.getElem?_cons_zero, List.getElem?_cons_succ]
      rw [Sem.run_bind, run_underlying hut]; simp only [Result.andThen_ok]
      rw [Sem.run_bind, run_sizeOf hi]; simp only [Result.andThen_ok]
      rw [Sem.run_bind, run_underlying hu1]; simp only [Result.andThen_ok, pure_bind, if_true, hu, asInt, asIntOf, hw, Int.not_lt.2 h0, if_false]
      rw [Sem.run_bind, run_typeInfo hi]; simp only [Result.andThen_ok, hbig, if_false, Bool.not_true, Bool.false_eq_true]
      rw [hu] at this
      unfold appTail at this
      simp only [Result.andThen_ok, pure_bind, if_true, hu, asInt, asIntOf, hw, Int.not_lt.2 h0, if_false] at this
      exact this
    · cases e
  · cases e

theorem toList_two {α : Type} {l : Array α} {x y : α} (h : l.toList = [x, y]) : l = #[x, y] := by
  have := congrArg List.toArray h; simpa using this
theorem toList_one {α : Type} {l : Array α} {x : α} (h : l.toList = [x]) : l = #[x] := by
  have := congrArg List.toArray h; simpa using this

theorem run_builtin {c : Call} {b : Builtin} {f : Array TypeId → TypeId → Array Value → Sem Value} {v : Value} {w' : World} (ho : o.op = .call c) (ec : c.callee = .builtin b) (hf : ∀ cs ts t args, builtin b ts t cs args = (do pure (.value (← f ts t args)) : Sem Next)) (h : (f c.argTypes o.type (c.args.map a.eval)).run P w = .ok v w') :
    (execOp a.eval o).run P w = .ok (.value v) w' := by
  unfold execOp; rw [ho]; simp only
  unfold resolve; simp only [ec, pure_bind]
  simp only [invoke]
  rw [hf]
  exact run_v h

/-- an array that is new -/
theorem Inv.newArr (h : Inv κ Φ B au s a w) {w1 : World} (g : Grows w w1) {z : Nat} {xs : List D} {vs : List Value} {el : TypeId} {cap : Nat} (hr : RepL Φ (xs.flatMap D.flat) vs) (hz : ∀ x ∈ xs, x.flat.length = z) (hcap : xs.length = cap) (dst : Option Nat) (len : Nat) (hl : len ≤ cap) :
    Rel κ (({ s with hp := s.hp ++ [IObj.arr z xs] } : St).put dst (.ref s.hp.length z 0 len cap)) (a.put dst (.slice (some ⟨w1.heap.size, 0, none⟩) len cap)) { w1 with heap := w1.heap.push (.cells vs.toArray el (0, 0)) } := by
  obtain ⟨au', hfin⟩ := (h.grow g).layArr (el := el) (c := vs.toArray) (z := z) (xs := xs) (by simpa using hr) hz
  exact ⟨Φ, _, au', hfin.put dst (.ref (b := w1.heap.size) (by rw [h.hl]; simp) hl fun _ => by rw [Nat.zero_mul]) fun _ _ => trivial⟩

theorem run_appTail_in {el : TypeId} {size len cap n : Nat} {ad : Option Addr} {u : Value} {appended : Sem (Array Value)} {zs : Bool} {vs : List Value} {w' : World} (h : len + n ≤ cap) (ha : appended.run P w = .ok vs.toArray w)
    (hs : (match ad with | some a => storeCells (a.add (len * size)) vs | none => pure () : Sem Unit).run P w = .ok () w') : (appTail el size ad len cap u n appended zs).run P w = .ok (.slice ad (len + n) cap) w' := by
  unfold appTail
  rw [if_pos h, Sem.run_bind, ha]; simp only [Result.andThen_ok]
  cases ad with
  | none => simp [pure, Sem.run] at hs ⊢; exact hs
  | some ad =>
    simp only at hs ⊢
    rw [Sem.run_bind, hs]; rfl

theorem run_appTail_out {el : TypeId} {i : TypeInfo} {zv : Value} {len cap n : Nat} {ad : Option Addr} {u : Value} {appended : Sem (Array Value)} {zs : Bool} {us vs : List Value} (h : cap < len + n) (hi : P.info? el = some i) (hzv : i.zero = some zv) (hb0 : 0 < i.bytes) (hb : (len + n) * i.bytes ≤ 140737488355328)
    (hu : ∀ w', Grows w w' → (Builtin.firstCells i.size len (.slice ad len cap)).run P w' = .ok us.toArray w') (ha : ∀ w', Grows w w' → appended.run P w' = .ok vs.toArray w') :
    (appTail el i.size ad len cap u n appended zs).run P w = .ok (.slice (some ⟨w.heap.size, 0, none⟩) (len + n) (grownCap w (len + n) cap el)) { w.drew with heap := w.heap.push (.cells (us ++ vs ++ (Builtin.zeroCells zv.cells (grownCap w (len + n) cap el - (len + n))).toList).toArray el (0, 0)) } := by
  have h48 := growslice_fits (need := len + n) (old := cap) (bytes := i.bytes) h hb
  have h48' : ¬ (281474976710656 < Builtin.nextslicecap (len + n) cap * i.bytes) := by omega
  have hmx : ¬ (((len + n : Nat) : Int) > IntKind.i64.max) := by
    have : IntKind.i64.max = 9223372036854775807 := by decide
    rw [this]
    have := Nat.le_mul_of_pos_right (len + n) hb0
    omega
  unfold appTail
  rw [if_neg (by omega)]
  simp only [Sem.run_bind, run_typeInfo hi, Result.andThen_ok]
  rw [if_neg (fun hh => hmx hh.1)]
  simp only [Sem.run_bind, run_typeInfo hi, Result.andThen_ok]
  rw [if_neg (by simpa using h48')]
  have hch : (choose (.appendCap (len + n) cap el)).run P w = .ok (grownCap w (len + n) cap el) w.drew := by
    simp [choose, Sem.run, Question.forced, pure, grownCap]
  have hd : Grows w w.drew := Grows.drew w _
  simp only [Sem.run_bind, hch, Result.andThen_ok, run_typeInfo hi, run_askRoom, hu _ hd, ha _ hd, run_zeroValue hi hzv]
  have hnr : ∀ cs : Array Value, (newRow el cs).run P w.drew = .ok ⟨w.heap.size, 0, none⟩ { w.drew with heap := w.heap.push (.cells cs el (0, 0)) } := fun cs => rfl
  rw [hnr]
  simp only [Result.andThen_ok, Sem.run_pure]
  congr 4
  apply Array.ext'
  simp

theorem does_appendRef {c : Call} {x y : Operand} {t0 t1 : TypeId} (h : Inv κ Φ B au s a w) (ho : o.op = .call c) (ec : c.callee = .builtin .append) (ea : c.args = #[x, y]) (et : c.argTypes = #[t0, t1]) (hk : appendRefK P t0 t1 (ev P t0 s x) (ev P t1 s y) s o.dst K) : Does P κ o a w K := by
  have hx := ev_rep (P := P) h t0 x
  have hy := ev_rep (P := P) h t1 y
  generalize ev P t0 s x = X at hk hx
  generalize ev P t1 s y = Y at hk hy
  unfold appendRefK at hk
  split at hk
  · rename_i id z off len cap z2 ys e by_ zd eel ely ezd
    split at hk
    · rename_i z' xs ehp
      obtain ⟨rfl, rfl, rfl, hz0, hb0, hzd, hlc, hoc, hbnd, k1, k2⟩ := hk
      obtain ⟨el, i, zv, hut, hi, hzv, hsz, hby, hzs, hzr⟩ := zeroEl_inv (Φ := Φ) ezd ely hzd
      obtain ⟨vs, g2, g3, g4, hrunY⟩ := run_appElems (P := P) (B := B) (w := w) h eel ely ezd hzd hz0 hy hut hi hzv hsz hby
      -- the first slice, read
      have heX : elemsOf s (.ref id e off len cap) = some (e, (xs.drop off).take len) := by
        simp [elemsOf, ehp, hlc, hoc]
      obtain ⟨ad, cap', hvx, us, u1, u2, u3, u4, u5⟩ := run_elems (P := P) h heX hz0 hx
      have hlen : ((xs.drop off).take len).length = len := by simp; omega
      rw [hlen] at hvx u1 u3
      have hcapE : cap' = cap := by rw [hvx] at hx; cases hx <;> rfl
      subst hcapE
      have hrun : ∀ {v : Value} {w' : World}, (∀ (appended : Sem (Array Value)) (zs : Bool), (∀ w', Grows w w' → appended.run P w' = .ok vs.toArray w') → (appTail el i.size ad len cap' (a.eval y) ys.length appended zs).run P w = .ok v w') → (execOp a.eval o).run P w = .ok (.value v) w' := by
        intro v w' hyp
        refine run_builtin ho ec (f := Builtin.append_) (fun _ _ _ _ => rfl) ?_
        rw [ea, et]
        have e2 : (#[x, y] : Array Operand).map a.eval = #[.slice ad len cap', a.eval y] := by simp [hvx]
        rw [e2]
        exact hrunY hyp
      by_cases hfit : len + ys.length ≤ cap'
      · by_cases hpos : 0 < cap'
        · have hne : xs ≠ [] := by rintro rfl; simp at hoc; omega
          obtain ⟨b, c1, el1, hb, h1, h2, h3, hz, hrep⟩ := h.arrFlat ehp hne hz0
          have had : ad = some ⟨b, off * e, none⟩ := by
            rw [hvx] at hx
            cases hx with
            | ref0 => omega
            | ref hb' hle hh => rw [hb] at hb'; injection hb' with hb'; subst hb'; exact hh hpos
          subst had
          have hm := Nat.mul_le_mul_right e (show off + len + ys.length ≤ xs.length by omega)
          rw [Nat.add_mul, Nat.add_mul] at hm
          obtain ⟨w', m1, m2⟩ := run_storeCells (P := P) (off := off * e + len * e) vs 0 w c1 h2 (by rw [h3, g3]; omega) (repL_ok g2)
          have m2' : Writes w w' b c1 el1 ((off + len) * e) vs := by rw [Nat.add_mul]; exact m2
          have hr := hrun (fun appended zs ha => run_appTail_in (w' := w') hfit (ha w (Grows.refl w)) (by simpa [addr_add, hsz] using m1))
          have hfin := h.writeArr hb h1 h2 h3 hz hrep g2 g4 (by omega) m2'
          exact does_value hr (k1 hfit) ⟨Φ, B, au, hfin.put o.dst (.ref hb hfit fun _ => rfl) fun _ _ => trivial⟩
        · have hc0 : cap' = 0 := by omega
          have hl0 : len = 0 := by omega
          have hy0 : ys = [] := List.length_eq_zero_iff.1 (by omega)
          subst hc0; subst hl0; subst hy0
          have hv0 : vs = [] := by simpa using g3
          subst hv0
          have hr := hrun (fun appended zs ha => run_appTail_in (w' := w) hfit (ha w (Grows.refl w)) (by cases ad <;> rfl))
          have hk' := k1 hfit
          simp only [Nat.add_zero, List.length_nil, List.append_nil, List.take_append_drop] at hk' hr
          have hset : s.hp.set id (.arr e xs) = s.hp := by
            apply List.ext_getElem?
            intro k
            rw [List.getElem?_set]
            split
            · rename_i e'; subst e'; rw [ehp]; simp [(List.getElem?_eq_some_iff.1 ehp).1]
            · rfl
          rw [hset] at hk'
          exact does_value hr hk' ⟨Φ, B, au, h.put o.dst .ref0 fun _ _ => trivial⟩
      · have hlt : cap' < len + ys.length := by omega
        subst hby
        have hrz := hzr
        -- the new array
        obtain ⟨N, hN, _⟩ : ∃ N, len + ys.length ≤ N ∧ True := ⟨_, Nat.le_refl _, trivial⟩
        have hu' : ∀ w', Grows w w' → (Builtin.firstCells i.size len (.slice ad len cap')).run P w' = .ok us.toArray w' := fun w' g => by
          have := u1 len w' (Nat.le_refl _) g
          rw [hvx, List.take_of_length_le (by omega)] at this
          rw [hsz]; exact this
        have hnew : ∀ N, len + ys.length ≤ N → Rel κ (({ s with hp := s.hp ++ [IObj.arr e ((xs.drop off).take len ++ ys ++ List.replicate (N - (len + ys.length)) zd)] } : St).put o.dst (.ref s.hp.length e 0 (len + ys.length) N)) (a.put o.dst (.slice (some ⟨w.heap.size, 0, none⟩) (len + ys.length) N)) { w.drew with heap := w.heap.push (.cells (us ++ vs ++ (Builtin.zeroCells zv.cells (N - (len + ys.length))).toList).toArray el (0, 0)) } := by
          intro N hN
          refine h.newArr (w1 := w.drew) (Grows.drew w _) ?_ (fun x hx => ?_) ?_ o.dst _ hN
          · rw [List.flatMap_append, List.flatMap_append]
            exact (u2.append g2).append (zeros_rep' hzr hzd hz0)
          · simp only [List.mem_append] at hx
            rcases hx with (hx | hx) | hx
            · exact u4 x hx
            · exact g4 x hx
            · rw [(List.mem_replicate.1 hx).2]; exact hzd
          · simp only [List.length_append, hlen, List.length_replicate]; omega
        have hz1 : (appTail el i.size ad len cap' (a.eval y) ys.length (pure vs.toArray) false).run P w = (appTail el i.size ad len cap' (a.eval y) ys.length (pure vs.toArray) false).run P w := rfl
        let N := grownCap w (len + ys.length) cap' el
        have hnN : len + ys.length ≤ N := by unfold N grownCap Question.cut; exact Nat.le_add_right _ _
        have hr := hrun (v := .slice (some ⟨w.heap.size, 0, none⟩) (len + ys.length) N) (w' := { w.drew with heap := w.heap.push (.cells (us ++ vs ++ (Builtin.zeroCells zv.cells (N - (len + ys.length))).toList).toArray el (0, 0)) }) (fun appended zs ha => run_appTail_out hlt hi hzv hb0 hbnd hu' ha)
        exact does_value hr (k2 hlt N hnN) (hnew N hnN)
    · exact hk.elim
  · exact hk.elim

/-- a phantom: an array without elements needs no memory -/
theorem Inv.phantom (h : Inv κ Φ B au s a w) (z : Nat) : Inv κ Φ (B ++ [0]) au { s with hp := s.hp ++ [IObj.arr z []] } a w := by
  have hB : ∀ (i b : Nat), B[i]? = some b → (B ++ [0])[i]? = some b := fun i b e => by
    rw [List.getElem?_append_left (List.getElem?_eq_some_iff.1 e).1]; exact e
  refine { h with pre := h.pre.trans (List.prefix_append _ _), tm := fun i V v hV hv => ⟨(h.tm i V v hV hv).1.mono (CM.le_refl _) hB, (h.tm i V v hV hv).2⟩, hl := by simp [h.hl], nb := ⟨h.nb.1, by have := h.nb.2; simp; omega⟩, hp := fun id o b ho hb => ?_ }
  by_cases hid : id < s.hp.length
  · rw [List.getElem?_append_left hid] at ho
    have hid' : id < B.length := by rw [← h.hl]; exact hid
    rw [List.getElem?_append_left hid'] at hb
    exact (h.hp id o b ho hb).mono (CM.le_refl _) hB (fun e => ⟨e, rfl⟩) (fun j b st e => ⟨e, rfl⟩)
  · have hid1 : id = s.hp.length := by
      have := (List.getElem?_eq_some_iff.1 ho).1; simp at this; omega
    subst hid1
    simp at ho
    subst ho
    exact fun hne => absurd rfl hne

theorem does_appendNew {c : Call} {x y : Operand} {t0 t1 : TypeId} (h : Inv κ Φ B au s a w) (ho : o.op = .call c) (ec : c.callee = .builtin .append) (ea : c.args = #[x, y]) (et : c.argTypes = #[t0, t1]) (hk : appendNewK P t0 t1 (ev P t0 s x) (ev P t1 s y) s o.dst K) : Does P κ o a w K := by
  have hx := ev_rep (P := P) h t0 x
  have hy := ev_rep (P := P) h t1 y
  generalize ev P t0 s x = X at hk hx
  generalize ev P t1 s y = Y at hk hy
  unfold appendNewK at hk
  split at hk
  · rename_i z z2 ys e by_ zd eel ely ezd
    obtain ⟨rfl, rfl, hz0, hb0, hzd, hbnd, k1⟩ := hk
    obtain ⟨el, i, zv, hut, hi, hzv, hsz, hby, hzs, hzr⟩ := zeroEl_inv (Φ := Φ) ezd ely hzd
    obtain ⟨vs, g2, g3, g4, hrunY⟩ := run_appElems (P := P) (B := B) (w := w) h eel ely ezd hzd hz0 hy hut hi hzv hsz hby
    obtain ⟨ad, hvx⟩ : ∃ ad, a.eval x = .slice ad 0 0 := by
      generalize a.eval x = v at hx
      cases hx; exact ⟨_, rfl⟩
    have hrun : ∀ {v : Value} {w' : World}, (∀ (appended : Sem (Array Value)) (zs : Bool), (∀ w', Grows w w' → appended.run P w' = .ok vs.toArray w') → (appTail el i.size ad 0 0 (a.eval y) ys.length appended zs).run P w = .ok v w') → (execOp a.eval o).run P w = .ok (.value v) w' := by
      intro v w' hyp
      refine run_builtin ho ec (f := Builtin.append_) (fun _ _ _ _ => rfl) ?_
      rw [ea, et]
      have e2 : (#[x, y] : Array Operand).map a.eval = #[.slice ad 0 0, a.eval y] := by simp [hvx]
      rw [e2]
      exact hrunY hyp
    by_cases hn : ys = []
    · subst hn
      have hv0 : vs = [] := by simpa using g3
      subst hv0
      have hr := hrun (fun appended zs ha => run_appTail_in (w' := w) (len := 0) (cap := 0) (by simp) (ha w (Grows.refl w)) (by cases ad <;> rfl))
      have hk' := k1 0 (Nat.le_refl _) (fun _ => rfl)
      simp only [Nat.add_zero, List.length_nil, List.nil_append, Nat.sub_zero, List.replicate_zero] at hk' hr
      exact does_value hr hk' ⟨Φ, _, au, (h.phantom e).put o.dst .ref0 fun _ _ => trivial⟩
    · have hpos : 0 < ys.length := List.length_pos_iff.2 hn
      have hlt : 0 < 0 + ys.length := by omega
      subst hby
      let N := grownCap w (0 + ys.length) 0 el
      have hnN : 0 + ys.length ≤ N := by unfold N grownCap Question.cut; exact Nat.le_add_right _ _
      have hr := hrun (v := .slice (some ⟨w.heap.size, 0, none⟩) (0 + ys.length) N) (w' := { w.drew with heap := w.heap.push (.cells ([] ++ vs ++ (Builtin.zeroCells zv.cells (N - (0 + ys.length))).toList).toArray el (0, 0)) }) (fun appended zs ha => run_appTail_out hlt hi hzv hb0 (by simpa using hbnd) (fun w' _ => by
        cases ad with
        | none => rfl
        | some ad => show (loadCells ad (0 * i.size)).run P w' = _; rw [Nat.zero_mul]; rfl) ha)
      simp only [Nat.zero_add, List.nil_append] at hr hnN
      have hk' := k1 N hnN (fun hh => absurd hh hn)
      refine does_value hr hk' ?_
      have := h.newArr (w1 := w.drew) (Grows.drew w _) (z := e) (xs := ys ++ List.replicate (N - ys.length) zd) (vs := vs ++ (Builtin.zeroCells zv.cells (N - ys.length)).toList) (el := el) (cap := N) (by
        rw [List.flatMap_append]; exact g2.append (zeros_rep' hzr hzd hz0)) (fun x hx => by
        rcases List.mem_append.1 hx with hx | hx
        · exact g4 x hx
        · rw [(List.mem_replicate.1 hx).2]; exact hzd) (by simp only [List.length_append, List.length_replicate]; omega) o.dst ys.length hnN
      have hNe : grownCap w (0 + ys.length) 0 el = N := rfl
      rw [Nat.zero_add] at hNe
      rw [show w.drew.heap = w.heap from rfl] at this
      simpa [hNe] using this
  · exact hk.elim

theorem does_copy {c : Call} {x y : Operand} {t0 t1 : TypeId} (h : Inv κ Φ B au s a w) (ho : o.op = .call c) (ec : c.callee = .builtin .copy) (ea : c.args = #[x, y]) (et : c.argTypes = #[t0, t1]) (hk : copyK P t0 t1 (ev P t0 s x) (ev P t1 s y) s o.dst K) : Does P κ o a w K := by
  have hx := ev_rep (P := P) h t0 x
  have hy := ev_rep (P := P) h t1 y
  generalize ev P t0 s x = X at hk hx
  generalize ev P t1 s y = Y at hk hy
  unfold copyK at hk
  split at hk
  · rename_i id z off len cap z2 ys e by_ eel ely
    split at hk
    · rename_i z' xs ehp
      obtain ⟨rfl, rfl, rfl, hz0, hlc, hoc, hxt, hk⟩ := hk
      obtain ⟨el, i, zv, hut, hi, hzv, hsz, hby, hzs⟩ := elI_inv ely
      obtain ⟨ad2, cap2, hvy, vs, g1, g2, g3, g4, g5⟩ := run_elems (P := P) h eel hz0 hy
      obtain ⟨ad, hvx⟩ : ∃ ad, a.eval x = .slice ad len cap := by
        generalize a.eval x = v at hx
        cases hx <;> exact ⟨_, rfl⟩
      have hmin : Nat.min ys.length len = (ys.take len).length := by
        rw [List.length_take]; exact Nat.min_comm _ _
      have hrun : ∀ {w' : World}, (match ad with | some a => storeCells a (vs.take ((ys.take len).length * e)) | none => pure () : Sem Unit).run P w = .ok () w' → (execOp a.eval o).run P w = .ok (.value (.int .i64 ((ys.take len).length : Nat))) w' := by
        intro w' hw'
        refine run_builtin ho ec (f := Builtin.copy_) (fun _ _ _ _ => rfl) ?_
        rw [ea, et]
        have e2 : (#[x, y] : Array Operand).map a.eval = #[.slice ad len cap, .slice ad2 ys.length cap2] := by simp [hvx, hvy]
        rw [e2]
        unfold Builtin.copy_
        simp only [List.getElem?_toArray, List.getElem?_cons_zero, List.getElem?_cons_succ]
        rw [Sem.run_bind, run_underlying hut]; simp only [Result.andThen_ok, Builtin.lenOf, pure_bind, hmin]
        rw [Sem.run_bind, run_sizeOf hi]; simp only [Result.andThen_ok, hsz]
        have := g1 (ys.take len).length w (by simp; omega) (Grows.refl w)
        rw [hvy] at this
        rw [Sem.run_bind, this]; simp only [Result.andThen_ok]
        cases ad with
        | none =>
          have hw2 : w = w' := by simpa [pure, Sem.run] using hw'
          subst hw2; rfl
        | some ad =>
          simp only at hw' ⊢
          rw [Sem.run_bind, hw']; rfl
      by_cases hpos : 0 < cap
      · have hne : xs ≠ [] := by rintro rfl; simp at hoc; omega
        obtain ⟨b, c1, el1, hb, h1, h2, h3, hz, hrep⟩ := h.arrFlat ehp hne hz0
        have had : ad = some ⟨b, off * e, none⟩ := by
          rw [hvx] at hx
          cases hx with
          | ref0 => omega
          | ref hb' hle hh => rw [hb] at hb'; injection hb' with hb'; subst hb'; exact hh hpos
        subst had
        have hkl : (ys.take len).length ≤ len := by simp; omega
        have hm := Nat.mul_le_mul_right e (show off + (ys.take len).length ≤ xs.length by omega)
        rw [Nat.add_mul] at hm
        have hvl : (vs.take ((ys.take len).length * e)).length = (ys.take len).length * e := by
          rw [List.length_take, g3]
          have := Nat.mul_le_mul_right e (show (ys.take len).length ≤ ys.length by simp; omega)
          omega
        have hrep' : RepL Φ ((ys.take len).flatMap D.flat) (vs.take ((ys.take len).length * e)) := by
          have : ys.take len = ys.take (ys.take len).length := by rw [List.length_take]; exact List.take_eq_take_min
          conv => lhs; arg 2; rw [this]
          rw [flat_take g4]; exact g2.take _
        obtain ⟨w', m1, m2⟩ := run_storeCells (P := P) (off := off * e) (vs.take ((ys.take len).length * e)) 0 w c1 h2 (by rw [h3, hvl]; omega) (repL_ok hrep')
        have hfin := h.writeArr (n := off) hb h1 h2 h3 hz hrep hrep' (fun x hx => g4 x (List.mem_of_mem_take hx)) (by omega) (by simpa using m2)
        exact does_value (hrun m1) hk ⟨Φ, B, au, hfin.put o.dst (.d (.int _ _)) fun _ _ => trivial⟩
      · have hc0 : cap = 0 := by omega
        have hl0 : len = 0 := by omega
        subst hc0; subst hl0
        simp only [List.take_zero, List.length_nil, List.append_nil, Nat.add_zero, List.take_append_drop] at hk hrun
        have hset : s.hp.set id (.arr e xs) = s.hp := by
          apply List.ext_getElem?
          intro k
          rw [List.getElem?_set]
          split
          · rename_i e'; subst e'; rw [ehp]; simp [(List.getElem?_eq_some_iff.1 ehp).1]
          · rfl
        rw [hset] at hk
        refine does_value (hrun (w' := w) (by cases ad <;> simp [storeCells, pure, Sem.run])) hk ⟨Φ, B, au, h.put o.dst (.d (.int _ _)) fun _ _ => trivial⟩
    · exact hk.elim
  · exact hk.elim

theorem does_clear {c : Call} {x : Operand} {t0 : TypeId} (h : Inv κ Φ B au s a w) (ho : o.op = .call c) (ec : c.callee = .builtin .clear) (ea : c.args = #[x]) (et : c.argTypes = #[t0]) (hk : clearK P t0 (ev P t0 s x) s o.dst K) : Does P κ o a w K := by
  have hx := ev_rep (P := P) h t0 x
  generalize ev P t0 s x = X at hk hx
  unfold clearK at hk
  split at hk
  · rename_i id z off len cap e by_ zd ely ezd
    split at hk
    · rename_i z' xs ehp
      obtain ⟨rfl, rfl, hz0, hzd, hlc, hoc, hk⟩ := hk
      obtain ⟨el, i, zv, hut, hi, hzv, hsz, hby, hzs, hzr⟩ := zeroEl_inv (Φ := Φ) ezd ely hzd
      obtain ⟨ad, hvx⟩ : ∃ ad, a.eval x = .slice ad len cap := by
        generalize a.eval x = v at hx
        cases hx <;> exact ⟨_, rfl⟩
      have hrun : ∀ {w' : World}, ((Builtin.clear_ #[t0] o.type #[.slice ad len cap]).run P w = .ok (.tuple #[]) w') → (execOp a.eval o).run P w = .ok (.value (.tuple #[])) w' := by
        intro w' hw'
        refine run_builtin ho ec (f := Builtin.clear_) (fun _ _ _ _ => rfl) ?_
        rw [ea, et]
        have e2 : (#[x] : Array Operand).map a.eval = #[.slice ad len cap] := by simp [hvx]
        rw [e2]; exact hw'
      have hrepz := zeros_rep' (n := len) hzr hzd hz0
      have hall : ∀ x ∈ List.replicate len zd, x.flat.length = e := fun x hx => by rw [(List.mem_replicate.1 hx).2]; exact hzd
      have hzlen : (Builtin.zeroCells zv.cells len).toList.length = len * e := by
        rw [← hrepz.get.1, flat_length hall]; simp
      by_cases hpos : 0 < len
      · have hne : xs ≠ [] := by rintro rfl; simp at hoc; omega
        obtain ⟨b, c1, el1, hb, h1, h2, h3, hz, hrep⟩ := h.arrFlat ehp hne hz0
        have had : ad = some ⟨b, off * e, none⟩ := by
          rw [hvx] at hx
          cases hx with
          | ref0 => omega
          | ref hb' hle hh => rw [hb] at hb'; injection hb' with hb'; subst hb'; exact hh (by omega)
        subst had
        have hm := Nat.mul_le_mul_right e (show off + len ≤ xs.length by omega)
        rw [Nat.add_mul] at hm
        obtain ⟨w', m1, m2⟩ := run_storeCells (P := P) (off := off * e) (Builtin.zeroCells zv.cells len).toList 0 w c1 h2 (by rw [h3, hzlen]; omega) (repL_ok hrepz)
        have hfin := h.writeArr (n := off) hb h1 h2 h3 hz hrep hrepz hall (by simp; omega) (by simpa using m2)
        simp only [List.length_replicate] at hfin
        refine does_value (hrun (w' := w') ?_) hk ⟨Φ, B, au, hfin.put o.dst (.un _) fun _ _ => trivial⟩
        unfold Builtin.clear_
        simp only [List.getElem?_toArray, List.getElem?_cons_zero]
        rw [Sem.run_bind, run_underlying hut]; simp only [Result.andThen_ok]
        obtain ⟨len, rfl⟩ : ∃ l, len = l + 1 := ⟨len - 1, by omega⟩
        simp only
        rw [Sem.run_bind, run_zeroValue hi hzv]; simp only [Result.andThen_ok]
        rw [Sem.run_bind, m1]; rfl
      · have hl0 : len = 0 := by omega
        subst hl0
        simp only [List.replicate_zero, List.append_nil, Nat.add_zero, List.take_append_drop] at hk
        have hset : s.hp.set id (.arr e xs) = s.hp := by
          apply List.ext_getElem?
          intro k
          rw [List.getElem?_set]
          split
          · rename_i e'; subst e'; rw [ehp]; simp [(List.getElem?_eq_some_iff.1 ehp).1]
          · rfl
        rw [hset] at hk
        refine does_value (hrun (w' := w) ?_) hk ⟨Φ, B, au, h.put o.dst (.un _) fun _ _ => trivial⟩
        unfold Builtin.clear_
        simp only [List.getElem?_toArray, List.getElem?_cons_zero]
        rw [Sem.run_bind, run_underlying hut]; simp only [Result.andThen_ok]
        cases ad <;> rfl
    · exact hk.elim
  · exact hk.elim

theorem does_cap {c : Call} {x : Operand} {t0 : TypeId} {n : Nat} (h : Inv κ Φ B au s a w) (ho : o.op = .call c) (ec : c.callee = .builtin .cap) (ea : c.args = #[x]) (et : c.argTypes = #[t0]) (hel : (elemTy P t0).isSome = true) (hx : ∃ ad l, a.eval x = .slice ad l n)
    (hk : K (s.put o.dst (.d (.int .i64 n)))) : Does P κ o a w K := by
  obtain ⟨ad, l, hx⟩ := hx
  obtain ⟨el, hut⟩ : ∃ el, P.underlying t0 = some (.slice el) := by
    unfold elemTy at hel
    split at hel
    · exact ⟨_, ‹_›⟩
    · cases hel
  refine does_plain h (run_builtin (v := .int .i64 n) ho ec (f := Builtin.cap_) (fun _ _ _ _ => rfl) ?_) (.d (.int _ _)) (fun _ => trivial) hk
  rw [ea, et]
  have e2 : (#[x] : Array Operand).map a.eval = #[.slice ad l n] := by simp [hx]
  rw [e2]
  unfold Builtin.cap_
  simp only [List.getElem?_toArray, List.getElem?_cons_zero]
  rw [Sem.run_bind, run_underlying hut]; rfl

theorem does_delete {c : Call} {x y : Operand} {t0 t1 : TypeId} (h : Inv κ Φ B au s a w) (ho : o.op = .call c) (ec : c.callee = .builtin .delete) (ea : c.args = #[x, y]) (et : c.argTypes = #[t0, t1]) (hk : deleteK P t0 (ev P t0 s x) (ev P t1 s y) s o.dst K) : Does P κ o a w K := by
  have hx := ev_rep (P := P) h t0 x
  have hy := ev_rep (P := P) h t1 y
  generalize ev P t0 s x = X at hk hx
  generalize ev P t1 s y = Y at hk hy
  unfold deleteK at hk
  split at hk
  · rename_i id k kt et' em
    split at hk
    · rename_i clock es ehp
      obtain ⟨hkey, hk⟩ := hk
      obtain ⟨b, ms, hb, h1, h2, h3, h4⟩ := h.mapAt ehp
      have hut := mapTy_inv em
      have hxv : a.eval x = .map (some b) := by
        generalize a.eval x = v at hx
        cases hx with | map q => rw [hb] at q; injection q with q; rw [q]
      have hkv : RepD Φ k (a.eval y) := by cases hy with | d q => exact q
      have run : ∀ {r' : Option (Nat × Value)} {w' : World}, (Instr.findKey kt (a.eval y) ms.toList).run P w = .ok r' w → ((match r' with
          | some (i, _) => setObj b (.map (ms.eraseIdxIfInBounds i) clock)
          | none => setObj b (.map ms clock)) : Sem Unit).run P w = .ok () w' → (execOp a.eval o).run P w = .ok (.value (.tuple #[])) w' := by
        intro r' w' e1 e2
        refine run_builtin ho ec (f := Builtin.delete_) (fun _ _ _ _ => rfl) ?_
        rw [ea, et]
        have e3 : (#[x, y] : Array Operand).map a.eval = #[.map (some b), a.eval y] := by simp [hxv]
        rw [e3]
        unfold Builtin.delete_
        simp only [List.getElem?_toArray, List.getElem?_cons_zero, List.getElem?_cons_succ]
        rw [Sem.run_bind, run_underlying hut]; simp only [Result.andThen_ok]
        rw [Sem.run_bind, run_getObj h2 rfl]; simp only [Result.andThen_ok]
        rw [Sem.run_bind, run_checkKey hkey hkv]; simp only [Result.andThen_ok]
        rw [Sem.run_bind, e1]; simp only [Result.andThen_ok]
        cases r' with
        | none => simp only at e2 ⊢; rw [Sem.run_bind, e2]; rfl
        | some p => simp only at e2 ⊢; rw [Sem.run_bind, e2]; rfl
      split at hk
      · rename_i i V ef
        obtain ⟨r', g1, g2⟩ := run_find (B := B) (w := w) hkey hkv (by rw [Array.length_toList]; exact h3) (fun i n k V hi => by simpa using h4 i n k V hi) ef
        cases r' with
        | none => exact g2.elim
        | some p =>
          obtain ⟨j, v⟩ := p
          obtain ⟨rfl, hV⟩ := g2
          obtain ⟨_, b0, k', hat, hkk⟩ := mfind_at ef
          simp only [Nat.sub_zero] at hat
          have hil : i < es.length := (List.getElem?_eq_some_iff.1 hat).1
          have hrun := run (r' := some (i, v)) (w' := { w with heap := w.heap.setIfInBounds b (.map (ms.eraseIdxIfInBounds i) clock) }) g1 (run_setMap h2)
          have her : (ms.eraseIdxIfInBounds i).toList = ms.toList.eraseIdx i := by
            rw [Array.eraseIdxIfInBounds, dif_pos (by omega)]; simp
          refine does_value hrun hk ⟨Φ, B, au, (h.setMap (es' := es.eraseIdx i) hb h1 h2 (by rw [← Array.length_toList, her, List.length_eraseIdx, List.length_eraseIdx, Array.length_toList, h3]) (fun j n k2 V2 hj => ?_)).put o.dst (.un _) fun _ _ => trivial⟩
          rw [List.getElem?_eraseIdx] at hj
          rw [← Array.getElem?_toList, her, List.getElem?_eraseIdx]
          split at hj
          · rename_i hlt; rw [if_pos hlt]
            obtain ⟨e2, q1, q2⟩ := h4 j n k2 V2 hj
            exact ⟨e2, by rw [Array.getElem?_toList]; exact q1, q2⟩
          · rename_i hlt; rw [if_neg hlt]
            obtain ⟨e2, q1, q2⟩ := h4 (j + 1) n k2 V2 hj
            exact ⟨e2, by rw [Array.getElem?_toList]; exact q1, q2⟩
      · rename_i ef
        obtain ⟨r', g1, g2⟩ := run_find (B := B) (w := w) hkey hkv (by rw [Array.length_toList]; exact h3) (fun i n k V hi => by simpa using h4 i n k V hi) ef
        cases r' with
        | some p => exact g2.elim
        | none =>
          have hsame : ({ w with heap := w.heap.setIfInBounds b (.map ms clock) } : World) = w := by
            have : w.heap.setIfInBounds b (.map ms clock) = w.heap := by
              apply Array.ext_getElem?
              intro k
              rw [Array.getElem?_setIfInBounds]
              split
              · rename_i e; subst e; rw [if_pos (lt_of_heap h2)]; exact h2.symm
              · rfl
            rw [this]
          have hrun := run (w' := { w with heap := w.heap.setIfInBounds b (.map ms clock) }) g1 (run_setMap h2)
          rw [hsame] at hrun
          exact does_value hrun hk ⟨Φ, B, au, h.put o.dst (.un _) fun _ _ => trivial⟩
      · exact hk.elim
    · exact hk.elim
  · exact hk.elim

theorem does_call {c : Call} {r : List Oper} (h : Inv κ Φ B au s a w) (ho : o.op = .call c) (hk : stepK P o r s K) : Does P κ o a w K := by
  simp only [stepK, ho] at hk
  unfold callK at hk
  split at hk
  · rename_i x y t0 t1 ec ea et
    split at hk
    · rename_i id z off len cap e
      exact does_appendRef h ho ec (toList_two ea) (toList_two et) (by rw [e]; exact hk)
    · exact does_call0 h ho hk
  · rename_i x y t0 t1 ec ea et
    exact does_copy h ho ec (toList_two ea) (toList_two et) hk
  · rename_i x t0 ec ea et
    exact does_clear h ho ec (toList_one ea) (toList_one et) hk
  · rename_i x t0 ec ea et
    have hx := ev_rep (P := P) h t0 x
    split at hk
    · rename_i id z off len cap e
      rw [e] at hx
      exact does_cap h ho ec (toList_one ea) (toList_one et) hk.1 (by generalize a.eval x = v at hx; cases hx <;> exact ⟨_, _, rfl⟩) hk.2
    · rename_i z e
      rw [e] at hx
      exact does_cap (n := 0) h ho ec (toList_one ea) (toList_one et) hk.1 (by generalize a.eval x = v at hx; cases hx <;> exact ⟨_, _, rfl⟩) hk.2
    · exact hk.elim
  · rename_i x y t0 t1 ec ea et
    exact does_delete h ho ec (toList_two ea) (toList_two et) hk
  · exact does_call0 h ho hk

end
end Go.Idl
end
