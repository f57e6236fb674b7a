/- One operation. Part 9: calls.; One operation. Part 10: maps. -/
import Derived.Test.YtkfpaffcglijeaaQueueApartPart04
set_option linter.all false
section
namespace Go.Idl

/-- The owners that a callee sees: no slots of the caller's. -/
def noSlots (au : Auth) : Auth := fun b => match au b with
  | some (.slot _ _, _) => none
  | x => x

theorem noSlots_some {au : Auth} {b st : Nat} {h : Holder} (e : noSlots au b = some (h, st)) : au b = some (h, st) ∧ ∀ i j, h ≠ .slot i j := by
  unfold noSlots at e
  split at e
  · cases e
  · rename_i hn
    refine ⟨e, ?_⟩
    rintro i j rfl
    exact hn _ _ _ e

theorem noSlots_of {au : Auth} {b st : Nat} {h : Holder} (e : au b = some (h, st)) (hn : ∀ i j, h ≠ .slot i j) : noSlots au b = some (h, st) := by
  unfold noSlots
  split
  · rename_i e'; rw [e] at e'; injection e' with e'; injection e' with e' _; exact absurd e' (hn _ _)
  · exact e

theorem noSlots_slot {au : Auth} {b st i j : Nat} (e : au b = some (.slot i j, st)) : noSlots au b = none := by
  unfold noSlots; rw [e]

theorem noSlots_none {au : Auth} {b : Nat} (e : au b = none) : noSlots au b = none := by
  unfold noSlots; rw [e]

/-- The owners behind a call. -/
def backAu (au au' : Auth) (dst : Option Nat) : Auth := fun b => match au b with
  | some (.slot i j, st) => some (.slot i j, st)
  | _ => match au' b with
    | some (.slot _ j, st) => match dst with
      | some d => some (.slot d j, st)
      | none => none
    | x => x

section
variable {P : Program} {κ : Ctx} {Φ : CM} {B : List Nat} {au : Auth} {s : St} {a : Act} {w : World} {K : St → Prop} {o : Oper}

/-- A callee's state at its begin. -/
theorem Inv.callee (h : Inv κ Φ B au s a w) {args : List V} {cargs : List Value} (hr : RepSL Φ B args cargs) (hc : ∀ v ∈ args, v.cp = v ∧ v.isTup = false) :
    Inv (Ctx.at_ Φ B (noSlots au) w) Φ B (noSlots au) ⟨args, s.hp, s.hp.length⟩ ⟨cargs.toArray, []⟩ w := by
  refine { phi := h.phi, phia := fun lb b o v h0 st hp ha => h.phia _ b o v h0 st hp (noSlots_some ha).1, auw := fun b h0 st ha => ⟨(h.auw b h0 st (noSlots_some ha).1).1, .inl (by simp only [Ctx.at_]; rw [ha]; simp)⟩, size := Nat.le_refl _, keep := fun _ _ _ => rfl, pre := List.prefix_refl _, lePhi := CM.le_refl _, tl := by simpa using hr.get.1, tm := fun i V v hV hv => ?_, hl := h.hl, nb := ⟨by rw [h.hl]; exact Nat.le_refl _, Nat.le_refl _⟩, hp := fun id o b ho hb => ?_, df := ⟨[], rfl, List.nodup_nil, by simp⟩, rd := fun l hl => (by cases hl), lp := fun l r e => ⟨r, e⟩, src := fun lb b o v e => .inl e, wo := ⟨rfl, rfl, rfl⟩ }
  · refine ⟨hr.get.2 i V v hV (by simpa using hv), ?_⟩
    obtain ⟨h1, h2⟩ := hc V (List.mem_of_getElem? hV)
    exact OwnV_of_cp h1 h2 _ _ _ _
  · exact (h.hp id o b ho hb).mono (CM.le_refl _) (fun _ _ h => h) (fun e => ⟨noSlots_of e (by simp), rfl⟩) (fun j b st e => ⟨noSlots_of e (by simp), rfl⟩)

/-- The caller's state behind a call. -/
theorem Inv.back (h : Inv κ Φ B au s a w) {Φ' : CM} {B' : List Nat} {au' : Auth} {r : V} {v : Value} {hp' : List IObj} {w' : World} {df : List Deferred}
    (g : Inv (Ctx.at_ Φ B (noSlots au) w) Φ' B' au' ⟨[r], hp', s.hp.length⟩ ⟨#[v], df⟩ w') (dst : Option Nat) :
    Inv κ Φ' B' (backAu au au' dst) ({ s with hp := hp' }.put dst r) (a.put dst v) w' := by
  -- what is a slot's of the caller's is not touched
  have hmine : ∀ b, (Ctx.at_ Φ B (noSlots au) w).mine b → ∃ h0 st, au b = some (h0, st) ∧ ∀ i j, h0 ≠ .slot i j := by
    intro b hb
    simp only [Ctx.at_] at hb
    cases e : noSlots au b with
    | none => exact absurd e hb
    | some x => obtain ⟨h0, st⟩ := x; exact ⟨h0, st, noSlots_some e⟩
  have hslot : ∀ b i j st, au b = some (.slot i j, st) → w'.heap[b]? = w.heap[b]? ∧ au' b = none := by
    intro b i j st e
    have hnm : ¬ (Ctx.at_ Φ B (noSlots au) w).mine b := by
      intro hm; obtain ⟨h0, st', e', hn⟩ := hmine b hm; rw [e] at e'; injection e' with e'; injection e' with e' _; exact hn _ _ e'.symm
    have hlt := (h.auw b _ _ e).1
    refine ⟨g.keep b hlt hnm, ?_⟩
    cases e2 : au' b with
    | none => rfl
    | some x =>
      obtain ⟨h0, st'⟩ := x
      rcases (g.auw b _ _ e2).2 with x | x
      · exact absurd x hnm
      · exact absurd hlt (Nat.not_lt.2 x)
  have hnone : ∀ b, b < w.heap.size → au b = none → w'.heap[b]? = w.heap[b]? ∧ au' b = none := by
    intro b hlt e
    have hnm : ¬ (Ctx.at_ Φ B (noSlots au) w).mine b := by
      intro hm; obtain ⟨h0, st', e', hn⟩ := hmine b hm; rw [e] at e'; cases e'
    refine ⟨g.keep b hlt hnm, ?_⟩
    cases e2 : au' b with
    | none => rfl
    | some x =>
      obtain ⟨h0, st'⟩ := x
      rcases (g.auw b _ _ e2).2 with x | x
      · exact absurd x hnm
      · exact absurd hlt (Nat.not_lt.2 x)
  have back_slot : ∀ b i j st, au b = some (.slot i j, st) → backAu au au' dst b = some (.slot i j, st) := fun b i j st e => by unfold backAu; rw [e]
  have back_keep : ∀ b h0 st, au' b = some (h0, st) → (∀ i j, h0 ≠ .slot i j) → backAu au au' dst b = some (h0, st) := by
    intro b h0 st e hn
    unfold backAu
    split
    · rename_i e'; have := (hslot _ _ _ _ e').2; rw [e] at this; cases this
    · rw [e]
      cases h0 with
      | slot i j => exact absurd rfl (hn i j)
      | _ => rfl
  have back_inv : ∀ b h0 st, backAu au au' dst b = some (h0, st) → (∃ i j, h0 = .slot i j ∧ au b = some (.slot i j, st)) ∨ ((∀ i j st, au b ≠ some (.slot i j, st)) ∧ ∃ h1, au' b = some (h1, st)) := by
    intro b h0 st e
    unfold backAu at e
    split at e
    · rename_i i j st' e'; injection e with e; injection e with e1 e2; subst e1; subst e2; exact .inl ⟨i, j, rfl, e'⟩
    · rename_i hn
      right
      refine ⟨fun i j st e' => hn i j st e', ?_⟩
      split at e
      · rename_i i j st' e'
        split at e
        · injection e with e; injection e with e1 e2; subst e2; exact ⟨_, e'⟩
        · cases e
      · exact ⟨_, e⟩
  have hBpre : B <+: B' := g.pre
  have hB : ∀ (i b : Nat), B[i]? = some b → B'[i]? = some b := fun i b e => by
    obtain ⟨t, rfl⟩ := hBpre
    rw [List.getElem?_append_left (List.getElem?_eq_some_iff.1 e).1]; exact e
  have hbase : Inv κ Φ' B' (backAu au au' dst) { s with hp := hp' } a w' := by
    refine { phi := g.phi, phia := fun lb b o v h0 st hp e => ?_, auw := fun b h0 st e => ?_, size := Nat.le_trans h.size g.size, keep := fun b hb hm => ?_, pre := h.pre.trans hBpre, lePhi := h.lePhi.trans g.lePhi, tl := h.tl, tm := fun i V v hV hv => ?_, hl := g.hl, nb := ⟨h.nb.1, by have h1 := h.nb.2; have h2 := g.nb.2; exact Nat.le_trans h1 h2⟩, hp := fun id o b ho hb => ?_, df := ?_, rd := fun l hl => ?_, lp := fun l r e => ?_, src := fun lb b o v e => ?_, wo := ⟨g.wo.1.trans h.wo.1, g.wo.2.1.trans h.wo.2.1, g.wo.2.2.trans h.wo.2.2⟩ }
    · rcases back_inv b h0 st e with ⟨i, j, rfl, e'⟩ | ⟨_, h1, e'⟩
      · rcases g.src _ b o v hp with x | x | x
        · exact h.phia _ b o v _ _ x e'
        · obtain ⟨h2, st2, e2, hn⟩ := hmine b x; rw [e'] at e2; injection e2 with e2; injection e2 with e2 _; exact absurd e2.symm (hn _ _)
        · exact absurd (h.auw b _ _ e').1 (Nat.not_lt.2 x)
      · exact g.phia _ b o v _ _ hp e'
    · rcases back_inv b h0 st e with ⟨i, j, rfl, e'⟩ | ⟨_, h1, e'⟩
      · exact ⟨Nat.lt_of_lt_of_le (h.auw b _ _ e').1 g.size, (h.auw b _ _ e').2⟩
      · refine ⟨(g.auw b _ _ e').1, ?_⟩
        rcases (g.auw b _ _ e').2 with x | x
        · obtain ⟨h2, st2, e2, hn⟩ := hmine b x; exact (h.auw b _ _ e2).2
        · exact .inr (Nat.le_trans h.size x)
    · have hlt : b < w.heap.size := Nat.lt_of_lt_of_le hb h.size
      rw [← h.keep b hb hm]
      refine g.keep b hlt fun x => ?_
      obtain ⟨h2, st2, e2, hn⟩ := hmine b x
      rcases (h.auw b _ _ e2).2 with y | y
      · exact hm y
      · omega
    · obtain ⟨k1, k2⟩ := h.tm i V v hV hv
      exact ⟨k1.mono g.lePhi hB, k2.mono fun j b st e => ⟨back_slot b i j st e, (hslot b i j st e).1⟩⟩
    · exact (g.hp id o b ho hb).mono (CM.le_refl _) (fun _ _ h => h) (fun e => ⟨back_keep b _ _ e (by simp), rfl⟩) (fun j b st e => ⟨back_keep b _ _ e (by simp), rfl⟩)
    · obtain ⟨rs, h1, h2, h3⟩ := h.df
      refine ⟨rs, h1, h2, fun r hr => ?_⟩
      obtain ⟨x, y, z⟩ := h3 r hr
      obtain ⟨p, q⟩ := hnone r (lt_of_heap x) y
      refine ⟨p.trans x, ?_, z⟩
      unfold backAu; rw [y, q]
    · obtain ⟨r, hr⟩ := h.rd l hl
      exact g.lp l r hr
    · obtain ⟨r', hr'⟩ := h.lp l r e
      exact g.lp l r' hr'
    · rcases g.src _ b o v e with x | x | x
      · exact h.src _ b o v x
      · obtain ⟨h2, st2, e2, hn⟩ := hmine b x; exact .inr (h.auw b _ _ e2).2
      · exact .inr (.inr (Nat.le_trans h.size x))
  have hr := g.tm 0 r v rfl rfl
  refine hbase.put dst hr.1 fun d hd => hr.2.mono fun j b st e => ⟨?_, rfl⟩
  unfold backAu
  split
  · rename_i e'; have := (hslot _ _ _ _ e').2; rw [e] at this; cases this
  · rw [e, hd]

theorem bare_of {v : V} (h : v.bare = true) : v.cp = v ∧ v.isTup = false := by
  cases v <;> simp_all [Idl.V.bare, Idl.V.cp, Idl.V.isTup]

theorem argVs_rep (h : Inv κ Φ B au s a w) (c : Call) (hl : c.args.size ≤ (c.argTypes.toList ++ List.replicate c.args.size 0).length) : RepSL Φ B (argVs P s c) (c.args.map a.eval).toList ∧ ∀ v ∈ argVs P s c, v.cp = v := by
  constructor
  · refine RepSL.of (by simp [argVs]) fun j d v hd hv => ?_
    simp only [argVs, List.getElem?_map, Option.map_eq_some_iff] at hd
    obtain ⟨⟨x, t⟩, hx, rfl⟩ := hd
    rw [List.getElem?_zip_eq_some] at hx
    simp only [Array.toList_map, List.getElem?_map, Option.map_eq_some_iff] at hv
    obtain ⟨y, hy, rfl⟩ := hv
    have : x = y := by have := hx.1; simp only at this; rw [hy] at this; injection this with this; exact this.symm
    subst this
    exact (ev_rep h t x).cp
  · intro v hv
    simp only [argVs, List.mem_map] at hv
    obtain ⟨⟨x, t⟩, _, rfl⟩ := hv
    exact Idl.V.cp_cp _

theorem run_callFunc {f : FuncId} {args : Array Value} (hb : hasBody P f = true) : (callFunc f args).run P w = .ok (.enter f args) w := by
  unfold hasBody at hb
  cases hf : P.funcs[f]? with
  | none => simp [hf] at hb
  | some fn =>
    simp only [hf, Bool.and_eq_true, bne_iff_ne, ne_eq] at hb
    obtain ⟨h1, h2⟩ := hb
    unfold callFunc
    rw [Sem.run_bind, run_program]; simp only [Result.andThen_ok, hf]
    rw [if_neg (by simpa using h2), if_neg (by cases hbd : fn.body <;> simp [hbd] at h1 ⊢)]
    rfl

def noCells : Obj → Bool
  | .cells .. => false
  | _ => true

theorem run_getObj {b : Nat} {ob : Obj} (e : w.heap[b]? = some ob) (hn : noCells ob = true) : (getObj b).run P w = .ok ob w := by
  cases ob <;> simp [noCells] at hn <;> simp [getObj, Sem.run, e]

theorem run_setObj {b : Nat} {ob ob' : Obj} (e : w.heap[b]? = some ob') (hn : noCells ob' = true) : (setObj b ob).run P w = .ok () { w with heap := w.heap.setIfInBounds b ob } := by
  cases ob' <;> simp [noCells] at hn <;> simp [setObj, Sem.run, pure, e]

theorem size_two {α : Type} {l : Array α} (h : l.size = 2) : ∃ x y, l = #[x, y] := by
  rcases l with ⟨_ | ⟨x, _ | ⟨y, _ | ⟨z, l⟩⟩⟩⟩ <;> simp at h
  exact ⟨x, y, rfl⟩

theorem resolve_fn {c : Call} {g : Operand} {fn : Fn} {caps : Array Value} {t : TypeId} (hc : c.callee = .value g) (hv : a.eval g = .func fn #[] caps) :
    (resolve a.eval c t).run P w = .ok { target := .fn fn caps, args := c.args.map a.eval } w := by
  unfold resolve
  simp only [hc, hv, Deferred.ofValue]
  have : (#[] : Array Value) ++ c.args.map a.eval = c.args.map a.eval := by simp
  rw [this]; rfl

theorem does_call0 {c : Call} (h : Inv κ Φ B au s a w) (ho : o.op = .call c) (hk : callK0 P c s o.dst K) : Does P κ o a w K := by
  have hargs := argVs_rep (P := P) h c (by simp)
  unfold callK0 at hk
  split at hk
  · rename_i g eg
    have hg := ev_rep (P := P) h 0 g
    split at hk
    · rename_i f caps ef
      obtain ⟨hbare, hk⟩ := hk
      rw [ef] at hg
      generalize hv : a.eval g = v at hg
      cases hg with
      | fn hcaps =>
        rename_i cc
        have hall : ∀ v ∈ argVs P s c ++ caps, v.cp = v ∧ v.isTup = false := fun v hv => bare_of (List.all_eq_true.1 hbare v hv)
        have hrep : RepSL Φ B (argVs P s c ++ caps) ((c.args.map a.eval).toList ++ cc) := by
          obtain ⟨a1, a2⟩ := hargs.1.get
          obtain ⟨b1, b2⟩ := hcaps.get
          refine RepSL.of (by simp [a1, b1]) fun j d v hd hv => ?_
          by_cases hj : j < (argVs P s c).length
          · rw [List.getElem?_append_left hj] at hd
            rw [List.getElem?_append_left (by rw [← a1]; exact hj)] at hv
            exact a2 j d v hd hv
          · rw [List.getElem?_append_right (by omega)] at hd
            rw [List.getElem?_append_right (by rw [← a1]; omega), ← a1] at hv
            exact b2 _ d v hd hv
        cases hb : hasBody P f with
        | false =>
          rw [hb] at hk
          obtain ⟨v, r, hp', w', h1, h2, Φ', B', au', g⟩ := hk Φ B (noSlots au) w _ (h.callee hrep hall)
          refine ⟨.value v, w', ?_, _, h2, Φ', B', _, h.back g o.dst⟩
          unfold execOp; rw [ho]; simp only
          rw [Sem.run_bind, resolve_fn eg hv]; simp only [Result.andThen_ok, invoke]
          rw [← h1]
          congr 2
          apply Array.ext'; simp
        | true =>
        rw [hb] at hk
        have hcall := hk Φ B (noSlots au) w _ (h.callee hrep hall)
        refine ⟨.enter f ((c.args.map a.eval).toList ++ cc).toArray, w, ?_, ?_⟩
        · unfold execOp; rw [ho]; simp only
          rw [Sem.run_bind, resolve_fn eg hv]; simp only [Result.andThen_ok, invoke]
          rw [run_callFunc hb]
          congr 2
          apply Array.ext'; simp
        · refine hcall.mono fun e w' => ?_
          rintro ⟨v, r, hp', rfl, hK, Φ', B', au', g⟩
          exact ⟨v, _, rfl, hK, Φ', B', _, h.back g o.dst⟩
    · rename_i id ef
      obtain ⟨hbare, hk⟩ := hk
      rw [ef] at hg
      generalize hv : a.eval g = v at hg
      cases hg with
      | yld hb =>
        rename_i b
        have hall : ∀ v ∈ argVs P s c, v.cp = v ∧ v.isTup = false := fun v hv => bare_of (List.all_eq_true.1 hbare v hv)
        have hh := h.callee hargs.1 hall
        obtain ⟨fn, tmps, asg, body, h1, h2⟩ := hk Φ B (noSlots au) w _ b hh hb
        refine ⟨.round b fn tmps asg body, w, ?_, ?_⟩
        · unfold execOp; rw [ho]; simp only
          rw [Sem.run_bind, resolve_fn eg hv]; simp only [Result.andThen_ok, invoke]
          rw [Array.toArray_toList] at h1; exact h1
        · refine RoundIn.mono h2 fun e w' => ?_
          rintro ⟨v, r, hp', rfl, hK, Φ', B', au', g⟩
          exact ⟨v, _, rfl, hK, Φ', B', _, h.back g o.dst⟩
    · exact hk.elim
  · rename_i eg
    have hx : ∀ {v : Value}, (Builtin.len_ c.argTypes o.type (c.args.map a.eval)).run P w = .ok v w → (execOp a.eval o).run P w = .ok (.value v) w := by
      intro v e
      unfold execOp; rw [ho]; simp only
      unfold resolve; simp only [eg, pure_bind]
      simp only [invoke, builtin]
      exact run_v e
    obtain ⟨a1, a2⟩ := hargs.1.get
    have harg0 : ∀ d, argVs P s c = [d] → ∃ v, (c.args.map a.eval)[0]? = some v ∧ RepS Φ B d v := by
      intro d e
      rw [e] at a1 a2
      have hl : 0 < (c.args.map a.eval).toList.length := by rw [← a1]; simp
      refine ⟨(c.args.map a.eval).toList[0], by rw [← Array.getElem?_toList]; exact List.getElem?_eq_getElem hl, a2 0 d _ rfl (List.getElem?_eq_getElem hl)⟩
    have hty : ∀ td, P.underlying (c.argTypes.getD 0 0) = some td → (∃ v, (c.args.map a.eval)[0]? = some v) → c.argTypes[0]?.isSome = true → c.argTypes[0]? = some (c.argTypes.getD 0 0) := by
      intro td _ _ hs
      obtain ⟨t, ht⟩ := Option.isSome_iff_exists.1 hs
      simp [Array.getD, ht, (Array.getElem?_eq_some_iff.1 ht).1, (Array.getElem?_eq_some_iff.1 ht).2]
    split at hk
    · rename_i l z xs e
      obtain ⟨hts, hel, hk⟩ := hk
      obtain ⟨v, q1, q2⟩ := harg0 _ e
      obtain ⟨et, hut⟩ : ∃ et, P.underlying (c.argTypes.getD 0 0) = some (.slice et) := by
        unfold elemTy at hel
        split at hel
        · exact ⟨_, ‹_›⟩
        · cases hel
      have q3 := hty _ hut ⟨v, q1⟩ hts
      cases q2 with
      | d q2 =>
        obtain ⟨ad, cap, rfl, _, _⟩ := q2.sl_inv
        refine does_plain h (hx ?_) (.d (.int _ _)) (fun _ => trivial) hk
        unfold Builtin.len_
        simp only [q1, q3]
        rw [Sem.run_bind, run_underlying hut]; rfl
    · rename_i z e
      obtain ⟨hts, hel, hk⟩ := hk
      obtain ⟨v, q1, q2⟩ := harg0 _ e
      obtain ⟨et, hut⟩ : ∃ et, P.underlying (c.argTypes.getD 0 0) = some (.slice et) := by
        unfold elemTy at hel
        split at hel
        · exact ⟨_, ‹_›⟩
        · cases hel
      have q3 := hty _ hut ⟨v, q1⟩ hts
      cases q2 with
      | nil =>
        refine does_plain h (hx ?_) (.d (.int _ _)) (fun _ => trivial) hk
        unfold Builtin.len_
        simp only [q1, q3]
        rw [Sem.run_bind, run_underlying hut]; rfl
    · rename_i bs e
      obtain ⟨hts, hut, hk⟩ := hk
      obtain ⟨v, q1, q2⟩ := harg0 _ e
      have q3 := hty _ hut ⟨v, q1⟩ hts
      cases q2 with
      | d q2 =>
        have := repD_str q2; subst this
        refine does_plain h (hx ?_) (.d (.int _ _)) (fun _ => trivial) hk
        unfold Builtin.len_
        simp only [q1, q3]
        rw [Sem.run_bind, run_underlying hut]; rfl
    · rename_i id z off n cap e
      obtain ⟨hts, hel, hk⟩ := hk
      obtain ⟨v, q1, q2⟩ := harg0 _ e
      obtain ⟨et, hut⟩ : ∃ et, P.underlying (c.argTypes.getD 0 0) = some (.slice et) := by
        unfold elemTy at hel
        split at hel
        · exact ⟨_, ‹_›⟩
        · cases hel
      have q3 := hty _ hut ⟨v, q1⟩ hts
      cases q2 with
      | ref _ _ _ =>
        refine does_plain h (hx ?_) (.d (.int _ _)) (fun _ => trivial) hk
        unfold Builtin.len_
        simp only [q1, q3]
        rw [Sem.run_bind, run_underlying hut]; rfl
      | ref0 =>
        refine does_plain h (hx ?_) (.d (.int _ _)) (fun _ => trivial) hk
        unfold Builtin.len_
        simp only [q1, q3]
        rw [Sem.run_bind, run_underlying hut]; rfl
    · rename_i id e
      split at hk
      · rename_i cl es ehp
        obtain ⟨hts, hel, hk⟩ := hk
        obtain ⟨v, q1, q2⟩ := harg0 _ e
        obtain ⟨kt, et, hut⟩ : ∃ kt et, P.underlying (c.argTypes.getD 0 0) = some (.map kt et) := by
          unfold mapTy at hel
          split at hel
          · exact ⟨_, _, ‹_›⟩
          · cases hel
        have q3 := hty _ hut ⟨v, q1⟩ hts
        cases q2 with
        | map hb =>
          obtain ⟨m1, ms, m2, m3, _⟩ := h.hp id _ _ ehp hb
          refine does_plain h (hx (v := .int .i64 es.length) ?_) (.d (.int _ _)) (fun _ => trivial) hk
          unfold Builtin.len_
          simp only [q1, q3]
          rw [Sem.run_bind, run_underlying hut]; simp only [Result.andThen_ok]
          rw [Sem.run_bind, run_getObj m2 rfl]; simp only [Result.andThen_ok, m3]; rfl
      · exact hk.elim
    · exact hk.elim
  · rename_i eg
    split at hk
    · rename_i x y exy
      split at hk
      · rename_i z xs ly z' ys e1 e2
        split at hk
        · rename_i sz by_ eel
          obtain ⟨hdst, htys, rfl, rfl, hz0, hxt, hy0, hb, hk⟩ := hk
          obtain ⟨d, hd⟩ := Option.isSome_iff_exists.1 hdst
          obtain ⟨t0, t1, ety⟩ := size_two htys
          have eargs : c.args = #[x, y] := by
            have := congrArg List.toArray exy; simpa using this
          rw [ety] at e1 e2 eel hxt
          have ed0 : (#[t0, t1] : Array TypeId).getD 0 0 = t0 := rfl
          have ed1 : (#[t0, t1] : Array TypeId).getD 1 0 = t1 := rfl
          rw [ed0] at e1 eel
          rw [ed1] at e2 hxt
          have hrx := ev_rep (P := P) h t0 x
          rw [ety, ed0] at hk
          have hvx : RepD Φ (.sl false z' xs) (a.eval x) := by
            generalize ev P t0 s x = X at hrx e1
            generalize a.eval x = u at hrx
            unfold appBase at e1
            split at e1
            · injection e1 with e1; injection e1 with e1 e3; subst e1; subst e3; cases hrx with | own q => exact q
            · injection e1 with e1; injection e1 with e1 e3; subst e1; subst e3; cases hrx with | nil => exact .sl0
            · cases e1
          have hvy : RepD Φ (.sl ly z' ys) (a.eval y) := rep_d? (ev_rep (P := P) h t1 y).cp e2
          have htl : ∀ (X : V) (u : Value) (hd : Nat → Holder), appBase X = some (z', xs) → RepS Φ B X u → OwnV au w hd X u → TailOK au w (hd 0) z' u := by
            intro X u hd e hr ho
            unfold appBase at e
            split at e
            · injection e with e; injection e with e e3; subst e; exact ho
            · injection e with e; injection e with e e3; subst e
              cases hr with | nil => exact ⟨_, _, _, rfl, .inl rfl⟩
            · cases e
          have hcpx : ∀ X : V, appBase X = some (z', xs) → X.cp.cp = X.cp ∧ X.cp.isTup = false := by
            intro X e
            unfold appBase at e
            split at e
            · exact ⟨rfl, rfl⟩
            · exact ⟨rfl, rfl⟩
            · cases e
          -- the first slice's place, stripped
          obtain ⟨i0, hinv, htail, hst⟩ : ∃ i0, Inv κ Φ B au { s with tm := s.at_ x (ev P t0 s x).cp } a w ∧ TailOK au w (.slot i0 0) z' (a.eval x) ∧ ∀ V, (s.at_ x (ev P t0 s x).cp)[i0]? = some V → V.cp = V ∧ V.isTup = false := by
            cases x with
            | tmp i =>
              refine ⟨i, h.strip i, htl _ _ (fun j => .slot i j) e1 hrx (tm_get h i).2, ?_⟩
              intro V hV
              have hV' : (s.tm.set i (ev P t0 s (.tmp i)).cp)[i]? = some V := hV
              rw [List.getElem?_set, if_pos rfl] at hV'
              split at hV'
              · injection hV' with hV'; subst hV'; exact hcpx _ e1
              · cases hV'
            | const v =>
              refine ⟨s.tm.length, h, htl _ _ (fun j => .slot s.tm.length j) e1 hrx (constV_rep (P := P) (t := t0) (v := v) (Φ := Φ) (B := B)).2.1, fun V hV => ?_⟩
              · have hV' : s.tm[s.tm.length]? = some V := hV
                simp at hV'
            | «global» g => cases e1
            | func f => cases e1
          obtain ⟨rv, w', g1, Φ', au', g2⟩ := run_append (P := P) hinv (st := t0) (xt := t1) (rt := o.type) eel hxt hz0 hy0 hb hvx hvy htail hst d
          refine does_value (v := rv) (w' := w') ?_ hk ⟨Φ', B, au', by rw [hd]; exact g2⟩
          unfold execOp; rw [ho]; simp only
          unfold resolve; simp only [eg, pure_bind]
          simp only [invoke, builtin]
          refine run_v ?_
          rw [ety, eargs]
          simpa using g1
        · exact hk.elim
      · exact hk.elim
    · exact hk.elim
  · rename_i eg
    split at hk
    · rename_i k p k' q e
      obtain ⟨a1, a2⟩ := hargs.1.get
      rw [e] at a1 a2
      have hl : (c.args.map a.eval).toList.length = 2 := by rw [← a1]; rfl
      have h0 := a2 0 _ _ rfl (List.getElem?_eq_getElem (by rw [hl]; decide))
      have h1 := a2 1 _ _ rfl (List.getElem?_eq_getElem (by rw [hl]; decide))
      refine does_plain h ?_ (.d (.int _ _)) (fun _ => trivial) hk
      unfold execOp; rw [ho]; simp only
      unfold resolve; simp only [eg, pure_bind]
      simp only [invoke, builtin]
      refine run_v ?_
      unfold Builtin.min_
      generalize (c.args.map a.eval).toList = l at *
      rcases l with _ | ⟨u, _ | ⟨v, _ | ⟨_, _⟩⟩⟩ <;> simp at hl
      simp at h0 h1
      cases h0 with | d h0 => cases h1 with | d h1 => rw [repD_int h0, repD_int h1]; rfl
    · exact hk.elim
  · rename_i eg
    split at hk
    · rename_i k p k' q e
      obtain ⟨a1, a2⟩ := hargs.1.get
      rw [e] at a1 a2
      have hl : (c.args.map a.eval).toList.length = 2 := by rw [← a1]; rfl
      have h0 := a2 0 _ _ rfl (List.getElem?_eq_getElem (by rw [hl]; decide))
      have h1 := a2 1 _ _ rfl (List.getElem?_eq_getElem (by rw [hl]; decide))
      refine does_plain h ?_ (.d (.int _ _)) (fun _ => trivial) hk
      unfold execOp; rw [ho]; simp only
      unfold resolve; simp only [eg, pure_bind]
      simp only [invoke, builtin]
      refine run_v ?_
      unfold Builtin.max_
      generalize (c.args.map a.eval).toList = l at *
      rcases l with _ | ⟨u, _ | ⟨v, _ | ⟨_, _⟩⟩⟩ <;> simp at hl
      simp at h0 h1
      cases h0 with | d h0 => cases h1 with | d h1 => rw [repD_int h0, repD_int h1]; rfl
    · exact hk.elim
  · exact hk.elim

end
end Go.Idl
end
section
namespace Go.Idl

section
variable {P : Program} {κ : Ctx} {Φ : CM} {B : List Nat} {au : Auth} {s : St} {a : Act} {w : World} {K : St → Prop} {o : Oper}

/-- A new object. -/
theorem Inv.pushObj (h : Inv κ Φ B au s a w) {ob : Obj} {io : IObj}
    (hO : ∀ au' : Auth, au' w.heap.size = some (.obj s.hp.length, 0) → RepO Φ (B ++ [w.heap.size]) au' { w with heap := w.heap.push ob } s.hp.length w.heap.size io) :
    ∃ au', Inv κ Φ (B ++ [w.heap.size]) au' { s with hp := s.hp ++ [io] } a { w with heap := w.heap.push ob } := by
  have g := h.grow (Grows.push w ob)
  have hB : ∀ (i b : Nat), B[i]? = some b → (B ++ [w.heap.size])[i]? = some b := fun i b e => by
    rw [List.getElem?_append_left (List.getElem?_eq_some_iff.1 e).1]; exact e
  have hnew : au w.heap.size = none := by
    cases e : au w.heap.size with
    | none => rfl
    | some x => exact absurd (h.auw _ _ _ e).1 (Nat.lt_irrefl _)
  refine ⟨fun b => if b = w.heap.size then some (.obj s.hp.length, 0) else au b, ?_⟩
  have hau : ∀ b h0 st, au b = some (h0, st) → (if b = w.heap.size then some (Holder.obj s.hp.length, 0) else au b) = some (h0, st) := fun b h0 st e => by
    rw [if_neg]; exact e
    rintro rfl; rw [hnew] at e; cases e
  refine { g with phia := fun lb b o v h0 st hp e => ?_, auw := fun b h0 st e => ?_, pre := ?_, tm := fun i V v hV hv => ?_, hl := by simp [h.hl], nb := ⟨h.nb.1, by have := h.nb.2; simp; omega⟩, hp := fun id o b ho hb => ?_, df := ?_ }
  · split at e
    · rename_i eb
      have := h.phi _ b o v hp
      unfold World.cell? at this
      rw [eb] at this
      simp at this
    · exact h.phia _ b o v h0 st hp e
  · split at e
    · rename_i eb; subst eb; exact ⟨by simp, .inr h.size⟩
    · exact g.auw b h0 st e
  · exact h.pre.trans (List.prefix_append _ _)
  · obtain ⟨k1, k2⟩ := g.tm i V v hV hv
    exact ⟨k1.mono (CM.le_refl _) hB, k2.mono fun j b st e => ⟨hau b _ st e, rfl⟩⟩
  · by_cases hid : id < s.hp.length
    · rw [List.getElem?_append_left hid] at ho
      have hid' : id < B.length := by rw [← h.hl]; exact hid
      rw [List.getElem?_append_left hid'] at hb
      exact (g.hp id o b ho hb).mono (CM.le_refl _) hB (fun e => ⟨hau b _ _ e, rfl⟩) (fun j b st e => ⟨hau b _ st e, rfl⟩)
    · have hid1 : id = s.hp.length := by
        have := (List.getElem?_eq_some_iff.1 ho).1; simp at this; omega
      subst hid1
      simp at ho
      subst ho
      rw [h.hl] at hb
      simp at hb
      subst hb
      exact hO _ (by simp)
  · obtain ⟨rs, h1, h2, h3⟩ := g.df
    refine ⟨rs, h1, h2, fun r hr => ?_⟩
    obtain ⟨x, y, z⟩ := h3 r hr
    refine ⟨x, ?_, z⟩
    rw [if_neg]; exact y
    rintro rfl
    obtain ⟨rs', h1', h2', h3'⟩ := h.df
    rw [h1] at h1'
    have : rs = rs' := by
      have := congrArg (List.map fun d : Deferred => match d.target with | .collected r => r | _ => 0) h1'
      simpa [Function.comp_def] using this
    subst this
    have := lt_of_heap (h3' _ hr).1
    omega

theorem does_makeMap {t : TypeId} {r : List Oper} (h : Inv κ Φ B au s a w) (ho : o.op = .makeMap t none) (hk : stepK P o r s K) : Does P κ o a w K := by
  simp only [stepK, ho] at hk
  obtain ⟨au', g⟩ := h.pushObj (ob := .map #[] 0) (io := .map 0 []) fun au' ha => ⟨ha, #[], by simp, rfl, by simp⟩
  refine does_value (v := .map (some w.heap.size)) (w' := { w with heap := w.heap.push (.map #[] 0) }) ?_ hk ⟨Φ, _, au', g.put o.dst (.map (b := w.heap.size) ?_) fun _ _ => trivial⟩
  · unfold execOp; rw [ho]; refine run_v ?_
    simp [Instr.makeMap, newObj, Sem.run, pure]
  · rw [h.hl]; simp

theorem mapTy_inv {t kt et : TypeId} (e : mapTy P t = some (kt, et)) : P.underlying t = some (.map kt et) := by
  unfold mapTy at e
  split at e
  · rename_i e'; injection e with e; injection e with e1 e2; subst e1; subst e2; exact e'
  · cases e

/-- a map's object, seen -/
theorem Inv.mapAt (h : Inv κ Φ B au s a w) {id clock : Nat} {es : List (Nat × D × V)} (e : s.hp[id]? = some (.map clock es)) :
    ∃ b ms, B[id]? = some b ∧ au b = some (.obj id, 0) ∧ w.heap[b]? = some (.map ms clock) ∧ ms.size = es.length ∧
      ∀ (i : Nat) n k V, es[i]? = some (n, k, V) → ∃ e : MapEntry, ms[i]? = some e ∧ e.born = n ∧ RepD Φ k e.key ∧ RepS Φ B V e.val := by
  have hid : id < B.length := by rw [← h.hl]; exact (List.getElem?_eq_some_iff.1 e).1
  have hb : B[id]? = some B[id] := List.getElem?_eq_getElem hid
  obtain ⟨h1, ms, h2, h3, h4⟩ := h.hp id _ _ e hb
  exact ⟨_, ms, hb, h1, h2, h3, h4⟩

theorem run_checkFields {e : Bool} {n : Nat} {xs : List D} {cs : List Value} (hr : RepL Φ xs cs) : ∀ (fs : List Field), (fs.all fun f => (match P.underlying f.type, xs[f.offset]? with
    | some (.int c), some (.int a _) => a == c
    | _, _ => false)) = true →
    (forIn fs PUnit.unit (fun f _ => do
      if f.name ≠ "_" then Instr.checkKey e (n + 1) f.type (← part f.type cs.toArray f.offset)
      pure (ForInStep.yield PUnit.unit)) : Sem PUnit).run P w = .ok PUnit.unit w
  | [], _ => rfl
  | f :: fs, h => by
    simp only [List.all_cons, Bool.and_eq_true] at h
    obtain ⟨h1, h2⟩ := h
    split at h1
    · rename_i c a m hu hx
      have hkd : kindD P f.type = some false := by simp [kindD, hu]
      obtain ⟨v, g1, g2⟩ := run_part (P := P) (w := w) (t := f.type) (j := f.offset) (d := .int a m) hr (by simp [partD, hkd, D.flat, hx])
      have ih := run_checkFields (e := e) (n := n) hr fs h2
      rw [List.forIn_cons, Sem.run_bind]
      split
      · have hck : (Instr.checkKey e (n + 1) f.type v).run P w = .ok () w := by
          unfold Instr.checkKey
          rw [Sem.run_bind, run_underlying hu]; rfl
        rw [Sem.run_bind, g1]; simp only [Result.andThen_ok]
        rw [Sem.run_bind, hck]; exact ih
      · exact ih
    · cases h1

theorem run_checkKey {e : Bool} {n : Nat} {kt : TypeId} {k : D} {v : Value} (hk : keyOK P kt k = true) (hr : RepD Φ k v) : (Instr.checkKey e (n + 2) kt v).run P w = .ok () w := by
  unfold keyOK at hk
  split at hk
  · rename_i c a m hu
    unfold Instr.checkKey
    rw [Sem.run_bind, run_underlying hu]; rfl
  · rename_i fs xs hu
    cases hr with
    | agg hl =>
      rename_i cs
      unfold Instr.checkKey
      rw [Sem.run_bind, run_underlying hu]; simp only [Result.andThen_ok]
      rw [← Array.forIn_toList]
      have := run_checkFields (P := P) (w := w) (e := e) (n := n) hl fs.toList hk
      rw [Sem.run_bind]
      first | (rw [this]; rfl) | exact this
  · cases hk

def sameKey (k k' : D) : Prop := match k, k' with
  | .int c a, .int d b => c = d ∧ a = b
  | .agg xs, .agg ys => sameL xs ys = true
  | _, _ => False

theorem sameBits_of {n : Nat} : ∀ {k k' : D} {v v' : Value}, RepD Φ k v → RepD Φ k' v' → sameKey k k' → Instr.sameBits (n + 1) v v' = true := by
  intro k k' v v' h h' hs
  unfold sameKey at hs
  split at hs
  · obtain ⟨rfl, rfl⟩ := hs
    rw [repD_int h, repD_int h']; simp [Instr.sameBits]
  · cases h with
    | agg hx => cases h' with
      | agg hy =>
        rename_i xs ys cs cs'
        have key : ∀ (xs ys : List D) (cs cs' : List Value), RepL Φ xs cs → RepL Φ ys cs' → sameL xs ys = true → cs.length = cs'.length ∧ ((cs.zip cs').all fun (x, y) => Instr.sameBits n x y) = true := by
          intro xs
          induction xs with
          | nil =>
            intro ys cs cs' hx hy hs
            cases ys with
            | nil => cases hx; cases hy; simp
            | cons y ys => simp [sameL] at hs
          | cons x xs ih =>
            intro ys cs cs' hx hy hs
            cases ys with
            | nil => cases x <;> simp [sameL] at hs
            | cons y ys =>
              cases x <;> cases y <;> simp [sameL] at hs
              obtain ⟨rfl, rfl, hs⟩ := hs
              cases hx with
              | cons o1 d1 t1 => cases hy with
                | cons o2 d2 t2 =>
                  obtain ⟨q1, q2⟩ := ih _ _ _ t1 t2 hs
                  refine ⟨by simp [q1], ?_⟩
                  simp only [List.zip_cons_cons, List.all_cons, Bool.and_eq_true]
                  refine ⟨?_, q2⟩
                  rw [repD_int d1, repD_int d2]; cases n <;> simp [Instr.sameBits]
        obtain ⟨q1, q2⟩ := key _ _ _ _ hx hy hs
        simp only [Instr.sameBits]
        simp [q1]
        simpa using q2
  · exact hs.elim

/-- what is found, ideal and real -/
def FoundRep (Φ : CM) (B : List Nat) : Option (Nat × V) → Option (Nat × Value) → Prop
  | none, none => True
  | some (i, V), some (j, v) => i = j ∧ RepS Φ B V v
  | _, _ => False

theorem keyEq_now {kt : TypeId} {td : TypeDesc} {k k' : D} {v v' : Value} {b : Bool} (hu : P.underlying kt = some td) (hns : ∀ fs, td ≠ .struct fs) (e : keyEq P kt k k' = some b) (h : RepD Φ k v) (h' : RepD Φ k' v') : Instr.sameNow td v v' = some b := by
  unfold keyEq at e
  rw [hu] at e
  split at e
  · rename_i c a m c' n e0
    injection e0 with e0; subst e0
    split at e
    · rename_i hc; obtain ⟨rfl, rfl⟩ := hc
      injection e with e; subst e
      rw [repD_int h, repD_int h']
      simp only [Instr.sameNow, if_true]
      congr 1
    · cases e
  · rename_i fs xs ys e0
    injection e0 with e0
    exact absurd e0 (hns _)
  · cases e

theorem keyEq_struct {kt : TypeId} {fs : Array Field} {k k' : D} {v v' : Value} {b : Bool} (hu : P.underlying kt = some (.struct fs)) (e : keyEq P kt k k' = some b) (h : RepD Φ k v) (h' : RepD Φ k' v') : (Op.equal kt v v').run P w = .ok b w := by
  unfold keyEq at e
  rw [hu] at e
  split at e
  · rename_i e0; injection e0 with e0; cases e0
  · rename_i xs ys e0
    split at e
    · rename_i b' eb
      split at e
      · injection e with e; subst e
        cases hle : leafOffs P 8 kt with
        | none => simp [hle] at eb
        | some l =>
          simp only [hle, Option.bind_some] at eb
          cases h with
          | agg l1 => cases h' with
            | agg l2 => exact (run_equalIn_plain 8 kt l hle Op.maxDepth (by decide) b').1 xs ys _ _ fs hu l1 l2 eb
      · cases e
    · cases e
  · cases e

theorem keyEq_same {kt : TypeId} {k k' : D} (e : keyEq P kt k k' = some true) : sameKey k' k := by
  have sym : ∀ xs ys : List D, sameL xs ys = sameL ys xs := by
    intro xs
    induction xs with
    | nil => intro ys; cases ys <;> simp [sameL]
    | cons x xs ih =>
      intro ys
      cases ys with
      | nil => cases x <;> simp [sameL]
      | cons y ys => cases x <;> cases y <;> simp [sameL, ih ys, eq_comm]
  unfold keyEq at e
  split at e
  · split at e
    · rename_i hc; injection e with e; obtain ⟨rfl, rfl⟩ := hc; exact ⟨rfl, (of_decide_eq_true e).symm⟩
    · cases e
  · split at e
    · split at e
      · rename_i xs ys b h; injection e with e; subst e; show sameL _ _ = true; rw [sym]; exact h.symm
      · cases e
    · cases e
  · cases e

/-- a key is looked for -/
theorem run_find {kt : TypeId} {k : D} {v : Value} {es : List (Nat × D × V)} {ms : List MapEntry} {r : Option (Nat × V)} (hk : keyOK P kt k = true) (hr : RepD Φ k v) (hl : ms.length = es.length)
    (hg : ∀ (i : Nat) n k V, es[i]? = some (n, k, V) → ∃ e : MapEntry, ms[i]? = some e ∧ e.born = n ∧ RepD Φ k e.key ∧ RepS Φ B V e.val) (e : mfind P kt k es 0 = some r) :
    ∃ r', (Instr.findKey kt v ms).run P w = .ok r' w ∧ FoundRep Φ B r r' := by
  obtain ⟨td, hu⟩ : ∃ td, P.underlying kt = some td := by
    unfold keyOK at hk
    split at hk
    · exact ⟨_, ‹_›⟩
    · exact ⟨_, ‹_›⟩
    · cases hk
  unfold Instr.findKey
  rw [Sem.run_bind, run_underlying hu]; simp only [Result.andThen_ok]
  by_cases hs : ∃ fs, td = .struct fs
  · obtain ⟨fs, rfl⟩ := hs
    have ask : ∀ (es : List (Nat × D × V)) (ms : List MapEntry) (i : Nat), ms.length = es.length → (∀ (i : Nat) n k V, es[i]? = some (n, k, V) → ∃ e : MapEntry, ms[i]? = some e ∧ e.born = n ∧ RepD Φ k e.key ∧ RepS Φ B V e.val) → mfind P kt k es i = some r →
        ∃ r', (Instr.findAsking kt v ms i).run P w = .ok r' w ∧ FoundRep Φ B r r' := by
      intro es
      induction es with
      | nil =>
        intro ms i hl _ e
        cases ms with
        | nil => simp [mfind] at e; subst e; exact ⟨none, rfl, trivial⟩
        | cons m ms => simp at hl
      | cons x es ih =>
        intro ms i hl hg e
        cases ms with
        | nil => simp at hl
        | cons m ms =>
          obtain ⟨n, k', V⟩ := x
          obtain ⟨m', hm, _, hm2, hm3⟩ := hg 0 n k' V rfl
          simp at hm; subst hm
          simp only [mfind] at e
          unfold Instr.findAsking
          rw [Sem.run_bind]
          split at e
          · rename_i ek
            injection e with e; subst e
            rw [keyEq_struct hu ek hr hm2]
            exact ⟨some (i, m.val), rfl, rfl, hm3⟩
          · rename_i ek
            rw [keyEq_struct hu ek hr hm2]
            exact ih ms (i + 1) (by simpa using hl) (fun j n k V hj => hg (j + 1) n k V (by simpa using hj)) e
          · cases e
    have hask := ask es ms 0 hl hg e
    cases ms with
    | nil => exact hask
    | cons m ms =>
      have hnow : Instr.findNow (.struct fs) v (m :: ms) 0 = none := by simp [Instr.findNow, Instr.sameNow]
      simp only [hnow]; exact hask
  · have hns : ∀ fs, td ≠ .struct fs := fun fs h => hs ⟨fs, h⟩
    have now : ∀ (es : List (Nat × D × V)) (ms : List MapEntry) (i : Nat), ms.length = es.length → (∀ (i : Nat) n k V, es[i]? = some (n, k, V) → ∃ e : MapEntry, ms[i]? = some e ∧ e.born = n ∧ RepD Φ k e.key ∧ RepS Φ B V e.val) → mfind P kt k es i = some r →
        ∃ r', Instr.findNow td v ms i = some r' ∧ FoundRep Φ B r r' := by
      intro es
      induction es with
      | nil =>
        intro ms i hl _ e
        cases ms with
        | nil => simp [mfind] at e; subst e; exact ⟨none, rfl, trivial⟩
        | cons m ms => simp at hl
      | cons x es ih =>
        intro ms i hl hg e
        cases ms with
        | nil => simp at hl
        | cons m ms =>
          obtain ⟨n, k', V⟩ := x
          obtain ⟨m', hm, _, hm2, hm3⟩ := hg 0 n k' V rfl
          simp at hm; subst hm
          simp only [mfind] at e
          unfold Instr.findNow
          split at e
          · rename_i ek
            injection e with e; subst e
            rw [keyEq_now hu hns ek hr hm2]
            exact ⟨some (i, m.val), rfl, rfl, hm3⟩
          · rename_i ek
            rw [keyEq_now hu hns ek hr hm2]
            exact ih ms (i + 1) (by simpa using hl) (fun j n k V hj => hg (j + 1) n k V (by simpa using hj)) e
          · cases e
    obtain ⟨r', q1, q2⟩ := now es ms 0 hl hg e
    rw [q1]
    exact ⟨r', rfl, q2⟩

theorem zeroV_rep {t : TypeId} {V : V} (e : zeroV P t = some V) : ∃ z, (zeroValue t).run P w = .ok z w ∧ RepS Φ B V z ∧ ∀ au w h, OwnV au w h V z := by
  unfold zeroV at e
  split at e
  · rename_i hk
    split at e
    · rename_i cs c e1 ez
      split at e
      · rename_i hl
        injection e with e; subst e
        obtain ⟨i, hi, hz⟩ : ∃ i, P.info? t = some i ∧ i.zero = some (.agg c) := by
          cases e2 : P.info? t with
          | none => simp [e2] at ez
          | some i => exact ⟨i, rfl, by simpa [e2] using ez⟩
        have hr := zeroCs_rep (Φ := Φ) e1 hi hz
        refine ⟨_, run_zeroValue hi hz, .d ?_, fun _ _ _ => trivial⟩
        have := RepD.agg (Φ := Φ) (ds := cs) (cs := c.toList) (RepL.of (by simpa using hl) fun j d v hd hv => by
          obtain ⟨v', q1, q2, q3, _⟩ := hr j d hd
          simp only [Value.cells] at q1
          rw [Array.getElem?_toList, q1] at hv; injection hv with hv; subst hv; exact ⟨q2, q3⟩)
        simpa using this
      · cases e
    · cases e
  · rename_i hk
    split at e
    · rename_i zv ez
      injection e with e; subst e
      obtain ⟨i, hi, hz⟩ : ∃ i, P.info? t = some i ∧ i.zero = some zv := by
        cases e2 : P.info? t with
        | none => simp [e2] at ez
        | some i => exact ⟨i, rfl, by simpa [e2] using ez⟩
      exact ⟨zv, run_zeroValue hi hz, (constV_rep (au := fun _ => none) (w := w) (h := fun _ => .obj 0)).1, fun au w h => (constV_rep (Φ := Φ) (B := B)).2.1⟩
    · cases e
  · cases e

theorem does_lookup {t : TypeId} {x y : Operand} {ok : Bool} {r : List Oper} (h : Inv κ Φ B au s a w) (ho : o.op = .lookup t x y ok) (hk : stepK P o r s K) : Does P κ o a w K := by
  simp only [stepK, ho] at hk
  unfold lookupK at hk
  split at hk
  · rename_i id k kt et ex ek em
    rw [em] at ek
    simp only [Option.map_some, Option.getD_some] at ek
    split at hk
    · rename_i clock es ehp
      obtain ⟨hkey, hk⟩ := hk
      obtain ⟨b, ms, hb, h1, h2, h3, h4⟩ := h.mapAt ehp
      have hut := mapTy_inv em
      have hx := ev_rep (P := P) h t x
      rw [ex] at hx
      have hxv : a.eval x = .map (some b) := by
        generalize a.eval x = v at hx
        cases hx with | map q => rw [hb] at q; injection q with q; rw [q]
      have hkv := ev_d h ek
      have run : ∀ {r' : Option (Nat × Value)} {v : Value} {z : Bool}, (Instr.findKey kt (a.eval y) ms.toList).run P w = .ok r' w → ((match r' with | some (_, v) => pure (v, true) | none => do pure (← zeroValue et, false)) : Sem (Value × Bool)).run P w = .ok (v, z) w →
          (execOp a.eval o).run P w = .ok (.value (if ok then .tuple #[v, .bool z] else v)) w := by
        intro r' v z e1 e2
        unfold execOp; rw [ho]; refine run_v ?_
        simp only [hxv]
        unfold Instr.lookup
        rw [Sem.run_bind, run_underlying hut]; simp only [Result.andThen_ok]
        rw [Sem.run_bind]
        simp only [Sem.run_bind, run_getObj h2 rfl, Result.andThen_ok]
        simp only [Sem.run_pure, Result.andThen_ok]
        rw [run_checkKey hkey hkv]; simp only [Result.andThen_ok, e1]
        cases r' with
        | none =>
          simp only [Sem.run_bind] at e2 ⊢
          cases hz : (zeroValue et).run P w with
          | ok z' w' =>
            rw [hz] at e2
            simp only [Result.andThen_ok, Sem.run_pure, Result.ok.injEq, Prod.mk.injEq] at e2 ⊢
            obtain ⟨⟨rfl, rfl⟩, rfl⟩ := e2
            exact ⟨rfl, rfl⟩
          | halt _ _ => rw [hz] at e2; simp [Result.andThen] at e2
        | some p =>
          simp only [Sem.run_pure, Result.ok.injEq, Prod.mk.injEq] at e2
          obtain ⟨⟨rfl, rfl⟩, _⟩ := e2
          rfl
      split at hk
      · rename_i i V ef
        obtain ⟨r', g1, g2⟩ := run_find (B := B) (w := w) hkey hkv (by rw [Array.length_toList]; exact h3) (fun i n k V hi => by simpa using h4 i n k V hi) ef
        cases r' with
        | none => exact g2.elim
        | some p =>
          obtain ⟨j, v⟩ := p
          obtain ⟨_, hV⟩ := g2
          have := run (v := v) (z := true) g1 rfl
          cases ok with
          | false =>
            simp only [Bool.false_eq_true, if_false] at hk this
            exact does_plain h this hV.cp (fun _ => OwnV_cp) hk
          | true =>
            simp only [if_true] at hk this
            refine does_plain h this (.tup (cs := [v, .bool true]) (.cons hV.cp (.cons (.d (.bool _)) .nil))) (fun _ => ?_) hk
            constructor <;>
            · rintro j z xs cs c e hj hc
              match j, hj with
              | 0, hj => simp at hj; cases V <;> simp [Idl.V.cp] at hj
              | 1, hj => simp at hj
              | j + 2, hj => simp at hj
      · rename_i ef
        obtain ⟨r', g1, g2⟩ := run_find (B := B) (w := w) hkey hkv (by rw [Array.length_toList]; exact h3) (fun i n k V hi => by simpa using h4 i n k V hi) ef
        cases r' with
        | some p => exact g2.elim
        | none =>
          split at hk
          · rename_i Z eZ
            obtain ⟨z, z1, z2, z3⟩ := zeroV_rep (Φ := Φ) (B := B) (w := w) eZ
            have := run (v := z) (z := false) g1 (by simp only [Sem.run_bind, z1, Result.andThen_ok, Sem.run_pure])
            cases ok with
            | false =>
              simp only [Bool.false_eq_true, if_false] at hk this
              exact does_plain h this z2 (fun _ => z3 _ _ _) hk
            | true =>
              simp only [if_true] at hk this
              refine does_plain h this (.tup (cs := [z, .bool false]) (.cons z2 (.cons (.d (.bool _)) .nil))) (fun hd => ?_) hk
              constructor <;>
              · rintro j zz xs cs c e hj hc
                injection e with e;
                match j, hj with
                | 0, hj =>
                  simp at hj; subst hj
                  have : c = z := by
                    subst e; simpa using hc.symm
                  subst this
                  exact z3 au w (fun _ => hd 0)
                | 1, hj => simp at hj
                | j + 2, hj => simp at hj
          · exact hk.elim
      · exact hk.elim
    · exact hk.elim
  · exact hk.elim

theorem run_setMap {b : Nat} {ms ms' : Array MapEntry} {c c' : Nat} (h2 : w.heap[b]? = some (.map ms c)) : (setObj b (.map ms' c')).run P w = .ok () { w with heap := w.heap.setIfInBounds b (.map ms' c') } := run_setObj h2 rfl

theorem Inv.setMap (h : Inv κ Φ B au s a w) {id b clock clock' : Nat} {ms ms' : Array MapEntry} {es' : List (Nat × D × V)} (hb : B[id]? = some b) (h1 : au b = some (.obj id, 0)) (h2 : w.heap[b]? = some (.map ms clock)) (h3 : ms'.size = es'.length)
    (h4 : ∀ (i : Nat) n k V, es'[i]? = some (n, k, V) → ∃ e : MapEntry, ms'[i]? = some e ∧ e.born = n ∧ RepD Φ k e.key ∧ RepS Φ B V e.val) :
    Inv κ Φ B au { s with hp := s.hp.set id (.map clock' es') } a { w with heap := w.heap.setIfInBounds b (.map ms' clock') } := by
  have hl : (w.heap.setIfInBounds b (.map ms' clock'))[b]? = some (.map ms' clock') := by
    rw [Array.getElem?_setIfInBounds, if_pos rfl, if_pos (lt_of_heap h2)]
  refine h.write hb h1 (by simp) (fun b' hb' => ?_) rfl rfl rfl (fun r hr => by rw [h2] at hr; cases hr) ⟨h1, ms', hl, h3, h4⟩
  show (w.heap.setIfInBounds b _)[b']? = _
  rw [Array.getElem?_setIfInBounds, if_neg (Ne.symm hb')]

theorem mfind_at {kt : TypeId} {k : D} {i : Nat} {V : V} : ∀ {es : List (Nat × D × Idl.V)} {n : Nat}, mfind P kt k es n = some (some (i, V)) → n ≤ i ∧ ∃ b k', es[i - n]? = some (b, k', V) ∧ keyEq P kt k k' = some true
  | [], n, e => by simp [mfind] at e
  | (b, k', v) :: es, n, e => by
    simp only [mfind] at e
    split at e
    · rename_i ek
      injection e with e; injection e with e; injection e with e1 e2; subst e1; subst e2
      exact ⟨Nat.le_refl _, b, k', by simp, ek⟩
    · obtain ⟨h1, b', k2, h2, h3⟩ := mfind_at e
      refine ⟨by omega, b', k2, ?_, h3⟩
      obtain ⟨m, rfl⟩ : ∃ m, i = n + 1 + m := ⟨i - (n + 1), by omega⟩
      rw [show n + 1 + m - (n + 1) = m by omega] at h2
      rw [show n + 1 + m - n = m + 1 by omega]; exact h2
    · cases e

theorem does_mapUpdate {t : TypeId} {x y z : Operand} {r : List Oper} (h : Inv κ Φ B au s a w) (ho : o.op = .mapUpdate t x y z) (hk : stepK P o r s K) : Does P κ o a w K := by
  simp only [stepK, ho] at hk
  obtain ⟨_, hk⟩ := hk
  unfold mapUpdateK at hk
  split at hk
  · rename_i id k kt et ex ek em
    rw [em] at ek hk
    simp only [Option.map_some, Option.getD_some] at ek hk
    split at hk
    · rename_i clock es ehp
      obtain ⟨hkey, hk⟩ := hk
      obtain ⟨b, ms, hb, h1, h2, h3, h4⟩ := h.mapAt ehp
      have hut := mapTy_inv em
      have hx := ev_rep (P := P) h t x
      rw [ex] at hx
      have hxv : a.eval x = .map (some b) := by
        generalize a.eval x = v at hx
        cases hx with | map q => rw [hb] at q; injection q with q; rw [q]
      have hkv := ev_d h ek
      have hzv := (ev_rep (P := P) h et z).cp
      have run : ∀ {r' : Option (Nat × Value)} {w' : World}, (Instr.findKey kt (a.eval y) ms.toList).run P w = .ok r' w → ((match r' with
          | some (i, _) => do
            let key ← Instr.keyThatStays (((ms[i]?).map (·.key)).getD (a.eval y)) (a.eval y)
            setObj b (.map (ms.modify i fun e => { e with key, val := a.eval z }) clock)
          | none => setObj b (.map (ms.push { key := a.eval y, val := a.eval z, born := clock }) (clock + 1))) : Sem Unit).run P w = .ok () w' →
          (execOp a.eval o).run P w = .ok .skip w' := by
        intro r' w' e1 e2
        unfold execOp; rw [ho]; refine run_u ?_
        simp only [hxv]
        unfold Instr.mapUpdate
        rw [Sem.run_bind, run_underlying hut]; simp only [Result.andThen_ok]
        rw [Sem.run_bind, run_getObj h2 rfl]; simp only [Result.andThen_ok]
        rw [Sem.run_bind, run_checkKey hkey hkv]; simp only [Result.andThen_ok]
        rw [Sem.run_bind, e1]; simp only [Result.andThen_ok]
        exact e2
      split at hk
      · rename_i i V ef
        obtain ⟨r', g1, g2⟩ := run_find (B := B) (w := w) hkey hkv (by rw [Array.length_toList]; exact h3) (fun i n k V hi => by simpa using h4 i n k V hi) ef
        cases r' with
        | none => exact g2.elim
        | some p =>
          obtain ⟨j, v⟩ := p
          obtain ⟨rfl, hV⟩ := g2
          obtain ⟨_, b0, k', hat, hkk⟩ := mfind_at ef
          simp only [Nat.sub_zero] at hat
          obtain ⟨e0, m1, m2, m3, m4⟩ := h4 i b0 k' V hat
          have hbits : Instr.sameBits 10000 e0.key (a.eval y) = true := sameBits_of (n := 9999) m3 hkv (keyEq_same hkk)
          have hrun := run (r' := some (i, v)) (w' := { w with heap := w.heap.setIfInBounds b (.map (ms.modify i fun e => { e with key := a.eval y, val := a.eval z }) clock) }) g1 (by
            simp only [m1, Option.map_some, Option.getD_some, Instr.keyThatStays, hbits, if_true, pure_bind]
            exact run_setMap h2)
          refine does_skip hrun hk ⟨Φ, B, au, (h.setMap (es' := es.modify i fun e => (e.1, e.2.1, (ev P et s z).cp)) hb h1 h2 (by simpa using h3) (fun j n k2 V2 hj => ?_)).put o.dst (.un _) fun _ _ => trivial⟩
          rw [List.getElem?_modify] at hj
          by_cases ej : i = j
          · subst ej
            rw [hat] at hj; simp at hj
            obtain ⟨rfl, rfl, rfl⟩ := hj
            refine ⟨{ e0 with key := a.eval y, val := a.eval z }, by simp [Array.getElem?_modify, m1], m2, ?_, hzv⟩
            have hs := keyEq_same hkk
            unfold sameKey at hs
            split at hs
            · obtain ⟨rfl, rfl⟩ := hs; exact hkv
            · rename_i xs ys
              have aux : ∀ (xs ys : List D), sameL xs ys = true → xs = ys := by
                intro xs
                induction xs with
                | nil => intro ys h; cases ys with | nil => rfl | cons y ys => simp [sameL] at h
                | cons x xs ih =>
                  intro ys h
                  cases ys with
                  | nil => cases x <;> simp [sameL] at h
                  | cons y ys =>
                    cases x <;> cases y <;> simp [sameL] at h
                    obtain ⟨rfl, rfl, h⟩ := h; rw [ih ys h]
              rw [aux _ _ hs]; exact hkv
            · exact hs.elim
          · simp [ej] at hj
            obtain ⟨e2, q1, q2, q3, q4⟩ := h4 j n k2 V2 hj
            exact ⟨e2, by simp [Array.getElem?_modify, ej, q1], q2, q3, q4⟩
      · rename_i ef
        obtain ⟨r', g1, g2⟩ := run_find (B := B) (w := w) hkey hkv (by rw [Array.length_toList]; exact h3) (fun i n k V hi => by simpa using h4 i n k V hi) ef
        cases r' with
        | some p => exact g2.elim
        | none =>
          have hrun := run (w' := { w with heap := w.heap.setIfInBounds b (.map (ms.push { key := a.eval y, val := a.eval z, born := clock }) (clock + 1)) }) g1 (run_setMap h2)
          refine does_skip hrun hk ⟨Φ, B, au, (h.setMap (es' := es ++ [(clock, k, (ev P et s z).cp)]) hb h1 h2 (by simp [h3]) (fun j n k2 V2 hj => ?_)).put o.dst (.un _) fun _ _ => trivial⟩
          by_cases ej : j < es.length
          · rw [List.getElem?_append_left ej] at hj
            obtain ⟨e2, q1, q2, q3, q4⟩ := h4 j n k2 V2 hj
            refine ⟨e2, ?_, q2, q3, q4⟩
            rw [Array.getElem?_push, if_neg (by omega)]; exact q1
          · rw [List.getElem?_append_right (by omega)] at hj
            have ej' : j = es.length := by
              have := (List.getElem?_eq_some_iff.1 hj).1; simp at this; omega
            subst ej'
            simp at hj
            obtain ⟨rfl, rfl, rfl⟩ := hj
            exact ⟨_, by rw [Array.getElem?_push, if_pos h3.symm], rfl, hkv, hzv⟩
      · exact hk.elim
    · exact hk.elim
  · exact hk.elim

theorem does_range {t : TypeId} {x : Operand} {r : List Oper} (h : Inv κ Φ B au s a w) (ho : o.op = .range t x) (hk : stepK P o r s K) : Does P κ o a w K := by
  simp only [stepK, ho] at hk
  split at hk
  · rename_i id ex
    split at hk
    · rename_i clock es ehp
      obtain ⟨hm, hk⟩ := hk
      obtain ⟨b, ms, hb, h1, h2, h3, h4⟩ := h.mapAt ehp
      obtain ⟨p, em⟩ := Option.isSome_iff_exists.1 hm
      have hut := mapTy_inv (kt := p.1) (et := p.2) em
      have hx := ev_rep (P := P) h t x
      rw [ex] at hx
      have hxv : a.eval x = .map (some b) := by
        generalize a.eval x = v at hx
        cases hx with | map q => rw [hb] at q; injection q with q; rw [q]
      obtain ⟨au', g⟩ := h.pushObj (ob := .mapIter (some b) clock #[] clock) (io := .iter id clock [] clock) fun au' ha => ⟨ha, b, by
        rw [List.getElem?_append_left (List.getElem?_eq_some_iff.1 hb).1]; exact hb, by simp⟩
      refine does_value (v := .pointer (some ⟨w.heap.size, 0, none⟩)) (w' := { w with heap := w.heap.push (.mapIter (some b) clock #[] clock) }) ?_ hk ⟨Φ, _, au', g.put o.dst (.ptr (b := w.heap.size) ?_) fun _ _ => trivial⟩
      · unfold execOp; rw [ho]; refine run_v ?_
        simp only [hxv]
        unfold Instr.range
        rw [Sem.run_bind, run_underlying hut]; simp only [Result.andThen_ok]
        rw [Sem.run_bind, run_getObj h2 rfl]; simp only [Result.andThen_ok]
        simp [newObj, Sem.run, pure]
      · rw [h.hl]; simp
    · exact hk.elim
  · exact hk.elim

theorem run_choose_mapNext {n : Nat} : ∃ i w', (choose (.mapNext n)).run P w = .ok i w' ∧ Grows w w' ∧ (0 < n → i < n) := by
  by_cases hn : n ≤ 1
  · refine ⟨0, w, ?_, Grows.refl w, fun h => h⟩
    simp [choose, Sem.run, Question.forced, hn, pure]
  · refine ⟨w.tape w.drawn (.mapNext n) % n, w.drew, ?_, Grows.drew w _, fun _ => ?_⟩
    rotate_left
    · exact Nat.mod_lt (w.tape w.drawn (.mapNext n)) (by omega)
    · simp [choose, Sem.run, Question.forced, hn, pure, Question.cut]

theorem does_next {x : Operand} {r : List Oper} (h : Inv κ Φ B au s a w) (ho : o.op = .next x false) (hk : stepK P o r s K) : Does P κ o a w K := by
  simp only [stepK, ho] at hk
  unfold nextK at hk
  split at hk
  · rename_i id ex
    split at hk
    · rename_i m since seen last ehp
      split at hk
      · rename_i clock es ehm
        obtain ⟨hlast, hend, hstep⟩ := hk
        obtain ⟨bm, ms, hbm, h1, h2, h3, h4⟩ := h.mapAt ehm
        have hid : id < B.length := by rw [← h.hl]; exact (List.getElem?_eq_some_iff.1 ehp).1
        have hb : B[id]? = some B[id] := List.getElem?_eq_getElem hid
        obtain ⟨i1, bm', i2, i3⟩ := h.hp id _ _ ehp hb
        rw [hbm] at i2; injection i2 with i2; subst i2
        have hx := ev_rep (P := P) h 0 x
        rw [ex] at hx
        have hxv := hx.ptr_inv hb
        generalize B[id] = b at *
        -- the run
        have hcond : (!(seen.toArray).isEmpty && !ms.isEmpty && ms.all (·.born ≥ last)) = false := by
          rcases hlast with rfl | rfl | he
          · simp
          · have : ms = #[] := by have := h3; simp at this; exact this
            subst this; simp
          · rw [List.any_eq_true] at he
            obtain ⟨⟨n, k, V⟩, hmem, hlt⟩ := he
            obtain ⟨i, hi, hie⟩ := List.getElem_of_mem hmem
            obtain ⟨e, q1, q2, _⟩ := h4 i n k V (by rw [← hie]; exact List.getElem?_eq_getElem hi)
            have : ms.all (·.born ≥ last) = false := by
              rw [Array.all_eq_false]
              obtain ⟨hi', he'⟩ := Array.getElem?_eq_some_iff.1 q1
              refine ⟨i, hi', ?_⟩
              rw [he', q2]; simpa using hlt
            rw [this]; simp
        generalize hcand : (if ((ms.filter fun e => !(seen.toArray).contains e.born).filter (·.born < since)).isEmpty then #[none] else #[]) ++ (((ms.filter fun e => !(seen.toArray).contains e.born).filter (·.born < since)) ++ ((ms.filter fun e => !(seen.toArray).contains e.born).filter (·.born ≥ since))).map some = cand
        have hpos : 0 < cand.size := by
          rw [← hcand]
          split
          · simp; omega
          · rename_i hne
            have : 0 < ((ms.filter fun e => !(seen.toArray).contains e.born).filter (·.born < since)).size := by
              rw [Array.isEmpty_iff_size_eq_zero] at hne; omega
            simp only [Array.size_append, Array.size_map]; omega
        obtain ⟨i, w', hch, hg, hlt⟩ := run_choose_mapNext (P := P) (w := w) (n := cand.size)
        have hci := Array.getElem?_eq_getElem (hlt hpos)
        have hrun : ∀ {y : Value} {w2 : World}, ((match cand[i]? with
            | some (some e) => do
              setObj b (.mapIter (some bm) since (seen.toArray.push e.born) clock)
              pure (.tuple #[.bool true, e.key, e.val])
            | some none => pure (.tuple #[.bool false])
            | none => stuck "Next: no such candidate") : Sem Value).run P w' = .ok y w2 → (execOp a.eval o).run P w = .ok (.value y) w2 := by
          intro y w2 e
          unfold execOp; rw [ho]; refine run_v ?_
          simp only [hxv]
          unfold Instr.next
          simp only
          rw [Sem.run_bind, run_getObj i3 rfl]; simp only [Result.andThen_ok]
          rw [Sem.run_bind, run_getObj h2 rfl]; simp only [Result.andThen_ok]
          rw [hcond]
          simp only [Bool.false_eq_true, if_false]
          rw [hcand, Sem.run_bind, hch]; simp only [Result.andThen_ok]
          exact e
        have hmem : cand[i]'(hlt hpos) ∈ cand := Array.getElem_mem _
        cases hc : cand[i]'(hlt hpos) with
        | none =>
          rw [hc] at hci hmem
          have hold : ((ms.filter fun e => !(seen.toArray).contains e.born).filter (·.born < since)).isEmpty = true := by
            rw [← hcand] at hmem
            rw [Array.mem_append] at hmem
            rcases hmem with hm | hm
            · split at hm
              · assumption
              · simp at hm
            · simp at hm
          have hempty : (es.filter fun e => !seen.contains e.1 && decide (e.1 < since)) = [] := by
            rw [List.filter_eq_nil_iff]
            rintro ⟨n, k, V⟩ hme hc2
            obtain ⟨j, hj, hje⟩ := List.getElem_of_mem hme
            obtain ⟨e, q1, q2, _⟩ := h4 j n k V (by rw [← hje]; exact List.getElem?_eq_getElem hj)
            simp only [Bool.and_eq_true, Bool.not_eq_true', decide_eq_true_eq] at hc2
            have : e ∈ ((ms.filter fun e => !(seen.toArray).contains e.born).filter (·.born < since)) := by
              rw [Array.mem_filter, Array.mem_filter]
              refine ⟨⟨Array.mem_of_getElem? q1, ?_⟩, ?_⟩
              · rw [q2]; simpa using hc2.1
              · rw [q2]; simpa using hc2.2
            rw [Array.isEmpty_iff] at hold
            rw [hold] at this; simp at this
          have := hrun (y := .tuple #[.bool false]) (w2 := w') (by rw [hci]; rfl)
          refine does_value this (hend hempty) ⟨Φ, B, au, (h.grow hg).put o.dst (.tup (cs := [.bool false]) (.cons (.d (.bool _)) .nil)) fun _ _ => ?_⟩
          constructor <;>
          · rintro j z xs cs c e hj hc
            cases j <;> simp at hj
        | some e =>
          rw [hc] at hci hmem
          have hme : e ∈ ms ∧ seen.contains e.born = false := by
            rw [← hcand] at hmem
            rw [Array.mem_append] at hmem
            rcases hmem with hm | hm
            · split at hm <;> simp at hm
            · rw [Array.mem_map] at hm
              obtain ⟨e', he', hee⟩ := hm
              injection hee with hee; subst hee
              rw [Array.mem_append] at he'
              rcases he' with he' | he' <;> (rw [Array.mem_filter, Array.mem_filter] at he'; exact ⟨he'.1.1, by simpa using he'.1.2⟩)
          obtain ⟨hm1, hm2⟩ := hme
          obtain ⟨j, hj, hje⟩ := Array.getElem_of_mem hm1
          have hj' : j < es.length := by omega
          obtain ⟨e2, q1, q2, q3, q4⟩ := h4 j es[j].1 es[j].2.1 es[j].2.2 (List.getElem?_eq_getElem hj')
          have : e2 = e := by rw [Array.getElem?_eq_getElem hj, hje] at q1; injection q1 with q1; exact q1.symm
          subst this
          have hk2 := hstep es[j] (List.getElem_mem hj') (by rw [← q2]; exact hm2)
          have hl' : w'.heap[b]? = some (.mapIter (some bm) since seen.toArray last) := (hg.same b (lt_of_heap i3)).trans i3
          have := hrun (y := .tuple #[.bool true, e2.key, e2.val]) (w2 := { w' with heap := w'.heap.setIfInBounds b (.mapIter (some bm) since (seen.toArray.push e2.born) clock) }) (by
            rw [hci]; simp only
            rw [Sem.run_bind, run_setObj hl' rfl]; rfl)
          refine does_value this hk2 ⟨Φ, B, au, Inv.put (s := { s with hp := s.hp.set id (.iter m since (seen ++ [es[j].1]) clock) }) ?_ o.dst (.tup (cs := [.bool true, e2.key, e2.val]) (.cons (.d (.bool _)) (.cons (.d q3) (.cons q4.cp .nil)))) fun _ _ => ?_⟩
          · have hlb : (w'.heap.setIfInBounds b (.mapIter (some bm) since (seen.toArray.push e2.born) clock))[b]? = some (.mapIter (some bm) since (seen.toArray.push e2.born) clock) := by
              rw [Array.getElem?_setIfInBounds, if_pos rfl, if_pos (lt_of_heap hl')]
            refine (h.grow hg).write hb i1 (by simp) (fun b' hb' => ?_) rfl rfl rfl (fun r hr => by rw [hl'] at hr; cases hr) ⟨i1, bm, hbm, by rw [hlb, q2]; simp⟩
            show (w'.heap.setIfInBounds b _)[b']? = _
            rw [Array.getElem?_setIfInBounds, if_neg (Ne.symm hb')]
          · constructor <;>
            · rintro jj z xs cs c e hjj hcc
              match jj, hjj with
              | 0, hjj => simp at hjj
              | 1, hjj => simp at hjj
              | 2, hjj =>
                simp at hjj
                cases hV : es[j].2.2 <;> rw [hV] at hjj <;> simp [Idl.V.cp] at hjj
              | jj + 3, hjj => simp at hjj
      · exact hk.elim
    · exact hk.elim
  · exact hk.elim

end
end Go.Idl
end
