/- One operation: what the ideal step promises, the machine does. Part 1.; One operation: what the ideal step promises, the machine does. Part 2: reading.; One operation. Part 3: writing. -/
import Derived.Test.YtkfpaffcglijeaaQueueApartPart01
set_option linter.all false
section
namespace Go.Idl

/-- An operation is carried out, and behind it K holds of an ideal state that stands for what is there. -/
def Does (P : Program) (κ : Ctx) (o : Oper) (a : Act) (w : World) (K : St → Prop) : Prop :=
  ∃ nx w', (execOp a.eval o).run P w = .ok nx w' ∧ match nx with
    | .value v => ∃ s', K s' ∧ Rel κ s' (a.put o.dst v) w'
    | .skip => ∃ s', K s' ∧ Rel κ s' (a.put o.dst undef) w'
    | .enter f args => CallsIn Fence.wide 0 P f args w' fun e w'' => ∃ v s', e = .returned v ∧ K s' ∧ Rel κ s' (a.put o.dst v) w''
    | .round l f tmps asg body => RoundIn Fence.wide 0 P l f tmps asg body w' fun e w'' => ∃ v s', e = .returned v ∧ K s' ∧ Rel κ s' (a.put o.dst v) w''
    | _ => False

theorem run_v {P : Program} {x : Sem Value} {w w' : World} {v : Value} (h : x.run P w = .ok v w') : (do pure (.value (← x)) : Sem Next).run P w = .ok (.value v) w' := by
  rw [Sem.run_bind, h]; rfl

theorem run_u {P : Program} {x : Sem Unit} {w w' : World} (h : x.run P w = .ok () w') : (do x; pure .skip : Sem Next).run P w = .ok .skip w' := by
  rw [Sem.run_bind, h]; rfl

theorem run_program {P : Program} {w : World} : program.run P w = .ok P w := rfl

theorem run_underlying {P : Program} {t : TypeId} {d : TypeDesc} {w : World} (h : P.underlying t = some d) : (underlying t).run P w = .ok d w := by
  unfold underlying; rw [Sem.run_bind, run_program]; simp only [Result.andThen_ok, h]; rfl

theorem run_typeInfo {P : Program} {t : TypeId} {d : TypeInfo} {w : World} (h : P.info? t = some d) : (typeInfo t).run P w = .ok d w := by
  unfold typeInfo; rw [Sem.run_bind, run_program]; simp only [Result.andThen_ok, h]; rfl

theorem run_sizeOf {P : Program} {t : TypeId} {d : TypeInfo} {w : World} (h : P.info? t = some d) : (sizeOf t).run P w = .ok d.size w := by
  unfold sizeOf; rw [Sem.run_bind, run_typeInfo h]; rfl

theorem run_zeroValue {P : Program} {t : TypeId} {d : TypeInfo} {z : Value} {w : World} (h : P.info? t = some d) (hz : d.zero = some z) : (zeroValue t).run P w = .ok z w := by
  unfold zeroValue; rw [Sem.run_bind, run_typeInfo h]; simp only [Result.andThen_ok, hz]; rfl

theorem info_of_underlying {P : Program} {t : TypeId} {d : TypeDesc} (h : P.underlying t = some d) : ∃ i, P.info? t = some i := by
  unfold Program.underlying at h
  cases e : P.info? t with
  | none => simp [e] at h
  | some i => exact ⟨i, rfl⟩

theorem kind_info {P : Program} {t : TypeId} {k : Bool} (h : kindD P t = some k) : ∃ d i, P.underlying t = some d ∧ P.info? t = some i ∧ sizeD P t = i.size ∧ (∀ w, (isAgg t).run P w = .ok k w) := by
  unfold kindD at h
  cases e : P.underlying t with
  | none => simp [e] at h
  | some d =>
    obtain ⟨i, hi⟩ := info_of_underlying e
    refine ⟨d, i, rfl, hi, by simp [sizeD, hi], fun w => ?_⟩
    unfold isAgg; rw [Sem.run_bind, run_underlying e]
    rw [e] at h
    cases d <;> simp at h <;> subst h <;> rfl

theorem constD_rep {P : Program} {t : TypeId} {v : Value} {d : D} {Φ : CM} (h : constD P t v = some d) : RepD Φ d v ∧ okCell v := by
  unfold constD at h
  split at h <;> first | (injection h with h; subst h; first | exact ⟨.int _ _, trivial⟩ | exact ⟨.bool _, trivial⟩ | exact ⟨.str _, trivial⟩ | exact ⟨.sl0, trivial⟩ | exact ⟨.con _ trivial, trivial⟩) | simp at h

theorem constV_rep {P : Program} {t : TypeId} {v : Value} {Φ : CM} {B : List Nat} {au : Auth} {w : World} {h : Nat → Holder} :
    RepS Φ B (constV P t v) v ∧ OwnV au w h (constV P t v) v ∧ ((constV P t v).known = true → okCell v) ∧ (constV P t v).isTup = false := by
  unfold constV
  split
  · exact ⟨.nil, trivial, fun _ => trivial, rfl⟩
  · cases e : constD P t v with
    | none => exact ⟨.un _, trivial, fun h => by simp [V.known] at h, rfl⟩
    | some d => exact ⟨.d (constD_rep e).1, trivial, fun _ => (constD_rep (Φ := Φ) e).2, rfl⟩

section
variable {P : Program} {κ : Ctx} {Φ : CM} {B : List Nat} {au : Auth} {s : St} {a : Act} {w : World} {K : St → Prop} {o : Oper}

theorem ev_rep (h : Inv κ Φ B au s a w) (t : TypeId) (x : Operand) : RepS Φ B (ev P t s x) (a.eval x) := by
  cases x with
  | tmp i => exact (tm_get h i).1
  | const v => exact (constV_rep (au := au) (w := w) (h := fun _ => .obj 0)).1
  | «global» g => exact .un _
  | func f => exact .fn .nil

theorem ev_d (h : Inv κ Φ B au s a w) {t : TypeId} {x : Operand} {d : D} (e : ev P t s x = .d d) : RepD Φ d (a.eval x) := by
  have := ev_rep (P := P) h t x
  rw [e] at this
  cases this with | d h => exact h

theorem ev_cp_d (h : Inv κ Φ B au s a w) {t : TypeId} {x : Operand} {d : D} (e : (ev P t s x).cp = .d d) : RepD Φ d (a.eval x) := by
  have := (ev_rep (P := P) h t x).cp
  rw [e] at this
  cases this with | d h => exact h

theorem ev_d? (h : Inv κ Φ B au s a w) {t : TypeId} {x : Operand} {d : D} (e : (ev P t s x).d? = some d) : RepD Φ d (a.eval x) := by
  have := ev_rep (P := P) h t x
  generalize a.eval x = v at this
  generalize ev P t s x = V at e this
  cases this <;> simp [V.d?] at e
  · subst e; assumption
  · subst e; exact .sl0
  · subst e; assumption

theorem repD_int {k : IntKind} {n : Int} {v : Value} (h : RepD Φ (.int k n) v) : v = .int k n := by cases h; rfl
theorem repD_bool {b : Bool} {v : Value} (h : RepD Φ (.bool b) v) : v = .bool b := by cases h; rfl
theorem repD_str {b : ByteArray} {v : Value} (h : RepD Φ (.str b) v) : v = .string b := by cases h; rfl

theorem does_value {v : Value} {w' : World} {s' : St} (h : (execOp a.eval o).run P w = .ok (.value v) w') (hk : K s') (hr : Rel κ s' (a.put o.dst v) w') : Does P κ o a w K :=
  ⟨_, w', h, s', hk, hr⟩

theorem does_skip {w' : World} {s' : St} (h : (execOp a.eval o).run P w = .ok .skip w') (hk : K s') (hr : Rel κ s' (a.put o.dst undef) w') : Does P κ o a w K :=
  ⟨_, w', h, s', hk, hr⟩

/-- a value that owns nothing goes to its place -/
theorem does_plain {v : Value} {V : V} (h : Inv κ Φ B au s a w) (hx : (execOp a.eval o).run P w = .ok (.value v) w) (hS : RepS Φ B V v) (hO : ∀ h, OwnV au w h V v) (hk : K (s.put o.dst V)) : Does P κ o a w K :=
  does_value hx hk (Rel.put_plain h o.dst hS hO)

theorem mv_rel (h : Inv κ Φ B au s a w) (t : TypeId) (x : Operand) (dst : Option Nat) (take : Bool) : Rel κ (mv s x (ev P t s x) dst take) (a.put dst (a.eval x)) w := by
  unfold mv
  cases take with
  | false => simp only [Bool.false_eq_true, if_false]; exact Rel.put_plain h dst (ev_rep h t x).cp (fun _ => OwnV_cp)
  | true =>
    simp only [if_true]
    cases x with
    | tmp i =>
      cases dst with
      | none => exact ⟨Φ, B, au, h.strip i⟩
      | some d => exact ⟨Φ, B, _, h.take i d⟩
    | const v => exact ⟨Φ, B, au, h.put dst (ev_rep h t (.const v)) fun _ _ => (constV_rep (Φ := Φ) (B := B)).2.1⟩
    | «global» g => exact Rel.put_plain h dst (.un _) fun _ => trivial
    | func f => exact Rel.put_plain h dst (.fn .nil) fun _ => trivial

theorem does_move {x : Operand} {take : Bool} (h : Inv κ Φ B au s a w) (ho : o.op = .move x ∨ o.op = .assign x) (hk : K (mv s x (ev P o.type s x) o.dst take)) : Does P κ o a w K := by
  refine does_value (v := a.eval x) (w' := w) ?_ hk (mv_rel h _ x o.dst take)
  rcases ho with e | e <;> (unfold execOp; rw [e]; rfl)

theorem does_pick {c x y : Operand} {r : List Oper} (h : Inv κ Φ B au s a w) (ho : o.op = .pick c x y) (hk : stepK P o r s K) : Does P κ o a w K := by
  simp only [stepK, ho] at hk
  split at hk
  · rename_i t e
    have e1 := repD_bool (ev_d h e)
    have hx : (execOp a.eval o).run P w = .ok (.value (if t then a.eval x else a.eval y)) w := by
      unfold execOp; rw [ho]; simp only [e1]; cases t <;> rfl
    cases t with
    | true => exact does_plain h hx (ev_rep h _ x).cp (fun _ => OwnV_cp) (hk.1 rfl)
    | false => exact does_plain h hx (ev_rep h _ y).cp (fun _ => OwnV_cp) (hk.2 rfl)
  · exact hk.elim

/-- A new variable. -/
theorem Inv.alloc (h : Inv κ Φ B au s a w) {cs : List V} {c : Array Value} {el : TypeId} (hl : cs.length = c.size)
    (hc : ∀ (j : Nat) V v, cs[j]? = some V → c[j]? = some v → (V.known = true → okCell v) ∧ RepS Φ B V v ∧ ∀ au w h, OwnV au w h V v) :
    ∃ au', Inv κ Φ (B ++ [w.heap.size]) au' { s with hp := s.hp ++ [IObj.var cs] } a { w with heap := w.heap.push (.cells c el (0, 0)) } := by
  have g := h.grow (Grows.push w (.cells c el (0, 0)))
  have hB : ∀ (i b : Nat), B[i]? = some b → (B ++ [w.heap.size])[i]? = some b := fun i b e => by
    rw [List.getElem?_append_left (List.getElem?_eq_some_iff.1 e).1]; exact e
  have hnew : au w.heap.size = none := by
    cases e : au w.heap.size with
    | none => rfl
    | some x => exact absurd (h.auw _ _ _ e).1 (Nat.lt_irrefl _)
  refine ⟨fun b => if b = w.heap.size then some (.obj s.hp.length, 0) else au b, ?_⟩
  have hau : ∀ b h0 st, au b = some (h0, st) → (if b = w.heap.size then some (Holder.obj s.hp.length, 0) else au b) = some (h0, st) := fun b h0 st e => by
    rw [if_neg]; exact e
    rintro rfl; rw [hnew] at e; cases e
  refine { g with phia := fun lb b o v h0 st hp e => ?_, auw := fun b h0 st e => ?_, pre := ?_, tm := fun i V v hV hv => ?_, hl := by simp [h.hl], nb := ⟨h.nb.1, by have := h.nb.2; simp; omega⟩, hp := fun id o b ho hb => ?_, df := ?_ }
  · split at e
    · rename_i eb
      have := h.phi _ b o v hp
      unfold World.cell? at this
      rw [eb] at this
      simp at this
    · exact h.phia _ b o v h0 st hp e
  · split at e
    · rename_i eb; subst eb; exact ⟨by simp, .inr h.size⟩
    · exact g.auw b h0 st e
  · exact h.pre.trans (List.prefix_append _ _)
  · obtain ⟨k1, k2⟩ := g.tm i V v hV hv
    exact ⟨k1.mono (CM.le_refl _) hB, k2.mono fun j b st e => ⟨hau b _ st e, rfl⟩⟩
  · by_cases hid : id < s.hp.length
    · rw [List.getElem?_append_left hid] at ho
      have hid' : id < B.length := by rw [← h.hl]; exact hid
      rw [List.getElem?_append_left hid'] at hb
      exact (g.hp id o b ho hb).mono (CM.le_refl _) hB (fun e => ⟨hau b _ _ e, rfl⟩) (fun j b st e => ⟨hau b _ st e, rfl⟩)
    · have hid1 : id = s.hp.length := by
        have := (List.getElem?_eq_some_iff.1 ho).1; simp at this; omega
      subst hid1
      simp at ho
      subst ho
      rw [h.hl] at hb
      simp at hb
      subst hb
      refine ⟨by simp, c, el, by simp, hl.symm, fun j V hj => ?_⟩
      have hj' : j < c.size := by rw [← hl]; exact (List.getElem?_eq_some_iff.1 hj).1
      obtain ⟨q1, q2, q3⟩ := hc j V c[j] hj (Array.getElem?_eq_getElem hj')
      exact ⟨c[j], Array.getElem?_eq_getElem hj', q1, q2.mono (CM.le_refl _) hB, q3 _ _ _⟩
  · obtain ⟨rs, h1, h2, h3⟩ := g.df
    refine ⟨rs, h1, h2, fun r hr => ?_⟩
    obtain ⟨x, y, z⟩ := h3 r hr
    refine ⟨x, ?_, z⟩
    rw [if_neg]; exact y
    rintro rfl
    obtain ⟨rs', h1', h2', h3'⟩ := h.df
    rw [h1] at h1'
    have : rs = rs' := by
      have := congrArg (List.map fun d : Deferred => match d.target with | .collected r => r | _ => 0) h1'
      simpa [Function.comp_def] using this
    subst this
    have := lt_of_heap (h3' _ hr).1
    omega

theorem run_newVar {t : TypeId} {v : Value} {w : World} : (newVar t v).run P w = .ok ⟨w.heap.size, 0, none⟩ { w with heap := w.heap.push (.cells v.cells t (0, 0)) } := rfl

theorem does_new {t : TypeId} {v : Value} {cs : List V} (h : Inv κ Φ B au s a w) (hx : (execOp a.eval o).run P w = .ok (.value (.pointer (some ⟨w.heap.size, 0, none⟩))) { w with heap := w.heap.push (.cells v.cells t (0, 0)) })
    (hl : cs.length = v.cells.size) (hc : ∀ (j : Nat) V x, cs[j]? = some V → v.cells[j]? = some x → (V.known = true → okCell x) ∧ RepS Φ B V x ∧ ∀ au w h, OwnV au w h V x)
    (hk : K ({ s with hp := s.hp ++ [IObj.var cs] }.put o.dst (.ptr s.hp.length 0))) : Does P κ o a w K := by
  obtain ⟨au', g⟩ := h.alloc (el := t) hl hc
  refine does_value hx hk ⟨Φ, _, au', g.put o.dst (.ptr (b := w.heap.size) ?_) fun _ _ => trivial⟩
  rw [h.hl]; simp

theorem does_alloc {t : TypeId} {r : List Oper} (h : Inv κ Φ B au s a w) (ho : o.op = .alloc t) (hk : stepK P o r s K) : Does P κ o a w K := by
  simp only [stepK, ho] at hk
  split at hk
  · rename_i cs e
    unfold zeroVs at e
    split at e
    · rename_i z ez
      obtain ⟨i, hi, hz⟩ : ∃ i, P.info? t = some i ∧ i.zero = some z := by
        cases e2 : P.info? t with
        | none => simp [e2] at ez
        | some i => exact ⟨i, rfl, by simpa [e2] using ez⟩
      split at e
      · rename_i el
        injection e with e
        subst e
        refine does_new (t := t) (v := z) h ?_ (by simp [el]) ?_ hk
        · unfold execOp; rw [ho]; refine run_v ?_
          unfold Instr.alloc; rw [Sem.run_bind, run_zeroValue hi hz]; rfl
        · intro j V x hV hx
          simp only [List.getElem?_map, Option.map_eq_some_iff] at hV
          obtain ⟨⟨t', x'⟩, hz', rfl⟩ := hV
          rw [List.getElem?_zip_eq_some] at hz'
          have : x' = x := by have := hz'.2; rw [Array.getElem?_toList, hx] at this; injection this with this; exact this.symm
          subst this
          exact ⟨(constV_rep (Φ := Φ) (B := B) (au := au) (w := w) (h := fun _ => .obj 0)).2.2.1, (constV_rep (Φ := Φ) (B := B) (au := au) (w := w) (h := fun _ => .obj 0)).1, fun au' w' h' => (constV_rep (Φ := Φ) (B := B)).2.1⟩
      · simp at e
    · simp at e
  · exact hk.elim

/-- the cells of a value, ideal and real -/
theorem flat_rep {V : V} {v : Value} (h : RepS Φ B V v) (hk : V.known = true) : V.flat.length = v.cells.size ∧
    ∀ (j : Nat) V' x, V.flat[j]? = some V' → v.cells[j]? = some x → okCell x ∧ V'.known = true ∧ RepS Φ B V' x ∧ (V.cp = V → ∀ au w h, OwnV au w h V' x) := by
  cases h with
  | un => simp [V.known] at hk
  | tup => simp [V.known] at hk
  | @d x v hx =>
    have hf := hx.flat
    obtain ⟨h1, h2⟩ := hf.get
    have e : (V.d x).flat = x.flat.map .d := by cases x <;> rfl
    rw [e]
    refine ⟨by simp [h1], fun j V' y hV hy => ?_⟩
    simp only [List.getElem?_map, Option.map_eq_some_iff] at hV
    obtain ⟨d', hd', rfl⟩ := hV
    obtain ⟨q1, q2⟩ := h2 j d' y hd' (by rw [Array.getElem?_toList]; exact hy)
    exact ⟨q1, rfl, .d q2, fun _ _ _ _ => trivial⟩
  | nil => exact ⟨rfl, fun j V' y hV hy => by cases j <;> simp [V.flat, Value.cells] at hV hy; subst hV; subst hy; exact ⟨trivial, rfl, .nil, fun _ _ _ _ => trivial⟩⟩
  | st e ok q =>
    obtain ⟨h1, h2⟩ := e.get
    refine ⟨by simpa [V.flat, Value.cells] using h1, fun j V' y hV hy => ?_⟩
    simp only [V.flat, Value.cells] at hV hy
    have hy' := hy
    rw [List.getElem?_toArray] at hy'
    obtain ⟨q1, q2⟩ := q V' (List.mem_of_getElem? hV)
    refine ⟨ok y (List.mem_of_getElem? hy'), q2, h2 j V' y hV hy', fun _ au w h => ?_⟩
    cases V' <;> first | trivial | (simp [V.cp] at q1; done) | (simp [V.known] at q2; done)
  | @own z xs v hx =>
    refine ⟨by cases hx <;> rfl, fun j V' y hV hy => ?_⟩
    cases j with
    | succ j => simp [V.flat] at hV
    | zero =>
      simp [V.flat] at hV; subst hV
      have : y = v ∧ okCell v := by cases hx <;> (simp [Value.cells] at hy; exact ⟨hy.symm, trivial⟩)
      obtain ⟨rfl, hok⟩ := this
      exact ⟨hok, rfl, .own hx, fun e => by simp [V.cp] at e⟩
  | hold p q => exact ⟨rfl, fun j V' y hV hy => by cases j <;> simp [V.flat, Value.cells] at hV hy; subst hV; subst hy; exact ⟨trivial, rfl, .hold p q, fun e => by simp [V.cp] at e⟩⟩
  | ptr e => exact ⟨rfl, fun j V' y hV hy => by cases j <;> simp [V.flat, Value.cells] at hV hy; subst hV; subst hy; exact ⟨trivial, rfl, .ptr e, fun _ _ _ _ => trivial⟩⟩
  | aptr e => exact ⟨rfl, fun j V' y hV hy => by cases j <;> simp [V.flat, Value.cells] at hV hy; subst hV; subst hy; exact ⟨trivial, rfl, .aptr e, fun _ _ _ _ => trivial⟩⟩
  | lptr e => exact ⟨rfl, fun j V' y hV hy => by cases j <;> simp [V.flat, Value.cells] at hV hy; subst hV; subst hy; exact ⟨trivial, rfl, .lptr e, fun _ _ _ _ => trivial⟩⟩
  | ref e l q => exact ⟨rfl, fun j V' y hV hy => by cases j <;> simp [V.flat, Value.cells] at hV hy; subst hV; subst hy; exact ⟨trivial, rfl, .ref e l q, fun _ _ _ _ => trivial⟩⟩
  | ref0 => exact ⟨rfl, fun j V' y hV hy => by cases j <;> simp [V.flat, Value.cells] at hV hy; subst hV; subst hy; exact ⟨trivial, rfl, .ref0, fun _ _ _ _ => trivial⟩⟩
  | fn e => exact ⟨rfl, fun j V' y hV hy => by cases j <;> simp [V.flat, Value.cells] at hV hy; subst hV; subst hy; exact ⟨trivial, rfl, .fn e, fun _ _ _ _ => trivial⟩⟩
  | yld e => exact ⟨rfl, fun j V' y hV hy => by cases j <;> simp [V.flat, Value.cells] at hV hy; subst hV; subst hy; exact ⟨trivial, rfl, .yld e, fun _ _ _ _ => trivial⟩⟩
  | map e => exact ⟨rfl, fun j V' y hV hy => by cases j <;> simp [V.flat, Value.cells] at hV hy; subst hV; subst hy; exact ⟨trivial, rfl, .map e, fun _ _ _ _ => trivial⟩⟩

theorem V.cp_cp (v : V) : v.cp.cp = v.cp := by
  cases v with
  | tup vs =>
    simp only [V.cp, List.map_map]
    congr 1
    refine List.map_congr_left fun v _ => ?_
    cases v <;> rfl
  | _ => rfl

theorem V.known_cp (v : V) : v.cp.known = v.known := by cases v <;> rfl

theorem does_box {t : TypeId} {x : Operand} {r : List Oper} (h : Inv κ Φ B au s a w) (ho : o.op = .box t x) (hk : stepK P o r s K) : Does P κ o a w K := by
  simp only [stepK, ho] at hk
  obtain ⟨hn, hk⟩ := hk
  have hr := (ev_rep (P := P) h t x).cp
  obtain ⟨f1, f2⟩ := flat_rep hr (by rw [V.known_cp]; exact hn)
  refine does_new (t := t) (v := a.eval x) h ?_ f1 ?_ hk
  · unfold execOp; rw [ho]; exact run_v rfl
  · intro j V y hV hy
    obtain ⟨q1, q2, q3, q4⟩ := f2 j V y hV hy
    exact ⟨fun _ => q1, q3, q4 (Idl.V.cp_cp _)⟩

end
end Go.Idl
end
section
namespace Go.Idl

section
variable {P : Program} {κ : Ctx} {Φ : CM} {B : List Nat} {au : Auth} {s : St} {a : Act} {w : World} {K : St → Prop} {o : Oper}

theorem addr_add (b off n : Nat) : (⟨b, off, none⟩ : Addr).add n = ⟨b, off + n, none⟩ := by
  unfold Addr.add; split <;> simp_all

theorem run_load {ad : Addr} {v : Value} (h : w.cell? ad = some v) : (load ad).run P w = .ok v w := by
  simp [load, Sem.run, h]

theorem run_loadCellsFrom {b off : Nat} {cs : List Value} : ∀ (i : Nat) (acc : Array Value), (∀ (j : Nat) v, cs[j]? = some v → w.cell? ⟨b, off + i + j, none⟩ = some v) →
    (loadCellsFrom ⟨b, off, none⟩ i cs.length acc).run P w = .ok (acc ++ cs.toArray) w := by
  induction cs with
  | nil => intro i acc _; simp [loadCellsFrom, Sem.run, pure]
  | cons c cs ih =>
    intro i acc h
    have h0 := h 0 c rfl
    simp only [List.length_cons, loadCellsFrom, Sem.run_bind, addr_add]
    rw [run_load (by simpa using h0)]
    simp only [Result.andThen_ok]
    rw [ih (i + 1) (acc.push c) (fun j v hj => by have := h (j + 1) v (by simpa using hj); rw [← this]; congr 2; omega)]
    simp

theorem run_loadCells {b off : Nat} {cs : List Value} (h : ∀ (j : Nat) v, cs[j]? = some v → w.cell? ⟨b, off + j, none⟩ = some v) :
    (loadCells ⟨b, off, none⟩ cs.length).run P w = .ok cs.toArray w := by
  unfold loadCells; rw [run_loadCellsFrom 0 #[] (fun j v hj => by rw [← h j v hj]; congr 2)]; simp

theorem CellsAt.cells {lb : Bool} {ds : List D} {b off : Nat} (h : CellsAt Φ lb b off ds) : ∃ cs : List Value, cs.length = ds.length ∧ (∀ (j : Nat) v, cs[j]? = some v → Φ lb b (off + j) = some v) ∧ RepL Φ ds cs := by
  induction ds generalizing off with
  | nil => exact ⟨[], rfl, by simp, .nil⟩
  | cons d ds ih =>
    cases h with
    | cons e ok hd ht =>
      obtain ⟨cs, h1, h2, h3⟩ := ih ht
      refine ⟨_ :: cs, by simp [h1], fun j v hj => ?_, .cons ok hd h3⟩
      cases j with
      | zero => simp at hj; subst hj; exact e
      | succ j => simp at hj; have := h2 j v hj; rw [← this]; congr 1; omega

theorem CellsAt.sub {lb : Bool} {ds : List D} {b off : Nat} (h : CellsAt Φ lb b off ds) (j n : Nat) : CellsAt Φ lb b (off + j) ((ds.drop j).take n) := by
  refine CellsAt.of fun k d hk => ?_
  rw [List.getElem?_take] at hk
  split at hk
  · rw [List.getElem?_drop] at hk
    obtain ⟨c, h1, h2, h3⟩ := h.get _ d hk
    exact ⟨c, by rw [← h1]; congr 1; omega, h2, h3⟩
  · cases hk

theorem gather {cs : List D} {b off : Nat} (hc : ∀ (j : Nat) d, cs[j]? = some d → ∃ v, w.cell? ⟨b, off + j, none⟩ = some v ∧ okCell v ∧ RepD Φ d v) :
    ∀ {ds : List D} (j : Nat), (∀ (k : Nat) d, ds[k]? = some d → cs[j + k]? = some d) →
      ∃ vs : List Value, vs.length = ds.length ∧ (∀ (k : Nat) v, vs[k]? = some v → w.cell? ⟨b, off + j + k, none⟩ = some v) ∧ RepL Φ ds vs
  | [], _, _ => ⟨[], rfl, by simp, .nil⟩
  | y :: ys, j, hds => by
    obtain ⟨v, q1, q2, q3⟩ := hc j y (by have := hds 0 y rfl; simpa using this)
    obtain ⟨vs, r1, r2, r3⟩ := gather hc (ds := ys) (j + 1) (fun k d hk => by have := hds (k + 1) d (by simpa using hk); rw [← this]; congr 1; omega)
    refine ⟨v :: vs, by simp [r1], fun k x hk => ?_, .cons q2 q3 r3⟩
    cases k with
    | zero => simp at hk; subst hk; exact q1
    | succ k => simp at hk; rw [← r2 k x hk]; congr 2; omega

/-- A part of a datum that lies in memory is loaded. -/
theorem load_part {b off : Nat} {x : D} (hc : ∀ (j : Nat) d, x.flat[j]? = some d → ∃ v, w.cell? ⟨b, off + j, none⟩ = some v ∧ okCell v ∧ RepD Φ d v) {t : TypeId} {j : Nat} {d : D} (e : partD P t x j = some d) :
    ∃ v, (loadVar t ⟨b, off + j, none⟩).run P w = .ok v w ∧ RepD Φ d v := by
  unfold partD at e
  cases hk : kindD P t with
  | none => simp [hk] at e
  | some k =>
    obtain ⟨td, i, _, hi, hz, hagg⟩ := kind_info hk
    simp only [hk] at e
    cases k with
    | false =>
      obtain ⟨c, h1, h2, h3⟩ := hc j d e
      refine ⟨c, ?_, h3⟩
      unfold loadVar; rw [Sem.run_bind, hagg]; simp only [Result.andThen_ok, Bool.false_eq_true, if_false]
      exact run_load h1
    | true =>
      simp only at e
      split at e
      · rename_i cs
        have key : ∀ ds : List D, (∀ (k : Nat) d, ds[k]? = some d → cs[j + k]? = some d) → ds.length = sizeD P t → ∃ v, (loadVar t ⟨b, off + j, none⟩).run P w = .ok v w ∧ RepD Φ (.agg ds) v := by
          intro ds hds hl
          have hcells := gather (ds := ds) (cs := cs) hc j hds
          obtain ⟨vs, g1, g2, g3⟩ := hcells
          refine ⟨.agg vs.toArray, ?_, .agg g3⟩
          unfold loadVar; rw [Sem.run_bind, hagg]; simp only [Result.andThen_ok, if_true]
          rw [Sem.run_bind, run_sizeOf hi]; simp only [Result.andThen_ok]
          rw [Sem.run_bind, ← hz, ← hl, ← g1, run_loadCells (fun k v hk => g2 k v hk)]; rfl
        split at e
        · rename_i hj; injection e with e; subst e
          exact key cs (fun k d hk => by rw [hj.1, Nat.zero_add]; exact hk) hj.2
        · split at e
          · rename_i hj; injection e with e; subst e
            exact key _ (fun k d hk => by
              rw [List.getElem?_take] at hk
              split at hk
              · rwa [List.getElem?_drop] at hk
              · cases hk) (by simp [List.length_take, List.length_drop]; omega)
          · cases e
      · cases e

/-- An array's block, seen. -/
theorem Inv.arrAt (h : Inv κ Φ B au s a w) {id z : Nat} {xs : List D} (e : s.hp[id]? = some (.arr z xs)) (hne : xs ≠ []) :
    ∃ b c el, B[id]? = some b ∧ au b = some (.obj id, 0) ∧ w.heap[b]? = some (.cells c el (0, 0)) ∧ c.size = xs.length * z ∧
      ∀ (i : Nat) x, xs[i]? = some x → x.flat.length = z ∧ ∀ (j : Nat) d, x.flat[j]? = some d → ∃ v, c[i * z + j]? = some v ∧ okCell v ∧ RepD Φ d v := by
  have hid : id < B.length := by rw [← h.hl]; exact (List.getElem?_eq_some_iff.1 e).1
  have hb : B[id]? = some B[id] := List.getElem?_eq_getElem hid
  obtain ⟨h1, c, el, h2, h3, h4⟩ := h.hp id _ _ e hb hne
  exact ⟨_, c, el, hb, h1, h2, h3, h4⟩

theorem takes_none : ∀ r : List Oper, takes none r = false
  | [] => rfl
  | o :: r => by
    simp only [takes, takes_none r, Bool.or_false]
    split <;> first | rfl | simp
    split <;> rfl

theorem allD_get : ∀ {vs : List V} {ds : List D}, allD vs = some ds → vs.length = ds.length ∧ ∀ (j : Nat) d, ds[j]? = some d → ∃ v, vs[j]? = some v ∧ v.d? = some d
  | [], _, h => by simp [allD] at h; subst h; simp
  | v :: vs, ds, h => by
    simp only [allD] at h
    split at h
    · rename_i x y e1 e2
      injection h with h; subst h
      obtain ⟨h1, h2⟩ := allD_get e2
      refine ⟨by simp [h1], fun j d hj => ?_⟩
      cases j with
      | zero => simp at hj; subst hj; exact ⟨v, rfl, e1⟩
      | succ j => simpa using h2 j d (by simpa using hj)
    · cases h

theorem rep_d? {V : V} {v : Value} {d : D} (h : RepS Φ B V v) (e : V.d? = some d) : RepD Φ d v := by
  cases h <;> simp [V.d?] at e
  · subst e; assumption
  · subst e; exact .sl0
  · subst e; assumption

theorem allKnown_get : ∀ {vs : List V}, allKnown vs = true → ∀ (j : Nat) V, vs[j]? = some V → V.known = true
  | [], _, j, V, h => by simp at h
  | v :: vs, h, j, V, hj => by
    simp only [allKnown, Bool.and_eq_true] at h
    cases j with
    | zero => simp at hj; subst hj; exact h.1
    | succ j => exact allKnown_get h.2 j V (by simpa using hj)

theorem known_cp_cp {V : V} (h : V.known = true) : V.cp.cp = V.cp ∧ V.cp.known = true := ⟨Idl.V.cp_cp V, by rw [Idl.V.known_cp]; exact h⟩

/-- cells make a struct -/
theorem mkAgg_rep {cs : List V} {vs : List Value} (hk : allKnown cs = true) (hl : cs.length = vs.length) (h : ∀ (j : Nat) V v, cs[j]? = some V → vs[j]? = some v → okCell v ∧ RepS Φ B V v) :
    RepS Φ B (mkAgg cs) (.agg vs.toArray) ∧ ∀ au w h v, OwnV au w h (mkAgg cs) v := by
  unfold mkAgg
  cases e : allD cs with
  | some ds =>
    obtain ⟨q1, q2⟩ := allD_get e
    refine ⟨.d (.agg (RepL.of (by rw [← q1]; exact hl) fun j d c hd hc => ?_)), fun _ _ _ _ => trivial⟩
    obtain ⟨V, k1, k2⟩ := q2 j d hd
    obtain ⟨m1, m2⟩ := h j V c k1 hc
    exact ⟨m1, rep_d? m2 k2⟩
  | none =>
    refine ⟨.st (RepSL.of (by simpa using hl) fun j V c hV hc => ?_) (fun c hc => ?_) (fun V hV => ?_), fun _ _ _ _ => trivial⟩
    · simp only [List.getElem?_map, Option.map_eq_some_iff] at hV
      obtain ⟨V', h1, rfl⟩ := hV
      exact (h j V' c h1 hc).2.cp
    · obtain ⟨j, hj, rfl⟩ := List.getElem_of_mem hc
      have hj' : j < cs.length := by omega
      exact (h j _ _ (List.getElem?_eq_getElem hj') (List.getElem?_eq_getElem hj)).1
    · obtain ⟨V', hV', rfl⟩ := List.mem_map.1 hV
      obtain ⟨j, hj, rfl⟩ := List.getElem_of_mem hV'
      exact known_cp_cp (allKnown_get hk j _ (List.getElem?_eq_getElem hj))

/-- A variable's block, seen. -/
theorem Inv.varAt (h : Inv κ Φ B au s a w) {id : Nat} {cs : List V} (e : s.hp[id]? = some (.var cs)) :
    ∃ b c el, B[id]? = some b ∧ au b = some (.obj id, 0) ∧ w.heap[b]? = some (.cells c el (0, 0)) ∧ c.size = cs.length ∧
      ∀ (j : Nat) V, cs[j]? = some V → ∃ v, c[j]? = some v ∧ (V.known = true → okCell v) ∧ RepS Φ B V v ∧ OwnV au w (fun _ => .cell id j) V v := by
  have hid : id < B.length := by rw [← h.hl]; exact (List.getElem?_eq_some_iff.1 e).1
  have hb : B[id]? = some B[id] := List.getElem?_eq_getElem hid
  obtain ⟨h1, c, el, h2, h3, h4⟩ := h.hp id _ _ e hb
  exact ⟨_, c, el, hb, h1, h2, h3, h4⟩

theorem RepS.ptr_inv {id off : Nat} {v : Value} {b : Nat} (h : RepS Φ B (.ptr id off) v) (hb : B[id]? = some b) : v = .pointer (some ⟨b, off, none⟩) := by
  cases h with | ptr e => rw [e] at hb; injection hb with hb; subst hb; rfl

theorem RepD.okCell_scalar {d : D} {v : Value} (h : RepD Φ d v) (hn : ∀ cs, d ≠ .agg cs) : okCell v := by
  cases h with
  | agg _ => exact absurd rfl (hn _)
  | con v hv => exact hv
  | _ => trivial

theorem run_loadAt {t : TypeId} {ad : Addr} : Instr.loadAt t (.pointer (some ad)) = loadVar t ad := rfl

/-- What a cell owns goes over to a slot. -/
def cellAu (au : Auth) (id j : Nat) (h' : Holder) : Auth := fun b => match au b with
  | some (.cell i k, st) => if i = id ∧ k = j then some (h', st) else some (.cell i k, st)
  | x => x

theorem cellAu_other {id k : Nat} {h' : Holder} {b st : Nat} {h : Holder} (hh : au b = some (h, st)) (hn : h ≠ .cell id k) : cellAu au id k h' b = some (h, st) := by
  unfold cellAu; rw [hh]
  cases h with
  | cell i j => simp only; rw [if_neg]; rintro ⟨rfl, rfl⟩; exact hn rfl
  | slot _ _ => rfl
  | obj _ => rfl
theorem cellAu_same {id k : Nat} {h' : Holder} {b st : Nat} (hh : au b = some (.cell id k, st)) : cellAu au id k h' b = some (h', st) := by
  unfold cellAu; rw [hh]; simp
theorem cellAu_inv {id k : Nat} {h' : Holder} {b st : Nat} {h : Holder} (hh : cellAu au id k h' b = some (h, st)) : ∃ h0, au b = some (h0, st) := by
  unfold cellAu at hh
  split at hh
  · rename_i e
    split at hh <;> (injection hh with hh; injection hh with _ hst; subst hst; exact ⟨_, e⟩)
  · exact ⟨h, hh⟩
theorem cellAu_none {id k : Nat} {h' : Holder} {b : Nat} (hh : au b = none) : cellAu au id k h' b = none := by unfold cellAu; rw [hh]

/-- A cell's value is taken out to a slot: the cell keeps a bare copy. -/
theorem Inv.takeCell (h : Inv κ Φ B au s a w) {id off : Nat} {cs : List V} {V : V} {v : Value} {b : Nat} (e : s.hp[id]? = some (.var cs)) (hV : cs[off]? = some V) (hb : B[id]? = some b) (hv : w.cell? ⟨b, off, none⟩ = some v) (hnt : V.isTup = false) (d : Nat) :
    Inv κ Φ B (cellAu au id off (.slot d 0)) { s with hp := s.hp.set id (.var (cs.set off V.cp)), tm := s.tm.set d V } { a with tmps := a.tmps.setIfInBounds d v } w := by
  obtain ⟨b', c, el, hb', h1, h2, h3, h4⟩ := h.varAt e
  rw [hb] at hb'; injection hb' with hb'; subst hb'
  obtain ⟨v', g1, g2, g3, g4⟩ := h4 off V hV
  have : v' = v := by rw [cell_of h2] at hv; rw [g1] at hv; injection hv
  subst this
  refine { h with phia := fun lb b o v h0 st hp ha => ?_, auw := fun b h0 st ha => ?_, tl := by simpa using h.tl, tm := fun k V' v' hV' hv' => ?_, hl := by simpa using h.hl, nb := ⟨h.nb.1, by simpa using h.nb.2⟩, hp := fun id' o' b' ho hb' => ?_, df := ?_ }
  · obtain ⟨h1, e⟩ := cellAu_inv ha; exact h.phia _ b o v h1 st hp e
  · obtain ⟨h1, e⟩ := cellAu_inv ha; exact h.auw b h1 st e
  · simp only [List.getElem?_set] at hV'
    simp only [Array.getElem?_setIfInBounds] at hv'
    by_cases e2 : d = k
    · subst e2
      by_cases hl : d < s.tm.length
      · have hl' : d < a.tmps.size := by rw [← h.tl]; exact hl
        simp [hl] at hV'; simp [hl'] at hv'; subst hV'; subst hv'
        refine ⟨g3, ?_⟩
        cases V <;> simp only [OwnV] at g4 ⊢
        · exact g4.mono fun b st hh => ⟨cellAu_same hh, rfl⟩
        · exact g4.mono fun b st hh => ⟨cellAu_same hh, rfl⟩
        · simp [V.isTup] at hnt
      · simp [hl] at hV'
    · simp [e2] at hV' hv'
      obtain ⟨k1, k2⟩ := h.tm k V' v' hV' hv'
      exact ⟨k1, k2.mono fun j b st hh => ⟨cellAu_other hh (by simp), rfl⟩⟩
  · simp only [List.getElem?_set] at ho
    by_cases e2 : id = id'
    · subst e2
      have hl : id < s.hp.length := (List.getElem?_eq_some_iff.1 e).1
      simp [hl] at ho
      subst ho
      rw [hb] at hb'; injection hb' with hb'; subst hb'
      refine ⟨cellAu_other h1 (by simp), c, el, h2, by simpa using h3, fun j V2 hj => ?_⟩
      rw [List.getElem?_set] at hj
      by_cases e3 : off = j
      · subst e3
        have hl2 : off < cs.length := (List.getElem?_eq_some_iff.1 hV).1
        simp [hl2] at hj; subst hj
        exact ⟨v', g1, fun hk => g2 (by rwa [V.known_cp] at hk), g3.cp, OwnV_cp⟩
      · simp [e3] at hj
        obtain ⟨x, q1, q2, q3, q4⟩ := h4 j V2 hj
        exact ⟨x, q1, q2, q3, q4.mono fun _ b st hh => ⟨cellAu_other hh (by intro hh'; injection hh' with _ hh'; exact e3 hh'.symm), rfl⟩⟩
    · simp [e2] at ho
      exact (h.hp id' o' b' ho hb').mono (CM.le_refl _) (fun _ _ h => h) (fun hh => ⟨cellAu_other hh (by simp), rfl⟩) (fun j b st hh => ⟨cellAu_other hh (by intro hh'; injection hh' with hh' _; exact e2 hh'.symm), rfl⟩)
  · obtain ⟨rs, h1, h2, h3⟩ := h.df
    exact ⟨rs, h1, h2, fun r hr => let ⟨x, y, z⟩ := h3 r hr; ⟨x, cellAu_none y, z⟩⟩

theorem OwnV_of_cp {V : V} (e : V.cp = V) (hn : V.isTup = false) : ∀ au w h v, OwnV au w h V v := by
  intro au w h v
  cases V <;> simp [V.cp, V.isTup] at e hn <;> trivial

theorem RepL.toCells {ds : List D} : ∀ {n off : Nat} {c : Array Value}, ds.length = n → (∀ (j : Nat) d, ds[j]? = some d → ∃ v, c[off + j]? = some v ∧ okCell v ∧ RepD Φ d v) →
    ∃ vs : List Value, vs.length = n ∧ (∀ (j : Nat) v, vs[j]? = some v → c[off + j]? = some v) ∧ RepL Φ ds vs := by
  induction ds with
  | nil => intro n off c hl _; exact ⟨[], by simpa using hl, by simp, .nil⟩
  | cons d ds ih =>
    intro n off c hl h
    obtain ⟨v, h1, h2, h3⟩ := h 0 d rfl
    obtain ⟨vs, g1, g2, g3⟩ := ih (n := ds.length) (off := off + 1) (c := c) rfl (fun j d hj => by
      obtain ⟨v, q1, q2, q3⟩ := h (j + 1) d (by simpa using hj)
      exact ⟨v, by rw [← q1]; congr 1; omega, q2, q3⟩)
    refine ⟨v :: vs, by simp [g1, ← hl], fun j x hj => ?_, .cons h2 h3 g3⟩
    cases j with
    | zero => simp at hj; subst hj; exact h1
    | succ j => simp at hj; rw [← g2 j x hj]; congr 1; omega

theorem run_loadAgg {t : TypeId} {b off : Nat} {c : Array Value} {el : TypeId} {vs : List Value} (hk : kindD P t = some true) (hw : w.heap[b]? = some (.cells c el (0, 0))) (hl : vs.length = sizeD P t)
    (hd : ∀ (j : Nat) v, vs[j]? = some v → c[off + j]? = some v) : (loadVar t ⟨b, off, none⟩).run P w = .ok (.agg vs.toArray) w := by
  obtain ⟨td, i, _, hi, hz, hagg⟩ := kind_info hk
  unfold loadVar; rw [Sem.run_bind, hagg]; simp only [Result.andThen_ok, if_true]
  rw [Sem.run_bind, run_sizeOf hi]; simp only [Result.andThen_ok]
  rw [Sem.run_bind, ← hz, ← hl, run_loadCells (fun k v hk => by rw [cell_of hw]; exact hd k v hk)]; rfl

/-- A struct is loaded out of a block of cells. -/
theorem load_agg {t : TypeId} {b off : Nat} {c : Array Value} {el : TypeId} {ds : List D} (hk : kindD P t = some true) (hw : w.heap[b]? = some (.cells c el (0, 0))) (hl : ds.length = sizeD P t)
    (hd : ∀ (j : Nat) d, ds[j]? = some d → ∃ v, c[off + j]? = some v ∧ okCell v ∧ RepD Φ d v) : ∃ v, (loadVar t ⟨b, off, none⟩).run P w = .ok v w ∧ RepD Φ (.agg ds) v := by
  obtain ⟨td, i, _, hi, hz, hagg⟩ := kind_info hk
  obtain ⟨vs, g1, g2, g3⟩ := RepL.toCells hl hd
  refine ⟨.agg vs.toArray, ?_, .agg g3⟩
  unfold loadVar; rw [Sem.run_bind, hagg]; simp only [Result.andThen_ok, if_true]
  rw [Sem.run_bind, run_sizeOf hi]; simp only [Result.andThen_ok]
  rw [Sem.run_bind, ← hz, ← g1, run_loadCells (fun k v hk => by rw [cell_of hw]; exact g2 k v hk)]; rfl

theorem load_scalar {t : TypeId} {b off : Nat} {v : Value} (hk : kindD P t = some false) (hw : w.cell? ⟨b, off, none⟩ = some v) : (loadVar t ⟨b, off, none⟩).run P w = .ok v w := by
  obtain ⟨td, i, _, hi, hz, hagg⟩ := kind_info hk
  unfold loadVar; rw [Sem.run_bind, hagg]; simp only [Result.andThen_ok, Bool.false_eq_true, if_false]
  exact run_load hw

theorem V.d?_known {v : V} {d : D} (h : v.d? = some d) : v.known = true := by cases v <;> simp_all [V.d?, V.known]

theorem does_load {t : TypeId} {x : Operand} {r : List Oper} (h : Inv κ Φ B au s a w) (ho : o.op = .load t x) (hk : stepK P o r s K) : Does P κ o a w K := by
  simp only [stepK, ho] at hk
  have hx : ∀ {ad v}, a.eval x = .pointer (some ad) → (loadVar t ad).run P w = .ok v w → (execOp a.eval o).run P w = .ok (.value v) w := by
    intro ad v e1 e2
    unfold execOp; rw [ho]; refine run_v ?_
    simp only [e1, run_loadAt]; exact e2
  have hr := ev_rep (P := P) h 0 x
  unfold loadK at hk
  split at hk
  · rename_i z xs i j e
    rw [e] at hr
    split at hk
    · rename_i d ed
      cases hxi : xs[i]? with
      | none => simp [hxi] at ed
      | some xd =>
        simp [hxi] at ed
        generalize hv : a.eval x = v at hr
        cases hr with
        | lptr he =>
          rename_i b off
          obtain ⟨e1, e2⟩ := he.get i xd hxi
          obtain ⟨v, g1, g2⟩ := load_part (w := w) (fun j d hj => by obtain ⟨c, q1, q2, q3⟩ := e2.get j d hj; exact ⟨c, h.phi _ _ _ _ q1, q2, q3⟩) ed
          exact does_plain h (hx hv g1) (.d g2) (fun _ => trivial) hk
    · exact hk.elim
  · rename_i id off e
    rw [e] at hr
    split at hk
    · rename_i cs ecs
      obtain ⟨b, c, el, hb, h1, h2, h3, h4⟩ := h.varAt ecs
      have hp := hr.ptr_inv hb
      split at hk
      · rename_i ekind
        obtain ⟨hl, hkn, hk⟩ := hk
        have hget : ∀ (j : Nat) V, ((cs.drop off).take (sizeD P t))[j]? = some V → ∃ v, c[off + j]? = some v ∧ okCell v ∧ RepS Φ B V v := fun j V hV => by
          have hk' := allKnown_get hkn j V hV
          rw [List.getElem?_take] at hV
          split at hV
          · rw [List.getElem?_drop] at hV
            obtain ⟨v, m1, m2, m3, _⟩ := h4 _ V hV
            exact ⟨v, m1, m2 hk', m3⟩
          · cases hV
        have hsz : off + sizeD P t ≤ c.size ∨ sizeD P t = 0 := by
          by_cases h0 : sizeD P t = 0
          · exact .inr h0
          · left; rw [h3]; simp at hl; omega
        have hvl : ((c.toList.drop off).take (sizeD P t)).length = sizeD P t := by
          rcases hsz with h0 | h0
          · simp; omega
          · rw [h0]; simp
        have hvg : ∀ (j : Nat) v, ((c.toList.drop off).take (sizeD P t))[j]? = some v → c[off + j]? = some v := fun j v hj => by
          rw [List.getElem?_take] at hj
          split at hj
          · rw [List.getElem?_drop, Array.getElem?_toList] at hj; exact hj
          · cases hj
        obtain ⟨r1, r2⟩ := mkAgg_rep (Φ := Φ) (B := B) (vs := (c.toList.drop off).take (sizeD P t)) hkn (by rw [hl, hvl]) fun j V v hV hv => by
          obtain ⟨v', m1, m2, m3⟩ := hget j V hV
          rw [hvg j v hv] at m1; injection m1 with m1; subst m1; exact ⟨m2, m3⟩
        exact does_plain h (hx hp (run_loadAgg ekind h2 hvl hvg)) r1 (fun _ => r2 _ _ _ _) hk
      · rename_i ekind
        split at hk
        · rename_i V eV
          obtain ⟨v, m1, m2, m3, m4⟩ := h4 off V eV
          have hc : w.cell? ⟨b, off, none⟩ = some v := by rw [cell_of h2]; exact m1
          have hload := load_scalar (P := P) ekind hc
          obtain ⟨hn, hk⟩ := hk
          cases htk : takes o.dst r with
          | false =>
            rw [htk] at hk
            simp only [Bool.false_eq_true, if_false] at hk
            exact does_plain h (hx hp hload) m3.cp (fun _ => OwnV_cp) hk
          | true =>
            rw [htk] at hk
            simp only [if_true] at hk
            cases hd : o.dst with
            | none => rw [hd, takes_none] at htk; cases htk
            | some d =>
              rw [hd] at hk
              refine does_value (hx hp hload) hk ⟨Φ, B, cellAu au id off (.slot d 0), ?_⟩
              rw [hd]
              exact h.takeCell ecs eV hb hc hn d
        · exact hk.elim
      · exact hk.elim
    · exact hk.elim
  · rename_i id z i j e
    rw [e] at hr
    split at hk
    · rename_i z' xs exs
      split at hk
      · rename_i d ed
        obtain ⟨b, c, el, hb, h1, h2, h3, h4⟩ := h.arrAt exs (by rintro rfl; simp at ed)
        cases hxi : xs[i]? with
        | none => simp [hxi] at ed
        | some xd =>
          simp [hxi] at ed
          obtain ⟨q1, q2⟩ := h4 i xd hxi
          generalize hv : a.eval x = v at hr
          cases hr with
          | aptr e2 =>
            rw [hb] at e2; injection e2 with e2; subst e2
            obtain ⟨hz, hk⟩ := hk
            subst hz
            obtain ⟨v, g1, g2⟩ := load_part (P := P) (w := w) (b := b) (off := i * z) (fun j d hj => by obtain ⟨c', k1, k2, k3⟩ := q2 j d hj; exact ⟨c', by rw [cell_of h2]; exact k1, k2, k3⟩) ed
            exact does_plain h (hx hv g1) (.d g2) (fun _ => trivial) hk
      · exact hk.elim
    · exact hk.elim
  · exact hk.elim

end
end Go.Idl
end
section
namespace Go.Idl

/-- A row of cells is written into a block. -/
structure Writes (w w' : World) (b : Nat) (c : Array Value) (el : TypeId) (off : Nat) (vs : List Value) : Prop where
  size : w'.heap.size = w.heap.size
  here : ∃ c' : Array Value, w'.heap[b]? = some (.cells c' el (0, 0)) ∧ c'.size = c.size ∧ (∀ k, off ≤ k → k < off + vs.length → c'[k]? = vs[k - off]?) ∧ (∀ k, k < off ∨ off + vs.length ≤ k → c'[k]? = c[k]?)
  there : ∀ b', b' ≠ b → w'.heap[b']? = w.heap[b']?
  tape : w'.tape = w.tape
  os : w'.os = w.os
  out : w'.output = w.output

theorem heap_setCell_ne {w : World} {b o b' : Nat} {v : Value} (h : b' ≠ b) : (w.setCell ⟨b, o, none⟩ v).heap[b']? = w.heap[b']? := by
  simp only [World.setCell]
  rw [Array.getElem?_modify]
  simp [Ne.symm h]

theorem heap_setCell_eq {w : World} {b o : Nat} {c : Array Value} {el : TypeId} {fr : Nat × Nat} {v : Value} (h : w.heap[b]? = some (.cells c el fr)) : (w.setCell ⟨b, o, none⟩ v).heap[b]? = some (.cells (c.setIfInBounds o v) el fr) := by
  simp only [World.setCell]
  rw [Array.getElem?_modify]
  simp [h]

theorem run_store {P : Program} {w : World} {b o : Nat} {c : Array Value} {el : TypeId} {v : Value} (h : w.heap[b]? = some (.cells c el (0, 0))) (ho : o < c.size) (hv : okCell v) :
    (store ⟨b, o, none⟩ v).run P w = .ok () (w.setCell ⟨b, o, none⟩ v) := by
  have hc : w.cell? ⟨b, o, none⟩ = some c[o] := by rw [cell_of h]; exact Array.getElem?_eq_getElem ho
  have hf := frozen_of (w := w) (o := o) h
  cases v <;> simp [okCell] at hv <;> simp [store, Sem.run, hc, hf]

theorem run_storeCells {P : Program} {b off : Nat} {el : TypeId} : ∀ (vs : List Value) (i : Nat) (w : World) (c : Array Value), w.heap[b]? = some (.cells c el (0, 0)) → off + i + vs.length ≤ c.size → (∀ v ∈ vs, okCell v) →
    ∃ w', (storeCells ⟨b, off, none⟩ vs i).run P w = .ok () w' ∧ Writes w w' b c el (off + i) vs
  | [], i, w, c, h, _, _ => ⟨w, rfl, rfl, ⟨c, h, rfl, fun k h1 h2 => absurd h2 (by simp; omega), fun _ _ => rfl⟩, fun _ _ => rfl, rfl, rfl, rfl⟩
  | v :: vs, i, w, c, h, hl, hv => by
    simp only [List.length_cons] at hl
    have h1 := run_store (P := P) (o := off + i) h (by omega) (hv v (by simp))
    have h2 := heap_setCell_eq (o := off + i) (v := v) h
    obtain ⟨w', g1, g2⟩ := run_storeCells (P := P) (b := b) (off := off) vs (i + 1) _ _ h2 (by simp; omega) (fun x hx => hv x (by simp [hx]))
    refine ⟨w', ?_, ?_⟩
    · simp only [storeCells, Sem.run_bind, addr_add]
      rw [h1]; simp only [Result.andThen_ok]; exact g1
    · obtain ⟨c', k1, k2, k3, k4⟩ := g2.here
      refine ⟨g2.size.trans (by simp [World.setCell]), ⟨c', k1, by simpa using k2, fun k h1 h2 => ?_, fun k hk => ?_⟩, fun b' hb => (g2.there b' hb).trans (heap_setCell_ne hb), g2.tape, g2.os, g2.out⟩
      · simp only [List.length_cons] at h2
        by_cases e : k = off + i
        · subst e
          rw [k4 _ (.inl (by omega))]
          simp [Array.getElem?_setIfInBounds, show off + i < c.size by omega]
        · rw [k3 k (by omega) (by omega)]
          obtain ⟨m, rfl⟩ : ∃ m, k = off + i + (m + 1) := ⟨k - (off + i) - 1, by omega⟩
          rw [show off + i + (m + 1) - (off + (i + 1)) = m by omega, show off + i + (m + 1) - (off + i) = m + 1 by omega]; simp
      · simp only [List.length_cons] at hk
        rw [k4 k (by omega), Array.getElem?_setIfInBounds, if_neg (by omega)]

section
variable {P : Program} {κ : Ctx} {Φ : CM} {B : List Nat} {au : Auth} {s : St} {a : Act} {w : World} {K : St → Prop} {o : Oper}

/-- A block of an object's is written: nobody else feels it. -/
theorem Inv.write (h : Inv κ Φ B au s a w) {id b : Nat} {o' : IObj} {w' : World} (hb : B[id]? = some b) (ha : au b = some (.obj id, 0))
    (hs : w'.heap.size = w.heap.size) (ht : ∀ b', b' ≠ b → w'.heap[b']? = w.heap[b']?) (h1 : w'.tape = w.tape) (h2 : w'.os = w.os) (h3 : w'.output = w.output)
    (hl : ∀ r, w.heap[b]? = some (.loop r) → ∃ r', w'.heap[b]? = some (.loop r'))
    (hO : RepO Φ B au w' id b o') : Inv κ Φ B au { s with hp := s.hp.set id o' } a w' := by
  have hne : ∀ b' h0 st, au b' = some (h0, st) → h0 ≠ .obj id → w'.heap[b']? = w.heap[b']? := fun b' h0 st e hn => ht b' (by rintro rfl; rw [ha] at e; injection e with e; injection e with e _; exact hn e.symm)
  refine { h with phi := fun lb b' o v e => ?_, auw := fun b' h0 st e => ?_, size := by rw [hs]; exact h.size, keep := fun b' hb' hm => ?_, tm := fun i V v hV hv => ?_, hl := by simpa using h.hl, nb := ⟨h.nb.1, by simpa using h.nb.2⟩, hp := fun id' o b' ho hb' => ?_, df := ?_, rd := fun l hl' => ?_, lp := fun l r hl' => ?_, wo := ⟨h1.trans h.wo.1, h2.trans h.wo.2.1, h3.trans h.wo.2.2⟩ }
  · have : b' ≠ b := by rintro rfl; exact absurd (h.phia _ _ _ _ _ _ e ha) (Nat.not_lt_zero _)
    have hc := h.phi _ b' o v e
    unfold World.cell? at *
    simp only at hc ⊢
    rw [ht b' this]; exact hc
  · rw [hs]; exact h.auw b' h0 st e
  · rw [ht b' ?_]; exact h.keep b' hb' hm
    rintro rfl
    rcases (h.auw _ _ _ ha).2 with x | x
    · exact hm x
    · omega
  · obtain ⟨k1, k2⟩ := h.tm i V v hV hv
    exact ⟨k1, k2.mono fun j b st e => ⟨e, hne b _ st e (by simp)⟩⟩
  · by_cases e : id = id'
    · subst e
      have hlt : id < s.hp.length := by rw [h.hl]; exact (List.getElem?_eq_some_iff.1 hb).1
      simp [hlt] at ho; subst ho
      rw [hb] at hb'; injection hb' with hb'; subst hb'
      exact hO
    · simp [e] at ho
      exact (h.hp id' o b' ho hb').mono (CM.le_refl _) (fun _ _ h => h) (fun hh => ⟨hh, hne b' _ _ hh (by intro x; injection x with x; exact e x.symm)⟩) (fun j b st hh => ⟨hh, hne b _ st hh (by simp)⟩)
  · obtain ⟨rs, k1, k2, k3⟩ := h.df
    refine ⟨rs, k1, k2, fun r hr => ?_⟩
    obtain ⟨x, y, z⟩ := k3 r hr
    exact ⟨(ht r (by rintro rfl; rw [y] at ha; cases ha)).trans x, y, z⟩
  · obtain ⟨r, hr⟩ := h.rd l hl'
    by_cases e : l = b
    · subst e; exact hl r hr
    · exact ⟨r, (ht l e).trans hr⟩
  · obtain ⟨r, hr⟩ := h.lp l r hl'
    by_cases e : l = b
    · subst e; exact hl r hr
    · exact ⟨r, (ht l e).trans hr⟩

/-- What a slot owns is given away. -/
theorem Inv.give (h : Inv κ Φ B au s a w) (i : Nat) (h' : Nat → Holder) : Inv κ Φ B (moveAu au i h') { s with tm := s.tm.set i (s.tm.getD i .un).cp } a w := by
  have hs := h.strip i
  refine { hs with phia := fun lb b o v h0 st hp ha => ?_, auw := fun b h0 st ha => ?_, tl := by simpa using h.tl, tm := fun k V' v' hV hv => ?_, hp := fun id o b ho hb => ?_, df := ?_ }
  · obtain ⟨h1, e⟩ := moveAu_inv ha; exact h.phia _ b o v h1 st hp e
  · obtain ⟨h1, e⟩ := moveAu_inv ha; exact h.auw b h1 st e
  · obtain ⟨k1, k2⟩ := hs.tm k V' v' hV hv
    refine ⟨k1, ?_⟩
    by_cases e2 : i = k
    · subst e2
      have hl : i < s.tm.length := by
        have := (Array.getElem?_eq_some_iff.1 hv).1; rw [h.tl]; exact this
      simp [hl] at hV
      subst hV
      exact OwnV_cp
    · exact k2.mono fun j b st hh => ⟨moveAu_other hh (by rintro j' hh'; injection hh' with hh'; exact e2 hh'.symm), rfl⟩
  · refine (h.hp id o b ho hb).mono (CM.le_refl _) (fun _ _ h => h) (fun hh => ⟨moveAu_other hh (by simp), rfl⟩) (fun j b st hh => ⟨moveAu_other hh (by simp), rfl⟩)
  · obtain ⟨rs, h1, h2, h3⟩ := h.df
    exact ⟨rs, h1, h2, fun r hr => let ⟨x, y, z⟩ := h3 r hr; ⟨x, moveAu_none y, z⟩⟩

theorem run_storeAt {t : TypeId} {b off : Nat} {c : Array Value} {el : TypeId} {v : Value} (hk : (kindD P t).isSome = true) (hn : v.cells.size = sizeD P t) (hw : w.heap[b]? = some (.cells c el (0, 0))) (hl : off + sizeD P t ≤ c.size)
    (hv : ∀ x ∈ v.cells.toList, okCell x) : ∃ w', (Instr.storeAt t (.pointer (some ⟨b, off, none⟩)) v).run P w = .ok () w' ∧ Writes w w' b c el off v.cells.toList := by
  obtain ⟨k, hk⟩ := Option.isSome_iff_exists.1 hk
  obtain ⟨td, i, _, hi, hz, hagg⟩ := kind_info hk
  obtain ⟨w', g1, g2⟩ := run_storeCells (P := P) (off := off) v.cells.toList 0 w c hw (by rw [Array.length_toList, hn]; omega) hv
  refine ⟨w', ?_, g2⟩
  show (storeVar t ⟨b, off, none⟩ v).run P w = _
  unfold storeVar
  rw [Sem.run_bind, run_sizeOf hi]; simp only [Result.andThen_ok]
  rw [if_neg (by rw [hn, hz]; simp)]
  exact g1

theorem own_cell {z : Nat} {xs : List D} {v : Value} (h : RepS Φ B (.own z xs) v) {k : Nat} (hk : k < v.cells.size) : v.cells[k] = v := by
  cases h with | own hh => cases hh <;> simp [Value.cells]

/-- a store into a variable -/
theorem does_store_var {t : TypeId} {x y : Operand} {r : List Oper} {id off : Nat} {cs : List V} (h : Inv κ Φ B au s a w) (ho : o.op = .store t x y) (e : ev P 0 s x = .ptr id off) (ecs : s.hp[id]? = some (.var cs))
    (hkd : (kindD P t).isSome = true) (hfl : (ev P t s y).flat.length = sizeD P t) (hof : off + sizeD P t ≤ cs.length) (hkn : (ev P t s y).known = true)
    (hk : K (({ s with hp := s.hp.set id (.var (cs.take off ++ (ev P t s y).flat ++ cs.drop (off + sizeD P t))), tm := s.at_ y (ev P t s y).cp } : St).put o.dst .un)) : Does P κ o a w K := by
  have hr := ev_rep (P := P) h 0 x
  rw [e] at hr
  obtain ⟨b, c, el, hb, h1, h2, h3, h4⟩ := h.varAt ecs
  have hp := hr.ptr_inv hb
  have hy := ev_rep (P := P) h t y
  obtain ⟨f1, f2⟩ := flat_rep hy hkn
  have hcells : ∀ x ∈ (a.eval y).cells.toList, okCell x := by
    intro x hx
    obtain ⟨j, hj, rfl⟩ := List.getElem_of_mem hx
    have hj' : j < (ev P t s y).flat.length := by rw [f1]; simpa using hj
    exact (f2 j _ _ (List.getElem?_eq_getElem hj') (by rw [← Array.getElem?_toList]; exact List.getElem?_eq_getElem hj)).1
  obtain ⟨w', g1, g2⟩ := run_storeAt (P := P) (t := t) (off := off) hkd (by rw [← f1]; exact hfl) h2 (by rw [h3]; exact hof) hcells
  have hx : (execOp a.eval o).run P w = .ok .skip w' := by
    unfold execOp; rw [ho]; refine run_u ?_
    simp only [hp]; exact g1
  -- whose is what is stored
  obtain ⟨au', hi, hown⟩ : ∃ au', Inv κ Φ B au' { s with tm := s.at_ y (ev P t s y).cp } a w ∧ (∀ b h0 st, au b = some (h0, st) → (∀ i j, h0 ≠ .slot i j) → au' b = some (h0, st)) ∧
      (∀ z xs, ev P t s y = .own z xs → TailOK au' w (.cell id off) z (a.eval y)) ∧ (∀ z xs, ev P t s y = .hold z xs → HoldOK au' w (.cell id off) z xs (a.eval y)) := by
    cases y with
    | tmp i =>
      refine ⟨_, h.give i (fun _ => .cell id off), fun b h0 st e hn => moveAu_other e (fun j => hn i j), fun z xs ez => ?_, fun z xs ez => ?_⟩
      · have := (tm_get h i).2
        have ez' : s.tm.getD i .un = .own z xs := ez
        rw [ez'] at this
        exact TailOK.mono this fun b st e => ⟨moveAu_slot e, rfl⟩
      · have := (tm_get h i).2
        have ez' : s.tm.getD i .un = .hold z xs := ez
        rw [ez'] at this
        exact HoldOK.mono this fun b st e => ⟨moveAu_slot e, rfl⟩
    | const v =>
      have := (constV_rep (P := P) (t := t) (v := v) (Φ := Φ) (B := B) (au := au) (w := w) (h := fun _ => .cell id off)).2.1
      refine ⟨au, h, fun _ _ _ e _ => e, fun z xs ez => ?_, fun z xs ez => ?_⟩
      · have ez' : constV P t v = .own z xs := ez
        rw [ez'] at this; exact this
      · have ez' : constV P t v = .hold z xs := ez
        rw [ez'] at this; exact this
    | «global» g => exact ⟨au, h, fun _ _ _ e _ => e, fun z xs ez => (by cases ez), fun z xs ez => by cases ez⟩
    | func f => exact ⟨au, h, fun _ _ _ e _ => e, fun z xs ez => (by cases ez), fun z xs ez => by cases ez⟩
  obtain ⟨hother, htail, hheld⟩ := hown
  have ha' := hother b _ _ h1 (by simp)
  obtain ⟨c', q1, q2, q3, q4⟩ := g2.here
  have hnb : ∀ b' h0 st, au' b' = some (h0, st) → h0 ≠ .obj id → w'.heap[b']? = w.heap[b']? := fun b' h0 st e hn => g2.there b' (by rintro rfl; rw [ha'] at e; injection e with e; injection e with e _; exact hn e.symm)
  have hO : RepO Φ B au' w' id b (.var (cs.take off ++ (ev P t s y).flat ++ cs.drop (off + sizeD P t))) := by
    have hlen : (a.eval y).cells.toList.length = sizeD P t := by rw [Array.length_toList, ← f1, hfl]
    refine ⟨ha', c', el, q1, by rw [q2, h3]; simp [hfl]; omega, fun j V hj => ?_⟩
    by_cases hj1 : j < off
    · rw [List.append_assoc, List.getElem?_append_left (by simp; omega), List.getElem?_take, if_pos hj1] at hj
      obtain ⟨v, m1, m2, m3, m4⟩ := h4 j V hj
      exact ⟨v, by rw [q4 j (.inl hj1)]; exact m1, m2, m3, m4.mono fun _ b' st e => ⟨hother b' _ st e (by simp), hnb b' _ st (hother b' _ st e (by simp)) (by simp)⟩⟩
    · by_cases hj2 : j < off + sizeD P t
      · rw [List.append_assoc, List.getElem?_append_right (by simp; omega)] at hj
        rw [show (cs.take off).length = off by simp; omega, List.getElem?_append_left (by omega)] at hj
        have hjc : j - off < (a.eval y).cells.size := by rw [← f1]; exact (List.getElem?_eq_some_iff.1 hj).1
        have hv : (a.eval y).cells[j - off]? = some (a.eval y).cells[j - off] := Array.getElem?_eq_getElem hjc
        obtain ⟨m1, m2, m3, m4⟩ := f2 _ V _ hj hv
        refine ⟨_, by rw [q3 j (by omega) (by rw [hlen]; omega), Array.getElem?_toList]; exact hv, fun _ => m1, m3, ?_⟩
        cases hV : ev P t s y with
        | own z xs =>
          rw [hV] at hj f1
          simp [Idl.V.flat] at hj f1
          have : j = off := by
            have := (List.getElem?_eq_some_iff.1 hj).1; simp at this; omega
          subst this
          simp at hj; subst hj
          have ht := htail z xs hV
          have e5 : (a.eval y).cells[j - j] = a.eval y := by
            exact own_cell (by rw [← hV]; exact hy) _
          rw [e5]
          refine ht.mono fun b' st e => ⟨e, hnb b' _ st e (by simp)⟩
        | hold z xs =>
          rw [hV] at hj f1
          simp [Idl.V.flat] at hj f1
          have : j = off := by
            have := (List.getElem?_eq_some_iff.1 hj).1; simp at this; omega
          subst this
          simp at hj; subst hj
          have ht := hheld z xs hV
          have e5 : (a.eval y).cells[j - j] = a.eval y := by
            obtain ⟨a0, cap, e6, _⟩ := ht
            simp only [e6]; simp [Value.cells]
          rw [e5]
          exact HoldOK.mono ht fun b' st e => ⟨e, hnb b' _ st e (by simp)⟩
        | tup vs => rw [hV] at hkn; simp [Idl.V.known] at hkn
        | _ => exact m4 (by rw [hV]; rfl) _ _ _
      · rw [List.getElem?_append_right (by simp [hfl]; omega)] at hj
        rw [show (cs.take off ++ (ev P t s y).flat).length = off + sizeD P t by simp [hfl]; omega, List.getElem?_drop, show off + sizeD P t + (j - (off + sizeD P t)) = j by omega] at hj
        obtain ⟨v, m1, m2, m3, m4⟩ := h4 j V hj
        exact ⟨v, by rw [q4 j (.inr (by rw [hlen]; omega))]; exact m1, m2, m3, m4.mono fun _ b' st e => ⟨hother b' _ st e (by simp), hnb b' _ st (hother b' _ st e (by simp)) (by simp)⟩⟩
  have hfin := hi.write (o' := .var (cs.take off ++ (ev P t s y).flat ++ cs.drop (off + sizeD P t))) hb ha' g2.size g2.there g2.tape g2.os g2.out (fun r hr => by rw [h2] at hr; cases hr) hO
  exact does_skip hx hk ⟨Φ, B, au', hfin.put o.dst (.un _) fun _ _ => trivial⟩

end
end Go.Idl
end
