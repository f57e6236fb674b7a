/- A law whose call is known on ideal data: the row that is claimed of it.; Calls in a larger memory: the frame; slices that are lent; results that are frozen.; The conditions step by step, for simp: each law fires where the state lies open.; Drawn regions, part 4: a free part with one call that makes something new.; Regions whose order is drawn, with two variables that are made new behind the free operations: in either order.; The same conditions on code without positions and edges: small terms; hints; ranging over functions. -/
import Derived.JoinedOf
import Derived.Test.YtdhifabhjlbjiaaIdlTwo
set_option linter.all false
section
namespace Go.Idl
open Go.RowKit Go.ChangeShapes Go.WideShapes

/-- a datum that is a value of a type -/
def TyV (P : Program) (n : Nat) (t : TypeId) (x : D) : Prop := (isStruct P t = true → ∃ cs, x = .agg cs) ∧ (isStruct P t = false → ∀ cs, x ≠ .agg cs) ∧ TyD P n t x.flat

inductive TyAll (P : Program) (n : Nat) : List TypeId → List D → Prop
  | nil : TyAll P n [] []
  | cons {t ts x xs} : TyV P n t x → TyAll P n ts xs → TyAll P n (t :: ts) (x :: xs)

inductive RepAll (Φ : CM) : List D → List Value → Prop
  | nil : RepAll Φ [] []
  | cons {x xs v vs} : RepD Φ x v → RepAll Φ xs vs → RepAll Φ (x :: xs) (v :: vs)

theorem arg_rep {H : Type} {enc : TypeId × Value → H} {P : Program} {w : World} {b b0 : Nat} {spare : Nat → Bool} {held : Bool} {r : Reach} {n : Nat} {t : TypeId} {v : Value} {d : DataW H} {p : List MemPlace}
    (hp : plainTy P n t = true) (hv : Value.okWide P w r b0 t v) (h : DataW.Trod enc P w b spare held t v d p) (hw : ∀ y ∈ d.weights P t, y ≤ reachBytes) : ∃ x, RepD (cellsOfW w) x v ∧ TyV P n t x := by
  obtain ⟨fuel, hf⟩ := h
  obtain ⟨ds, hc, ht⟩ := trod_rep n hp hf hw
  cases hst : isStruct P t with
  | true =>
    unfold isStruct at hst
    split at hst
    · rename_i fs eu
      obtain ⟨cs, rfl, _⟩ := okWide_struct eu hv
      simp only [Value.cells] at hc
      refine ⟨.agg ds, ?_, fun _ => ⟨ds, rfl⟩, fun hh => ?_, ht⟩
      · have := RepD.agg (Φ := cellsOfW w) (RepL.of hc.1 hc.2)
        simpa using this
      · unfold isStruct at hh; rw [eu] at hh; cases hh
    · cases hst
  | false =>
    obtain ⟨x, rfl, hx⟩ := TyD.length_le ht hst
    have hfl : x.flat = [x] := by cases x <;> first | rfl | exact absurd rfl (hx _)
    have hone : v.cells.toList = [v] := by
      cases n with
      | zero => exact ht.elim
      | succ n =>
        unfold TyD at ht
        split at ht
        · rename_i e; obtain ⟨c, rfl⟩ : ∃ c, v = .bool c := by simp only [Value.okWide, e, Cell.okWide] at hv; cases v <;> simp_all [Cell.ok]
          rfl
        · rename_i e; obtain ⟨c, c', rfl⟩ : ∃ c c', v = .int c c' := by simp only [Value.okWide, e, Cell.okWide] at hv; cases v <;> simp_all [Cell.ok]
          rfl
        · rename_i e; obtain ⟨c, rfl⟩ := okWide_string e hv
          rfl
        · rename_i e; obtain ⟨c, c', c'', rfl⟩ := okWide_slice e hv
          rfl
        · rename_i e; unfold isStruct at hst; rw [e] at hst; cases hst
        · exact ht.elim
    rw [hone] at hc
    refine ⟨x, (hc.2 0 x v rfl rfl).2, fun hh => (by cases hst.symm.trans hh), fun _ => hx, by rw [hfl]; exact ht⟩

theorem args_rep {H : Type} {enc : TypeId × Value → H} {P : Program} {w : World} {b b0 : Nat} {spare : Nat → Bool} {held : Bool} {r : Reach} {n : Nat} : ∀ {ts : List TypeId} {vs : List Value} {ds : List (DataW H)} {ps : List MemPlace},
    ts.all (plainTy P n) = true → (∀ (j : Nat) t v, ts[j]? = some t → vs[j]? = some v → Value.okWide P w r b0 t v) → DataW.TrodAll enc P w b spare held ts vs ds ps → (∀ y ∈ DataW.weightsEach P ts ds, y ≤ reachBytes) →
      ∃ xs, RepAll (cellsOfW w) xs vs ∧ TyAll P n ts xs
  | [], vs, ds, ps, _, _, h, _ => by
    obtain ⟨rfl, _, _⟩ := trodAll_nil h
    exact ⟨[], .nil, .nil⟩
  | t :: ts, vs, ds, ps, hp, hv, h, hw => by
    obtain ⟨v, vs', d, ds', p, q, rfl, rfl, rfl, h1, h2⟩ := trodAll_cons h
    simp only [List.all_cons, Bool.and_eq_true] at hp
    obtain ⟨x, q1, q2⟩ := arg_rep hp.1 (hv 0 t v rfl rfl) h1 fun y hy => hw y (by unfold DataW.weightsEach; exact List.mem_append_left _ hy)
    obtain ⟨xs, q3, q4⟩ := args_rep hp.2 (fun j t v ht hv' => hv (j + 1) t v (by simpa using ht) (by simpa using hv')) h2 fun y hy => hw y (by unfold DataW.weightsEach; exact List.mem_append_right _ hy)
    exact ⟨x :: xs, .cons q1 q3, .cons q2 q4⟩

theorem RepAll.get {Φ : CM} {xs : List D} {vs : List Value} (h : RepAll Φ xs vs) : xs.length = vs.length ∧ ∀ (i : Nat) x v, xs[i]? = some x → vs[i]? = some v → RepD Φ x v := by
  induction h with
  | nil => simp
  | cons a _ ih =>
    refine ⟨by simp [ih.1], fun i x v hx hv => ?_⟩
    cases i with
    | zero => simp at hx hv; subst hx; subst hv; exact a
    | succ i => exact ih.2 i x v (by simpa using hx) (by simpa using hv)

/-- A call on data, in the kit's words. -/
theorem law_calls {P : Program} {f : FuncId} {xs : List D} {args : Array Value} {w : World} {b : Bool} (h : PCall P f xs (.d (.bool b))) (hr : RepAll (cellsOfW w) xs args.toList) :
    Calls P f args w fun e w' => e = .returned (.bool b) ∧ Below w.heap.size w w' := by
  obtain ⟨hl, hg⟩ := hr.get
  have h0 : Inv (Ctx.at_ (cellsOfW w) [] (fun _ => none) w) (cellsOfW w) [] (fun _ => none) ⟨xs.map V.d, [], ([] : List IObj).length⟩ ⟨args, []⟩ w := by
    refine { phi := fun lb _ _ _ e => e, phia := fun lb _ _ _ _ _ _ e => (by cases e), auw := fun _ _ _ e => (by cases e), size := Nat.le_refl _, keep := fun _ _ _ => rfl, pre := List.prefix_refl _, lePhi := CM.le_refl _, tl := by simp [hl], tm := fun i V v hV hv => ?_, hl := rfl, nb := ⟨Nat.le_refl _, Nat.le_refl _⟩, hp := fun id o b ho => (by simp at ho), df := ⟨[], rfl, List.nodup_nil, by simp⟩, rd := fun l hl => (by cases hl), lp := fun l r e => ⟨r, e⟩, src := fun lb b o v e => .inl e, wo := ⟨rfl, rfl, rfl⟩ }
    have hV' : (xs.map Idl.V.d)[i]? = some V := hV
    simp only [List.getElem?_map, Option.map_eq_some_iff] at hV'
    obtain ⟨x, hx, rfl⟩ := hV'
    exact ⟨.d (hg i x v hx (by simpa using hv)), trivial⟩
  refine (callsIn_wide (n := 0)).1 (CallsIn.mono (F := Fence.wide) (h (cellsOfW w) [] (fun _ => none) w args h0) ?_)
  rintro e w' ⟨v, r, hp', rfl, rfl, Φ', B', au', g⟩
  have hv := (g.tm 0 _ v rfl rfl).1
  obtain rfl : v = .bool b := by cases hv with | d q => exact repD_bool q
  exact ⟨rfl, ⟨g.wo.2.1, g.wo.1, g.wo.2.2, g.size, fun k hk => g.keep k hk (by simp [Ctx.at_])⟩⟩

theorem trodAll_back {H : Type} {enc : TypeId × Value → H} {P : Program} (hl : laidOutB P = true) {W W' : World} (hb : Below W.heap.size W W') : ∀ {ts : List TypeId} {vs : List Value} {ds : List (DataW H)} {ps : List MemPlace},
    ts.all (fun t => P.readableRec t && decide (t < P.types.size)) = true → DataW.TrodAll enc P W 0 (fun _ => true) true ts vs ds ps → DataW.TrodAll enc P W' 0 (fun b => decide (b < W.heap.size)) true ts vs ds ps
  | [], vs, ds, ps, _, h => by
    obtain ⟨rfl, rfl, rfl⟩ := trodAll_nil h
    exact trodAll_mk0
  | t :: ts, vs, ds, ps, hr, h => by
    obtain ⟨v, vs', d, ds', p, q, rfl, rfl, rfl, h1, h2⟩ := trodAll_cons h
    simp only [List.all_cons, Bool.and_eq_true, decide_eq_true_eq] at hr
    have hlt : ∀ x ∈ p, x.block < W.heap.size := by obtain ⟨m, hm⟩ := h1; exact DataW.trod_lt m _ _ _ hm
    exact ⟨p, q, Below.trod hl hr.1.1 hr.1.2 h1 hb hlt, trodAll_back hl hb hr.2 h2, rfl⟩

/-- what a row of a law says of its specification -/
def LawSpec (s : ChangeSpec) (n : Nat) : Prop := s.vars = [] ∧ ∀ (H : Type) (ds : List (DataW H)), ds.length = n → s.fn H ds = { results := [.lit (.bool true)], args := ds }

theorem trodAll_length {H : Type} {enc : TypeId × Value → H} {P : Program} {W : World} {b : Nat} {sp : Nat → Bool} {held : Bool} : ∀ {ts : List TypeId} {vs : List Value} {ds : List (DataW H)} {ps : List MemPlace}, DataW.TrodAll enc P W b sp held ts vs ds ps → ds.length = ts.length
  | [], vs, ds, ps, h => by obtain ⟨rfl, rfl, rfl⟩ := trodAll_nil h; rfl
  | t :: ts, vs, ds, ps, h => by
    obtain ⟨v, vs', d, ds', p, q, rfl, rfl, rfl, h1, h2⟩ := trodAll_cons h
    simp [trodAll_length h2]

/-- THE ROW OF A LAW. -/
theorem law_lifted {C : Checked} {os : Os} {f : FuncId} {fn : Func} {s : ChangeSpec} {conds : List PathCond} {H : Type} {enc : TypeId × Value → H} {tb : TypeId} (n : Nat)
    (own : ownKnob C.prog.godebug = none) (started : os.Started) (noInit : C.prog.inits.idxOf? f = none) (hfn : C.prog.funcs[f]? = some fn)
    (witness : ∃ (w : World) (tape : Tape) (i : Input), w.os = os ∧ (w.forCall tape i).Shaped C.prog ∧ i.vars = [] ∧ Input.okWide C.prog (w.forCall tape i) .any w.heap.size f i ∧
      s.pre6 enc C.prog fn conds false (w.forCall tape i).memory i.args ∧ ({} : Assume).holds C.prog (lone (Frame.enter C.prog f i.args .normal) [] (w.forCall tape i)))
    (hplain : fn.params.toList.all (plainTy C.prog n) = true) (hread : fn.params.toList.all (fun t => C.prog.readableRec t && decide (t < C.prog.types.size)) = true) (laid : laidOutB C.prog = true)
    (hret : fn.resultTypes = #[tb]) (htb : C.prog.underlying tb = some .bool) (hs : LawSpec s fn.params.size)
    (pure : ∀ xs, TyAll C.prog n fn.params.toList xs → PCall C.prog f xs (.d (.bool true))) :
    ReturnsInHanded {} C os f .any (s.pre6 enc C.prog fn conds false) (s.post enc C.prog fn false true false false) := by
  refine returnsInHanded_of_change_sized own started noInit hfn witness ?_
  intro W base args ds gs before hval hW _ hsz _
  have hW' := hW
  obtain ⟨p, q, hA, hV, rfl, hfz, hnd⟩ := hW
  rw [hs.1] at hV
  obtain ⟨rfl, rfl⟩ := trodVars_none hV
  have hweights : ∀ y ∈ DataW.weightsEach C.prog fn.params.toList ds, y ≤ reachBytes := by
    intro y hy
    have e1 : s.plain.varTypes C.prog = [] := by unfold DataSpec.varTypes; simp [ChangeSpec.plain, hs.1]
    rw [e1, List.append_nil, List.append_nil] at hsz
    simpa using List.all_eq_true.1 hsz y hy
  obtain ⟨xs, q1, q2⟩ := args_rep hplain (fun j t v ht hv => hval j t v (by simpa using ht) (by simpa using hv)) hA hweights
  refine (law_calls (pure xs q2) q1).mono fun e W' ⟨he, bel⟩ => ?_
  subst he
  have hfn' : s.fn H (ds ++ []) = { results := [.lit (.bool true)], args := ds } := by rw [List.append_nil]; exact hs.2 H ds (by rw [trodAll_length hA]; simp)
  refine ⟨_, rfl, ds, [], _, [], p, [], hW', ?_, ?_, ?_, bel.frame _, fun h => by cases h⟩
  · rw [hfn', hret]
    exact trodAll_mk1 (shut_bool htb _)
  · rw [hfn']; exact trodAll_back laid bel hread hA
  · rw [hs.1, hfn']; rfl

end Go.Idl
end
section
namespace Go.Idl

mutual
/-- other numbers for the objects -/
def V.ren (ρ : List Nat) : V → V
  | .ptr id off => .ptr (ρ.getD id 0) off
  | .aptr id z i j => .aptr (ρ.getD id 0) z i j
  | .ref id z off len cap => .ref (ρ.getD id 0) z off len cap
  | .fn f caps => .fn f (V.renL ρ caps)
  | .yld id => .yld (ρ.getD id 0)
  | .map id => .map (ρ.getD id 0)
  | .tup vs => .tup (V.renL ρ vs)
  | .st vs => .st (V.renL ρ vs)
  | .un => .un
  | .d x => .d x
  | .nil z => .nil z
  | .own z xs => .own z xs
  | .lptr l z xs i j => .lptr l z xs i j
def V.renL (ρ : List Nat) : List V → List V
  | [] => []
  | v :: vs => V.ren ρ v :: V.renL ρ vs
end

def IObj.ren (ρ : List Nat) : IObj → IObj
  | .free => .free
  | .var cs => .var (V.renL ρ cs)
  | .arr z xs => .arr z xs
  | .map c es => .map c (es.map fun e => (e.1, e.2.1, V.ren ρ e.2.2))
  | .iter m since seen last => .iter (ρ.getD m 0) since seen last
  | .loop r p tm ps a b => .loop r p (V.renL ρ tm) ps a b

theorem renL_map {ρ : List Nat} : ∀ vs : List V, V.renL ρ vs = vs.map (V.ren ρ)
  | [] => rfl
  | v :: vs => by rw [V.renL, renL_map vs]; rfl

theorem V.ren_cp {ρ : List Nat} (v : V) : (v.ren ρ).cp = v.cp.ren ρ := by
  cases v with
  | tup vs =>
    simp only [V.ren, V.cp, renL_map, List.map_map]
    congr 1
    refine List.map_congr_left fun v _ => ?_
    cases v <;> rfl
  | _ => rfl
theorem V.ren_known {ρ : List Nat} (v : V) : (v.ren ρ).known = v.known := by cases v <;> rfl
theorem V.ren_isTup {ρ : List Nat} (v : V) : (v.ren ρ).isTup = v.isTup := by cases v <;> rfl

section
variable {Φ : CM}
mutual
/-- what stands for a value stands for it under other numbers -/
theorem RepS.ren {B B' : List Nat} {ρ : List Nat} (h : ∀ (i b : Nat), B[i]? = some b → B'[ρ.getD i 0]? = some b) : ∀ {V : V} {v : Value}, RepS Φ B V v → RepS Φ B' (V.ren ρ) v
  | _, _, .un v => .un v
  | _, _, .d x => .d x
  | _, _, .nil => .nil
  | _, _, .own x => .own x
  | _, _, .st e ok q => by
    refine .st (RepSL.ren h e) ok fun V hV => ?_
    rw [renL_map] at hV
    obtain ⟨V', hV', rfl⟩ := List.mem_map.1 hV
    obtain ⟨q1, q2⟩ := q V' hV'
    exact ⟨by rw [Idl.V.ren_cp, q1], by rw [Idl.V.ren_known]; exact q2⟩
  | _, _, .ptr e => .ptr (h _ _ e)
  | _, _, .aptr e => .aptr (h _ _ e)
  | _, _, .lptr e => .lptr e
  | _, _, .ref e l q => .ref (h _ _ e) l q
  | _, _, .ref0 => .ref0
  | _, _, .fn e => .fn (RepSL.ren h e)
  | _, _, .yld e => .yld (h _ _ e)
  | _, _, .tup e => .tup (RepSL.ren h e)
  | _, _, .map e => .map (h _ _ e)
theorem RepSL.ren {B B' : List Nat} {ρ : List Nat} (h : ∀ (i b : Nat), B[i]? = some b → B'[ρ.getD i 0]? = some b) : ∀ {V : List V} {v : List Value}, RepSL Φ B V v → RepSL Φ B' (Idl.V.renL ρ V) v
  | _, _, .nil => .nil
  | _, _, .cons a b => .cons (RepS.ren h a) (RepSL.ren h b)
end

mutual
/-- and back -/
theorem RepS.unren {B B' : List Nat} {ρ : List Nat} {m : Nat} (h : ∀ (i b : Nat), i < m → B'[ρ.getD i 0]? = some b → B[i]? = some b) : ∀ {V : V} {v : Value}, V.lt m = true → RepS Φ B' (V.ren ρ) v → RepS Φ B V v
  | .un, _, _, _ => .un _
  | .d x, _, _, hr => by cases hr with | d x => exact .d x
  | .nil z, _, _, hr => by cases hr with | nil => exact .nil
  | .own z xs, _, _, hr => by cases hr with | own x => exact .own x
  | .lptr .., _, _, hr => by cases hr with | lptr x => exact .lptr x
  | .ptr id off, _, hl, hr => by
    simp only [V.ren] at hr
    cases hr with | ptr e => exact .ptr (h _ _ (by simpa [V.lt] using hl) e)
  | .aptr .., _, hl, hr => by
    simp only [V.ren] at hr
    cases hr with | aptr e => exact .aptr (h _ _ (by simpa [V.lt] using hl) e)
  | .ref id z off len cap, _, hl, hr => by
    simp only [V.ren] at hr
    cases hr with
    | ref e a b => exact .ref (h _ _ (by simpa [V.lt] using hl) e) a b
    | ref0 => exact .ref0
  | .yld id, _, hl, hr => by
    simp only [V.ren] at hr
    cases hr with | yld e => exact .yld (h _ _ (by simpa [V.lt] using hl) e)
  | .map id, _, hl, hr => by
    simp only [V.ren] at hr
    cases hr with | map e => exact .map (h _ _ (by simpa [V.lt] using hl) e)
  | .fn f caps, _, hl, hr => by
    simp only [V.ren] at hr
    cases hr with | fn e => exact .fn (RepSL.unren h (by simpa [V.lt] using hl) e)
  | .tup vs, _, hl, hr => by
    simp only [V.ren] at hr
    cases hr with | tup e => exact .tup (RepSL.unren h (by simpa [V.lt] using hl) e)
  | .st vs, _, hl, hr => by
    simp only [V.ren] at hr
    cases hr with
    | st e ok q =>
      refine .st (RepSL.unren h (by simpa [V.lt] using hl) e) ok fun V hV => ?_
      obtain ⟨q1, q2⟩ := q (V.ren ρ) (by rw [renL_map]; exact List.mem_map.2 ⟨V, hV, rfl⟩)
      rw [Idl.V.ren_known] at q2
      refine ⟨?_, q2⟩
      cases V with
      | own z xs => simp [V.ren, V.cp] at q1
      | tup vs => simp [V.known] at q2
      | _ => rfl
theorem RepSL.unren {B B' : List Nat} {ρ : List Nat} {m : Nat} (h : ∀ (i b : Nat), i < m → B'[ρ.getD i 0]? = some b → B[i]? = some b) : ∀ {V : List V} {v : List Value}, Idl.V.ltL m V = true → RepSL Φ B' (Idl.V.renL ρ V) v → RepSL Φ B V v
  | [], _, _, hr => by
    simp only [Idl.V.renL] at hr
    cases hr; exact .nil
  | V :: Vs, _, hl, hr => by
    simp only [Idl.V.renL] at hr
    simp only [Idl.V.ltL, Bool.and_eq_true] at hl
    cases hr with | cons a b => exact .cons (RepS.unren h hl.1 a) (RepSL.unren h hl.2 b)
end
end

/-- the holder's other number -/
def Holder.ren (ρ : List Nat) : Holder → Holder
  | .slot i j => .slot i j
  | .cell id j => .cell (ρ.getD id 0) j
  | .obj id => .obj (ρ.getD id 0)

theorem OwnV.ren {au au' : Auth} {w w' : World} {h h' : Nat → Holder} {ρ : List Nat} {V : V} {v : Value} (ho : OwnV au w h V v) (ha : ∀ j b st, au b = some (h j, st) → au' b = some (h' j, st) ∧ w'.heap[b]? = w.heap[b]?) : OwnV au' w' h' (V.ren ρ) v := by
  cases V with
  | own z xs => exact OwnV.mono (V := .own z xs) ho ha
  | tup vs =>
    rintro j z xs cs c e hj hc
    simp only [renL_map, List.getElem?_map, Option.map_eq_some_iff] at hj
    obtain ⟨V', hV', e'⟩ := hj
    cases V' <;> simp [V.ren] at e'
    obtain ⟨rfl, rfl⟩ := e'
    exact (ho j _ _ cs c e hV' hc).mono (ha j)
  | _ => trivial

theorem OwnV.unren {au au' : Auth} {w w' : World} {h h' : Nat → Holder} {ρ : List Nat} {V : V} {v : Value} (ho : OwnV au w h (V.ren ρ) v) (ha : ∀ j b st, au b = some (h j, st) → au' b = some (h' j, st) ∧ w'.heap[b]? = w.heap[b]?) : OwnV au' w' h' V v := by
  cases V with
  | own z xs => exact OwnV.mono (V := .own z xs) ho ha
  | tup vs =>
    rintro j z xs cs c e hj hc
    exact (ho j z xs cs c e (by simp only [renL_map, List.getElem?_map, hj]; rfl) hc).mono (ha j)
  | _ => trivial

/-- an object's reading under other numbers -/
theorem RepO.ren {Φ Φ' : CM} {B B' : List Nat} {au au' : Auth} {w w' : World} {ρ : List Nat} {id id' b : Nat} {o : IObj} (h : RepO Φ B au w id b o) (hΦ : Φ.le Φ')
    (hB : ∀ (i b : Nat), B[i]? = some b → B'[ρ.getD i 0]? = some b) (hb : au b = some (.obj id, 0) → au' b = some (.obj id', 0) ∧ w'.heap[b]? = w.heap[b]?)
    (hc : ∀ j b st, au b = some (.cell id j, st) → au' b = some (.cell id' j, st) ∧ w'.heap[b]? = w.heap[b]?) : RepO Φ' B' au' w' id' b (o.ren ρ) := by
  cases o with
  | free => trivial
  | var cs =>
    obtain ⟨h1, c, el, h2, h3, h4⟩ := h
    obtain ⟨e1, e2⟩ := hb h1
    refine ⟨e1, c, el, e2.trans h2, by rw [renL_map]; simpa using h3, fun j V hj => ?_⟩
    rw [renL_map, List.getElem?_map, Option.map_eq_some_iff] at hj
    obtain ⟨V', hj, rfl⟩ := hj
    obtain ⟨v, g1, g2, g3, g4⟩ := h4 j V' hj
    exact ⟨v, g1, by rw [Idl.V.ren_known]; exact g2, (g3.mono hΦ (fun _ _ h => h)).ren hB, g4.ren fun _ => hc j⟩
  | arr z xs =>
    intro hne
    obtain ⟨h1, c, el, h2, h3, h4⟩ := h hne
    obtain ⟨e1, e2⟩ := hb h1
    refine ⟨e1, c, el, e2.trans h2, h3, fun i x hx => ?_⟩
    obtain ⟨g1, g2⟩ := h4 i x hx
    refine ⟨g1, fun j d hd => ?_⟩
    obtain ⟨v, k1, k2, k3⟩ := g2 j d hd
    exact ⟨v, k1, k2, k3.mono hΦ⟩
  | map clock es =>
    obtain ⟨h1, ms, h2, h3, h4⟩ := h
    obtain ⟨e1, e2⟩ := hb h1
    refine ⟨e1, ms, e2.trans h2, by simpa using h3, fun i n k V hi => ?_⟩
    simp only [List.getElem?_map, Option.map_eq_some_iff, Prod.mk.injEq] at hi
    obtain ⟨⟨n', k', V'⟩, hi, rfl, rfl, rfl⟩ := hi
    obtain ⟨e, g1, g2, g3, g4⟩ := h4 i _ _ _ hi
    exact ⟨e, g1, g2, g3.mono hΦ, (g4.mono hΦ (fun _ _ h => h)).ren hB⟩
  | iter m since seen last =>
    obtain ⟨h1, bm, h2, h3⟩ := h
    obtain ⟨e1, e2⟩ := hb h1
    exact ⟨e1, bm, hB _ _ h2, e2.trans h3⟩
  | loop r p tm ps a bd =>
    obtain ⟨h1, fn, tmps, dr, h2, h3, h4⟩ := h
    obtain ⟨e1, e2⟩ := hb h1
    refine ⟨e1, fn, tmps, dr, e2.trans h2, (h3.mono hΦ (fun _ _ h => h)).ren hB, fun V hV => ?_⟩
    rw [renL_map] at hV
    obtain ⟨V', hV', rfl⟩ := List.mem_map.1 hV
    rw [Idl.V.ren_cp, h4 V' hV']

theorem RepO.unren {Φ : CM} {B B' : List Nat} {au au' : Auth} {w : World} {ρ : List Nat} {m id id' b : Nat} {o : IObj} (h : RepO Φ B' au w id' b (o.ren ρ)) (hl : o.lt m = true)
    (hB : ∀ (i b : Nat), i < m → B'[ρ.getD i 0]? = some b → B[i]? = some b) (hb : au b = some (.obj id', 0) → au' b = some (.obj id, 0))
    (hc : ∀ j b st, au b = some (.cell id' j, st) → au' b = some (.cell id j, st)) : RepO Φ B au' w id b o := by
  cases o with
  | free => trivial
  | var cs =>
    obtain ⟨h1, c, el, h2, h3, h4⟩ := h
    refine ⟨hb h1, c, el, h2, by rw [renL_map] at h3; simpa using h3, fun j V hj => ?_⟩
    obtain ⟨v, g1, g2, g3, g4⟩ := h4 j (V.ren ρ) (by rw [renL_map, List.getElem?_map, hj]; rfl)
    exact ⟨v, g1, by rw [Idl.V.ren_known] at g2; exact g2, g3.unren hB (ltL_get (by simpa [IObj.lt] using hl) j V hj), g4.unren fun _ b st e => ⟨hc j b st e, rfl⟩⟩
  | arr z xs =>
    intro hne
    obtain ⟨h1, c, el, h2, h3, h4⟩ := h hne
    exact ⟨hb h1, c, el, h2, h3, h4⟩
  | map clock es =>
    obtain ⟨h1, ms, h2, h3, h4⟩ := h
    refine ⟨hb h1, ms, h2, by simpa using h3, fun i n k V hi => ?_⟩
    obtain ⟨e, g1, g2, g3, g4⟩ := h4 i n k (V.ren ρ) (by simp only [List.getElem?_map, hi]; rfl)
    exact ⟨e, g1, g2, g3, g4.unren hB (ltL_get (vs := es.map (·.2.2)) (by simpa [IObj.lt] using hl) i V (by rw [List.getElem?_map, hi]; rfl))⟩
  | iter mm since seen last =>
    obtain ⟨h1, bm, h2, h3⟩ := h
    exact ⟨hb h1, bm, hB _ _ (by simpa [IObj.lt] using hl) h2, h3⟩
  | loop r p tm ps a bd =>
    obtain ⟨h1, fn, tmps, dr, h2, h3, h4⟩ := h
    refine ⟨hb h1, fn, tmps, dr, h2, h3.unren hB (by simpa [IObj.lt] using hl), fun V hV => ?_⟩
    have := h4 (V.ren ρ) (by rw [renL_map]; exact List.mem_map.2 ⟨V, hV, rfl⟩)
    rw [Idl.V.ren_cp] at this
    cases V with
    | own z xs => simp [V.ren, V.cp] at this
    | tup vs =>
      simp only [V.cp, V.ren, renL_map, V.tup.injEq, List.map_map] at this ⊢
      have hv := this
      rw [List.map_inj_left] at hv
      conv => rhs; rw [← List.map_id vs]
      rw [List.map_inj_left]
      intro v hv'
      have := hv v hv'
      cases v <;> simp_all [V.ren]
    | _ => rfl

/-- the owners that a callee of few objects sees -/
def shrinkAu (ρ : List Nat) (au : Auth) : Auth := fun b => match au b with
  | some (.obj j, st) => (ρ.idxOf? j).map fun i => (.obj i, st)
  | some (.cell j c, st) => (ρ.idxOf? j).map fun i => (.cell i c, st)
  | _ => none

theorem idxOf_of_get {ρ : List Nat} (hnd : ρ.Nodup) {i j : Nat} (h : ρ[i]? = some j) : ρ.idxOf? j = some i := by
  rw [List.idxOf?_eq_some_iff]
  obtain ⟨hi, rfl⟩ := List.getElem?_eq_some_iff.1 h
  refine ⟨hi, by simp, fun k hk => ?_⟩
  simpa using List.pairwise_iff_getElem.1 hnd k i (by omega) hi hk

theorem get_of_idxOf {ρ : List Nat} {i j : Nat} (h : ρ.idxOf? j = some i) : ρ[i]? = some j := by
  rw [List.idxOf?_eq_some_iff] at h
  obtain ⟨hi, h1, _⟩ := h
  rw [List.getElem?_eq_getElem hi]
  simpa using h1

theorem shrink_some {ρ : List Nat} {au : Auth} {b st : Nat} {h : Holder} (e : shrinkAu ρ au b = some (h, st)) : ∃ h', au b = some (h', st) := by
  unfold shrinkAu at e
  split at e
  · rename_i e'
    rw [Option.map_eq_some_iff] at e
    obtain ⟨_, _, e⟩ := e
    injection e with _ e; subst e; exact ⟨_, e'⟩
  · rename_i e'
    rw [Option.map_eq_some_iff] at e
    obtain ⟨_, _, e⟩ := e
    injection e with _ e; subst e; exact ⟨_, e'⟩
  · cases e

theorem shrink_obj {ρ : List Nat} (hnd : ρ.Nodup) {au : Auth} {i j b st : Nat} (h : ρ[i]? = some j) (e : au b = some (.obj j, st)) : shrinkAu ρ au b = some (.obj i, st) := by
  unfold shrinkAu; rw [e]; simp [idxOf_of_get hnd h]
theorem shrink_cell {ρ : List Nat} (hnd : ρ.Nodup) {au : Auth} {i j b st c : Nat} (h : ρ[i]? = some j) (e : au b = some (.cell j c, st)) : shrinkAu ρ au b = some (.cell i c, st) := by
  unfold shrinkAu; rw [e]; simp [idxOf_of_get hnd h]
theorem shrink_obj_none {ρ : List Nat} {au : Auth} {j b st : Nat} (h : j ∉ ρ) (e : au b = some (.obj j, st)) : shrinkAu ρ au b = none := by
  unfold shrinkAu; rw [e]
  simp [List.idxOf?_eq_none_iff, h]
theorem shrink_cell_none {ρ : List Nat} {au : Auth} {j b st c : Nat} (h : j ∉ ρ) (e : au b = some (.cell j c, st)) : shrinkAu ρ au b = none := by
  unfold shrinkAu; rw [e]
  simp [List.idxOf?_eq_none_iff, h]

/-- the objects of a larger memory, some of them named -/
structure Sub (ρ : List Nat) (hp hpB : List IObj) : Prop where
  len : ρ.length = hp.length
  nd : ρ.Nodup
  ob : ∀ (i j : Nat) o, ρ[i]? = some j → hp[i]? = some o → hpB[j]? = some (o.ren ρ)
  lt : ltObjs hp.length hp = true

section
variable {P : Program} {Φ : CM} {B : List Nat} {au : Auth} {w : World} {args argsB : List V} {hp hpB : List IObj} {cargs : Array Value} {ρ : List Nat}

theorem Sub.get (hs : Sub ρ hp hpB) {i : Nat} (hi : i < ρ.length) : ρ[i]? = some (ρ.getD i 0) := by simp [hi]
theorem Sub.bound (hs : Sub ρ hp hpB) {i j : Nat} (h : ρ[i]? = some j) : j < hpB.length := by
  have hi : i < hp.length := by rw [← hs.len]; exact (List.getElem?_eq_some_iff.1 h).1
  exact (List.getElem?_eq_some_iff.1 (hs.ob i j _ h (List.getElem?_eq_getElem hi))).1

theorem Inv.shrink (h : Inv (Ctx.at_ Φ B au w) Φ B au ⟨argsB, hpB, hpB.length⟩ ⟨cargs, []⟩ w) (hs : Sub ρ hp hpB) (hlt : V.ltL hp.length args = true) (hbare : args.all V.bare = true) (ha : LeTm argsB (V.renL ρ args)) :
    Inv (Ctx.at_ Φ (ρ.map fun j => B.getD j 0) (shrinkAu ρ au) w) Φ (ρ.map fun j => B.getD j 0) (shrinkAu ρ au) ⟨args, hp, hp.length⟩ ⟨cargs, []⟩ w := by
  obtain ⟨l1, l2⟩ := ha.get
  have hB : ∀ (i b : Nat), i < hp.length → B[ρ.getD i 0]? = some b → (ρ.map fun j => B.getD j 0)[i]? = some b := fun i b hi e => by
    rw [List.getElem?_map, hs.get (by rw [hs.len]; exact hi)]
    simp only [Option.map_some, Option.some.injEq]
    rw [List.getD_eq_getElem?_getD (l := B), e]; rfl
  refine { phi := h.phi, phia := fun lb b o v h0 st hp ha => ?_, auw := fun b h0 st e => ⟨?_, .inl (by simp only [Ctx.at_]; rw [e]; simp)⟩, size := Nat.le_refl _, keep := fun _ _ _ => rfl, pre := List.prefix_refl _, lePhi := CM.le_refl _, tl := ?_, tm := fun i V v hV hv => ?_, hl := by simp [hs.len], nb := ⟨by simp [Ctx.at_, hs.len], Nat.le_refl _⟩, hp := fun id o b ho hb => ?_, df := ⟨[], rfl, List.nodup_nil, by simp⟩, rd := fun l hl => (by cases hl), lp := fun l r e => ⟨r, e⟩, src := fun lb b o v e => .inl e, wo := ⟨rfl, rfl, rfl⟩ }
  · obtain ⟨h', e⟩ := shrink_some ha; exact h.phia _ b o v _ _ hp e
  · obtain ⟨h', e⟩ := shrink_some e; exact (h.auw b _ _ e).1
  · have := h.tl
    simp only at this
    rw [← this, l1, renL_map, List.length_map]
  · have hV' : args[i]? = some V := hV
    obtain ⟨V', e1, e2⟩ := l2 i (V.ren ρ) (by rw [renL_map, List.getElem?_map, hV']; rfl)
    obtain ⟨g1, g2⟩ := h.tm i V' v e1 hv
    have hr : RepS Φ B (V.ren ρ) v := by
      rcases e2 with e2 | e2 | e2 | e2
      · rw [e2]; exact g1
      · rw [e2]; exact .un _
      · rw [e2]; exact g1.cp
      · exact (e2.rep (au := au) (w := w) (hd := fun _ => .obj 0) g1).1
    obtain ⟨q1, q2⟩ := bare_of (List.all_eq_true.1 hbare V (List.mem_of_getElem? hV'))
    exact ⟨hr.unren hB (ltL_get hlt i V hV'), OwnV_of_cp q1 q2 _ _ _ _⟩
  · have hid : id < hp.length := (List.getElem?_eq_some_iff.1 ho).1
    have hρ := hs.get (i := id) (by rw [hs.len]; exact hid)
    have hbig := hs.ob id _ o hρ ho
    have hjB : ρ.getD id 0 < B.length := by
      have := h.hl; simp only at this
      rw [← this]; exact hs.bound hρ
    rw [List.getElem?_map, hρ] at hb
    simp only [Option.map_some, Option.some.injEq] at hb
    have hb' : B[ρ.getD id 0]? = some b := by
      rw [List.getElem?_eq_getElem hjB]
      rw [List.getD_eq_getElem?_getD (l := B), List.getElem?_eq_getElem hjB] at hb
      simpa using hb
    have hr := h.hp _ _ b hbig hb'
    exact hr.unren (ltObjs_get hs.lt id o ho) hB (fun e => shrink_obj hs.nd hρ e) (fun j b st e => shrink_cell hs.nd hρ e)

/-- the numbers behind a call -/
def renNew (ρ : List Nat) (n m : Nat) : List Nat := ρ ++ List.range' n m

def setObjs : List IObj → List Nat → List IObj → List IObj
  | h, j :: js, o :: os => setObjs (h.set j o) js os
  | h, _, _ => h

/-- the larger memory behind a call -/
def mergeHp (hpB : List IObj) (ρ : List Nat) (hp' : List IObj) : List IObj :=
  setObjs hpB ρ (hp'.map (IObj.ren (renNew ρ hpB.length (hp'.length - ρ.length)))) ++ (hp'.drop ρ.length).map (IObj.ren (renNew ρ hpB.length (hp'.length - ρ.length)))

theorem setObjs_length : ∀ (js : List Nat) (os : List IObj) (h : List IObj), (setObjs h js os).length = h.length
  | [], _, h => by simp [setObjs]
  | j :: js, [], h => rfl
  | j :: js, o :: os, h => by rw [setObjs, setObjs_length js os, List.length_set]

theorem setObjs_not : ∀ (js : List Nat) (os : List IObj) (h : List IObj) (k : Nat), k ∉ js → (setObjs h js os)[k]? = h[k]?
  | [], os, h, k, _ => by cases os <;> rfl
  | j :: js, [], h, k, _ => rfl
  | j :: js, o :: os, h, k, hk => by
    simp only [List.mem_cons, not_or] at hk
    rw [setObjs, setObjs_not js os _ k hk.2, List.getElem?_set, if_neg (Ne.symm hk.1)]

theorem setObjs_get : ∀ (js : List Nat) (os : List IObj) (h : List IObj) (i j : Nat) (o : IObj), js.Nodup → js[i]? = some j → os[i]? = some o → j < h.length → (setObjs h js os)[j]? = some o
  | [], os, h, i, j, o, _, hj, _, _ => by simp at hj
  | j0 :: js, [], h, i, j, o, _, _, ho, _ => by simp at ho
  | j0 :: js, o0 :: os, h, i, j, o, hnd, hj, ho, hlt => by
    rw [List.nodup_cons] at hnd
    cases i with
    | zero =>
      simp at hj ho; subst hj; subst ho
      rw [setObjs, setObjs_not js os _ _ hnd.1, List.getElem?_set, if_pos rfl, if_pos hlt]
    | succ i =>
      rw [setObjs]
      exact setObjs_get js os _ i j o hnd.2 (by simpa using hj) (by simpa using ho) (by simpa using hlt)

theorem Inv.unshrink {Φ' : CM} {B' : List Nat} {au' : Auth} {r : V} {v : Value} {hp' : List IObj} {n : Nat} {w' : World} (h : Inv (Ctx.at_ Φ B au w) Φ B au ⟨argsB, hpB, hpB.length⟩ ⟨cargs, []⟩ w) (hs : Sub ρ hp hpB)
    (g : Inv (Ctx.at_ Φ (ρ.map fun j => B.getD j 0) (shrinkAu ρ au) w) Φ' B' au' ⟨[r], hp', n⟩ ⟨#[v], []⟩ w') :
    Rel (Ctx.at_ Φ B au w) ⟨[r.ren (renNew ρ hpB.length (hp'.length - ρ.length))], mergeHp hpB ρ hp', hpB.length⟩ ⟨#[v], []⟩ w' := by
  have hBl : hpB.length = B.length := h.hl
  have hkl : ρ.length ≤ hp'.length := by
    have h1 := g.pre.length_le
    have h2 := g.hl
    simp only [Ctx.at_, List.length_map] at h1 h2
    rw [h2]; exact h1
  have hB'l : hp'.length = B'.length := g.hl
  generalize hρ' : renNew ρ hpB.length (hp'.length - ρ.length) = ρ' at *
  have hmine : ∀ b, (Ctx.at_ Φ (ρ.map fun j => B.getD j 0) (shrinkAu ρ au) w).mine b ↔ shrinkAu ρ au b ≠ none := fun b => Iff.rfl
  -- the blocks under the new numbers
  have hBB : ∀ (i b : Nat), B'[i]? = some b → (B ++ B'.drop ρ.length)[ρ'.getD i 0]? = some b := by
    intro i b e
    have hi : i < B'.length := (List.getElem?_eq_some_iff.1 e).1
    by_cases hik : i < ρ.length
    · have e1 : ρ'.getD i 0 = ρ.getD i 0 := by
        rw [← hρ', renNew, List.getD_eq_getElem?_getD, List.getElem?_append_left hik, ← List.getD_eq_getElem?_getD]
      have hj := hs.bound (hs.get hik)
      rw [e1, List.getElem?_append_left (by rw [← hBl]; exact hj)]
      obtain ⟨t, ht⟩ := g.pre
      simp only [Ctx.at_] at ht
      rw [← ht, List.getElem?_append_left (by simpa using hik), List.getElem?_map, hs.get hik] at e
      simp only [Option.map_some, Option.some.injEq] at e
      rw [List.getElem?_eq_getElem (by rw [← hBl]; exact hj)]
      rw [List.getD_eq_getElem?_getD (l := B), List.getElem?_eq_getElem (by rw [← hBl]; exact hj)] at e
      simpa using e
    · have e1 : ρ'.getD i 0 = hpB.length + (i - ρ.length) := by
        rw [← hρ', renNew, List.getD_eq_getElem?_getD, List.getElem?_append_right (by omega), List.getElem?_range' (by omega)]
        simp
      rw [e1, List.getElem?_append_right (by omega), List.getElem?_drop, hBl]
      rw [show ρ.length + (B.length + (i - ρ.length) - B.length) = i by omega]; exact e
  have hrid : ∀ (i : Nat), i < hp'.length → (mergeHp hpB ρ hp')[ρ'.getD i 0]? = (hp'[i]?).map (IObj.ren ρ') := by
    intro i hi
    unfold mergeHp
    rw [hρ']
    by_cases hik : i < ρ.length
    · have e1 : ρ'.getD i 0 = ρ.getD i 0 := by
        rw [← hρ', renNew, List.getD_eq_getElem?_getD, List.getElem?_append_left hik, ← List.getD_eq_getElem?_getD]
      have hj := hs.bound (hs.get hik)
      rw [e1, List.getElem?_append_left (by rw [setObjs_length]; exact hj), List.getElem?_eq_getElem hi]
      exact setObjs_get ρ _ _ i _ _ hs.nd (hs.get hik) (by rw [List.getElem?_map, List.getElem?_eq_getElem hi]; rfl) hj
    · have e1 : ρ'.getD i 0 = hpB.length + (i - ρ.length) := by
        rw [← hρ', renNew, List.getD_eq_getElem?_getD, List.getElem?_append_right (by omega), List.getElem?_range' (by omega)]
        simp
      rw [e1, List.getElem?_append_right (by rw [setObjs_length]; omega), setObjs_length, List.getElem?_map, List.getElem?_drop]
      rw [show ρ.length + (hpB.length + (i - ρ.length) - hpB.length) = i by omega]
  have hml : (mergeHp hpB ρ hp').length = hpB.length + (hp'.length - ρ.length) := by
    unfold mergeHp
    rw [List.length_append, setObjs_length, List.length_map, List.length_drop]
  let au2 : Auth := fun b => if b < w.heap.size ∧ shrinkAu ρ au b = none then au b else (au' b).map fun x => (x.1.ren ρ', x.2)
  have anew : ∀ b h0 st, au' b = some (h0, st) → au2 b = some (h0.ren ρ', st) := by
    intro b h0 st e
    have : ¬ (b < w.heap.size ∧ shrinkAu ρ au b = none) := by
      rintro ⟨h1, h2⟩
      rcases (g.auw b _ _ e).2 with x | x
      · exact x h2
      · exact absurd h1 (Nat.not_lt.2 x)
    simp only [au2]; rw [if_neg this, e]; rfl
  have aold : ∀ b h0 st, au b = some (h0, st) → shrinkAu ρ au b = none → au2 b = some (h0, st) ∧ w'.heap[b]? = w.heap[b]? := by
    intro b h0 st e hn
    have hlt := (h.auw b _ _ e).1
    refine ⟨by simp only [au2]; rw [if_pos ⟨hlt, hn⟩]; exact e, g.keep b hlt fun hm => hm hn⟩
  have ainv : ∀ b h0 st, au2 b = some (h0, st) → (b < w.heap.size ∧ shrinkAu ρ au b = none ∧ au b = some (h0, st)) ∨ ∃ h1, au' b = some (h1, st) := by
    intro b h0 st e
    simp only [au2] at e
    split at e
    · rename_i hc; exact .inl ⟨hc.1, hc.2, e⟩
    · rw [Option.map_eq_some_iff] at e
      obtain ⟨⟨h1, st1⟩, e1, e2⟩ := e
      injection e2 with _ e2; simp only at e2; subst e2; exact .inr ⟨_, e1⟩
  have hsome : ∀ b, shrinkAu ρ au b ≠ none → au b ≠ none := by
    intro b hb e
    apply hb; unfold shrinkAu; rw [e]
  refine ⟨Φ', B ++ B'.drop ρ.length, au2, { phi := g.phi, phia := fun lb b o v h0 st hp e => ?_, auw := fun b h0 st e => ?_, size := g.size, keep := fun b hb hm => g.keep b hb fun hm' => hm (hsome b hm'), pre := List.prefix_append _ _, lePhi := g.lePhi, tl := rfl, tm := fun i V u hV hu => ?_, hl := ?_, nb := ⟨by simp only [Ctx.at_]; rw [hBl]; exact Nat.le_refl _, by show hpB.length ≤ (mergeHp hpB ρ hp').length; rw [hml]; omega⟩, hp := fun id o b ho hb => ?_, df := ⟨[], rfl, List.nodup_nil, by simp⟩, rd := fun l hl => (by cases hl), lp := g.lp, src := fun lb b o v e => ?_, wo := g.wo }⟩
  · rcases ainv b h0 st e with ⟨h1, h2, h3⟩ | ⟨h1, e'⟩
    · rcases g.src _ b o v hp with x | x | x
      · exact h.phia _ b o v _ _ x h3
      · exact absurd h2 x
      · exact absurd h1 (Nat.not_lt.2 x)
    · exact g.phia _ b o v _ _ hp e'
  · rcases ainv b h0 st e with ⟨h1, h2, h3⟩ | ⟨h1, e'⟩
    · exact ⟨Nat.lt_of_lt_of_le h1 g.size, .inl (by simp only [Ctx.at_]; rw [h3]; simp)⟩
    · refine ⟨(g.auw b _ _ e').1, ?_⟩
      rcases (g.auw b _ _ e').2 with x | x
      · exact .inl (hsome b x)
      · exact .inr x
  · cases i with
    | succ i => simp at hV
    | zero =>
      simp at hV hu; subst hV; subst hu
      obtain ⟨k1, k2⟩ := g.tm 0 r v rfl rfl
      refine ⟨k1.ren hBB, k2.ren fun j b st e => ⟨?_, rfl⟩⟩
      exact anew b _ _ e
  · show (mergeHp hpB ρ hp').length = _
    rw [hml, List.length_append, List.length_drop, hBl, hB'l]
  · -- an object
    have ho' : (mergeHp hpB ρ hp')[id]? = some o := ho
    have small : ∀ i, i < hp'.length → id = ρ'.getD i 0 → RepO Φ' (B ++ B'.drop ρ.length) au2 w' id b o := by
      rintro i hi rfl
      rw [hrid i hi, List.getElem?_eq_getElem hi] at ho'
      simp only [Option.map_some, Option.some.injEq] at ho'
      subst ho'
      have hiB : i < B'.length := by rw [← hB'l]; exact hi
      have hbi := hBB i _ (List.getElem?_eq_getElem hiB)
      rw [hb] at hbi; injection hbi with hbi
      have hr := g.hp i _ b (List.getElem?_eq_getElem hi) (by rw [hbi]; exact List.getElem?_eq_getElem hiB)
      exact hr.ren (CM.le_refl _) hBB (fun e => ⟨anew b _ _ e, rfl⟩) (fun j b st e => ⟨anew b _ _ e, rfl⟩)
    by_cases hid : id < hpB.length
    · by_cases hmem : id ∈ ρ
      · obtain ⟨i, hi, rfl⟩ := List.getElem_of_mem hmem
        refine small i (by omega) ?_
        rw [← hρ', renNew, List.getD_eq_getElem?_getD, List.getElem?_append_left hi, List.getElem?_eq_getElem hi]; rfl
      · unfold mergeHp at ho'
        rw [List.getElem?_append_left (by rw [setObjs_length]; exact hid), setObjs_not _ _ _ _ hmem] at ho'
        rw [List.getElem?_append_left (by rw [← hBl]; exact hid)] at hb
        have hr := h.hp id o b ho' hb
        refine hr.mono g.lePhi (fun i b e => by rw [List.getElem?_append_left (List.getElem?_eq_some_iff.1 e).1]; exact e) (fun e => aold b _ _ e (shrink_obj_none hmem e)) (fun j b st e => aold b _ _ e (shrink_cell_none hmem e))
    · have hidl : id < hpB.length + (hp'.length - ρ.length) := by rw [← hml]; exact (List.getElem?_eq_some_iff.1 ho').1
      refine small (ρ.length + (id - hpB.length)) (by omega) ?_
      rw [← hρ', renNew, List.getD_eq_getElem?_getD, List.getElem?_append_right (by omega), List.getElem?_range' (by omega)]
      simp; omega
  · rcases g.src _ b o v e with x | x | x
    · exact .inl x
    · exact .inr (.inl (hsome b x))
    · exact .inr (.inr x)

/-- **A call in a larger memory.** -/
theorem callK_frame {f : FuncId} {K K' : V → List IObj → Prop} (h : CallK P f args hp K) (ρ : List Nat) (hs : Sub ρ hp hpB) (hlt : V.ltL hp.length args = true) (hbare : args.all V.bare = true) (ha : LeTm argsB (V.renL ρ args))
    (hk : ∀ r hp', K r hp' → K' (r.ren (renNew ρ hpB.length (hp'.length - ρ.length))) (mergeHp hpB ρ hp')) : CallK P f argsB hpB K' := by
  intro Φ B au w cargs hi
  refine (h Φ _ _ w cargs (hi.shrink hs hlt hbare ha)).mono ?_
  rintro e w' ⟨v, r, hp', rfl, hK, Φ', B', au', g⟩
  exact ⟨v, _, _, rfl, hk r hp' hK, hi.unshrink hs g⟩

/-- **A round in a larger memory.** -/
theorem roundK_frame {id : Nat} {K K' : V → List IObj → Prop} (h : RoundK P id args hp K) (ρ : List Nat) (hs : Sub ρ hp hpB) (hid : id < hp.length) (hlt : V.ltL hp.length args = true) (hbare : args.all V.bare = true) (ha : LeTm argsB (V.renL ρ args))
    (hk : ∀ r hp', K r hp' → K' (r.ren (renNew ρ hpB.length (hp'.length - ρ.length))) (mergeHp hpB ρ hp')) : RoundK P (ρ.getD id 0) argsB hpB K' := by
  intro Φ B au w cargs b hi hb
  have hρ := hs.get (i := id) (by rw [hs.len]; exact hid)
  obtain ⟨fn, tmps, asg, body, q1, q2⟩ := h Φ _ _ w cargs b (hi.shrink hs hlt hbare ha) (by
    rw [List.getElem?_map, hρ]; simp only [Option.map_some]
    rw [List.getD_eq_getElem?_getD (l := B), hb]; rfl)
  refine ⟨fn, tmps, asg, body, q1, RoundIn.mono q2 ?_⟩
  rintro e w' ⟨v, r, hp', rfl, hK, Φ', B', au', g⟩
  exact ⟨v, _, _, rfl, hk r hp' hK, hi.unshrink hs g⟩
end

/-! ### Slices that are lent -/
mutual
/-- nothing in it is lent -/
def D.permP : D → Prop
  | .sl l _ xs => l = false ∧ D.permL xs
  | .agg cs => D.permL cs
  | _ => True
def D.permL : List D → Prop
  | [] => True
  | d :: ds => D.permP d ∧ D.permL ds
end

theorem permL_mem : ∀ {ds : List D}, D.permL ds → ∀ d ∈ ds, d.permP
  | d :: ds, h, x, hx => by
    simp only [D.permL] at h
    rcases List.mem_cons.1 hx with rfl | hx
    · exact h.1
    · exact permL_mem h.2 x hx
theorem permL_of : ∀ {ds : List D}, (∀ d ∈ ds, d.permP) → D.permL ds
  | [], _ => by simp [D.permL]
  | d :: ds, h => by
    simp only [D.permL]
    exact ⟨h d (by simp), permL_of fun x hx => h x (by simp [hx])⟩
theorem permL_map {α : Type} {f : α → D} {l : List α} (h : ∀ x ∈ l, (f x).permP) : D.permL (l.map f) := permL_of fun d hd => by
  obtain ⟨x, hx, rfl⟩ := List.mem_map.1 hd; exact h x hx
theorem permP_flat {d : D} (h : d.permP) : D.permL d.flat := by
  cases d <;> simp_all [D.flat, D.permL, D.permP]

section
variable {Φ Ψ : CM}
mutual
theorem RepD.perm (h : ∀ b o v, Φ false b o = some v → Ψ false b o = some v) : ∀ {d : D} {v : Value}, d.permP → RepD Φ d v → RepD Ψ d v
  | _, _, _, .int k n => .int k n
  | _, _, _, .bool b => .bool b
  | _, _, _, .str b => .str b
  | _, _, _, .con v hv => .con v hv
  | _, _, hp, .agg hl => .agg (RepL.perm h (by simpa [D.permP] using hp) hl)
  | _, _, _, .sl0 => .sl0
  | .sl _ _ _, _, hp, .sl a b e => .sl a b (ElemsAt.perm h (by simp only [D.permP] at hp; exact hp.1) (by simp only [D.permP] at hp; exact hp.2) e)
theorem RepL.perm (h : ∀ b o v, Φ false b o = some v → Ψ false b o = some v) : ∀ {d : List D} {v : List Value}, D.permL d → RepL Φ d v → RepL Ψ d v
  | _, _, _, .nil => .nil
  | _, _, hp, .cons o a b => by
    simp only [D.permL] at hp
    exact .cons o (RepD.perm h hp.1 a) (RepL.perm h hp.2 b)
theorem ElemsAt.perm (h : ∀ b o v, Φ false b o = some v → Ψ false b o = some v) : ∀ {l : Bool} {z b o : Nat} {xs : List D}, l = false → D.permL xs → ElemsAt Φ l z b o xs → ElemsAt Ψ l z b o xs
  | _, _, _, _, _, _, _, .nil => .nil
  | _, _, _, _, _, hl, hp, .cons e c t => by
    simp only [D.permL] at hp
    exact .cons e (CellsAt.perm h hl (permP_flat hp.1) c) (ElemsAt.perm h hl hp.2 t)
theorem CellsAt.perm (h : ∀ b o v, Φ false b o = some v → Ψ false b o = some v) : ∀ {l : Bool} {b o : Nat} {ds : List D}, l = false → D.permL ds → CellsAt Φ l b o ds → CellsAt Ψ l b o ds
  | _, _, _, _, _, _, .nil => .nil
  | _, _, _, _, hl, hp, .cons e ok d t => by
    simp only [D.permL] at hp
    exact .cons (by subst hl; exact h _ _ _ e) ok (RepD.perm h hp.1 d) (CellsAt.perm h hl hp.2 t)
end
end

/-- nothing in it is lent -/
def V.permP : V → Prop
  | .d x => x.permP
  | .own _ xs => D.permL xs
  | .nil _ => True
  | .tup vs => ∀ v ∈ vs, (match v with | .d x => x.permP | .own _ xs => D.permL xs | .nil _ => True | _ => False)
  | _ => False

/-- a value, lent -/
def lend1 (hp : List IObj) : V → Option D
  | .ref id z off len cap => match hp[id]? with
    | some (.arr z' xs) => if z' = z ∧ 0 < z ∧ len ≤ cap ∧ off + cap ≤ xs.length then some (.sl true z ((xs.drop off).take len)) else none
    | _ => none
  | v => v.d?
def lendL1 (hp : List IObj) : List V → Option (List D)
  | [] => some []
  | v :: vs => match lend1 hp v, lendL1 hp vs with
    | some d, some ds => some (d :: ds)
    | _, _ => none
def lendV (hp : List IObj) : V → Option D
  | .st cs => (lendL1 hp cs).map .agg
  | v => lend1 hp v
def lendL (hp : List IObj) : List V → Option (List D)
  | [] => some []
  | v :: vs => match lendV hp v, lendL hp vs with
    | some d, some ds => some (d :: ds)
    | _, _ => none

theorem lendL1_get {hp : List IObj} : ∀ {vs : List V} {ds : List D}, lendL1 hp vs = some ds → vs.length = ds.length ∧ ∀ (j : Nat) d, ds[j]? = some d → ∃ v, vs[j]? = some v ∧ lend1 hp v = some d
  | [], _, h => by simp [lendL1] at h; subst h; simp
  | v :: vs, ds, h => by
    simp only [lendL1] at h
    split at h
    · rename_i x y e1 e2
      injection h with h; subst h
      obtain ⟨h1, h2⟩ := lendL1_get e2
      refine ⟨by simp [h1], fun j d hj => ?_⟩
      cases j with
      | zero => simp at hj; subst hj; exact ⟨v, rfl, e1⟩
      | succ j => simpa using h2 j d (by simpa using hj)
    · cases h
theorem lendL_get {hp : List IObj} : ∀ {vs : List V} {ds : List D}, lendL hp vs = some ds → vs.length = ds.length ∧ ∀ (j : Nat) d, ds[j]? = some d → ∃ v, vs[j]? = some v ∧ lendV hp v = some d
  | [], _, h => by simp [lendL] at h; subst h; simp
  | v :: vs, ds, h => by
    simp only [lendL] at h
    split at h
    · rename_i x y e1 e2
      injection h with h; subst h
      obtain ⟨h1, h2⟩ := lendL_get e2
      refine ⟨by simp [h1], fun j d hj => ?_⟩
      cases j with
      | zero => simp at hj; subst hj; exact ⟨v, rfl, e1⟩
      | succ j => simpa using h2 j d (by simpa using hj)
    · cases h

/-- a block of an array's -/
def ArrBlock (hp : List IObj) (au : Auth) (b : Nat) : Prop := ∃ id z xs, au b = some (.obj id, 0) ∧ hp[id]? = some (.arr z xs)

section
variable {P : Program} {κ : Ctx} {Φ Ψ : CM} {B : List Nat} {au : Auth} {s : St} {a : Act} {w : World} {hp : List IObj}

/-- what lies in an array, where its cells are known -/
theorem arr_elems (h : Inv κ Φ B au s a w) {l : Bool} {id z off len cap b : Nat} {xs : List D} {ad : Option Addr} (e : s.hp[id]? = some (.arr z xs)) (hz0 : 0 < z) (hlc : len ≤ cap) (hoc : off + len ≤ xs.length) (hr : RepS Φ B (.ref id z off len cap) (.slice ad len cap))
    (hle : Φ.le Ψ) (hΨ : ∀ b o v, ArrBlock s.hp au b → w.cell? ⟨b, o, none⟩ = some v → Ψ l b o = some v) : RepD Ψ (.sl l z ((xs.drop off).take len)) (.slice ad len cap) := by
  by_cases hl0 : len = 0
  · subst hl0; rw [List.take_zero]; exact .sl0
  · have hne : xs ≠ [] := by rintro rfl; simp at hoc; omega
    obtain ⟨b, c, el, hb, h1, h2, h3, h4⟩ := h.arrAt e hne
    cases hr with
    | ref0 => omega
    | ref hb' hle' had =>
      rw [hb] at hb'; injection hb' with hb'; subst hb'
      obtain rfl := had (by omega)
      have hlen : ((xs.drop off).take len).length = len := by simp; omega
      have hel : ElemsAt Ψ l z b (off * z) ((xs.drop off).take len) := by
        refine .of fun i x hi => ?_
        rw [List.getElem?_take] at hi
        split at hi
        · rw [List.getElem?_drop] at hi
          obtain ⟨g1, g2⟩ := h4 _ x hi
          refine ⟨g1, .of fun j d hj => ?_⟩
          obtain ⟨v, k1, k2, k3⟩ := g2 j d hj
          refine ⟨v, hΨ _ _ _ ⟨id, z, xs, h1, e⟩ ?_, k2, k3.mono hle⟩
          rw [cell_of h2, ← k1]; congr 1; rw [Nat.add_mul]
        · cases hi
      have := RepD.sl (Φ := Ψ) (cap := cap) (xs := (xs.drop off).take len) (by intro h0; rw [h0] at hlen; simp at hlen; omega) (by omega) hel
      rw [hlen] at this; exact this

/-- **A call of a function of data, to which slices are lent.** -/
theorem callK_lend {f : FuncId} {ds : List D} {args : List V} {r : V} {K : V → List IObj → Prop} (h : PCall P f ds r) (ha : lendL hp args = some ds) (hd : r.data = true) (hpm : r.permP) (hk : K r hp) : CallK P f args hp K := by
  obtain ⟨al, ag⟩ := lendL_get ha
  intro Φ B au w cargs hi
  classical
  let Ψ : CM := fun l b o => match Φ l b o with
    | some v => some v
    | none => if l = true ∧ ArrBlock hp au b then w.cell? ⟨b, o, none⟩ else none
  have hle : Φ.le Ψ := fun l b o v e => by simp only [Ψ, e]
  have hfalse : ∀ b o v, Ψ false b o = some v → Φ false b o = some v := fun b o v e => by
    simp only [Ψ] at e
    split at e
    · rename_i e'; rw [e']; exact e
    · simp at e
  have htrue : ∀ b o v, ArrBlock hp au b → w.cell? ⟨b, o, none⟩ = some v → Ψ true b o = some v := fun b o v hb e => by
    simp only [Ψ]
    split
    · rename_i e'
      have := hi.phi _ _ _ _ e'
      rw [this] at e; exact e
    · rw [if_pos (by simpa using hb)]; exact e
  have one : ∀ (V : V) (d : D) (v : Value), lend1 hp V = some d → RepS Φ B V v → RepD Ψ d v := by
    intro V d v e hr
    unfold lend1 at e
    split at e
    · rename_i id z off len cap
      split at e
      · rename_i z' xs ehp
        split at e
        · rename_i hc
          obtain ⟨rfl, hz0, hlc, hoc⟩ := hc
          injection e with e; subst e
          obtain ⟨ad, rfl⟩ : ∃ ad, v = .slice ad len cap := by cases hr <;> exact ⟨_, rfl⟩
          exact arr_elems (b := 0) hi ehp hz0 hlc (by omega) hr hle htrue
        · cases e
      · cases e
    · exact (rep_d? hr e).mono hle
  have h0 : Inv (Ctx.at_ Ψ [] (fun _ => none) w) Ψ [] (fun _ => none) ⟨ds.map V.d, [], ([] : List IObj).length⟩ ⟨cargs, []⟩ w := by
    refine { phi := fun lb b o v e => ?_, phia := fun _ _ _ _ _ _ _ e => (by cases e), auw := fun _ _ _ e => (by cases e), size := Nat.le_refl _, keep := fun _ _ _ => rfl, pre := List.prefix_refl _, lePhi := CM.le_refl _, tl := by have := hi.tl; simpa [al] using this, tm := fun i V v hV hv => ?_, hl := rfl, nb := ⟨Nat.le_refl _, Nat.le_refl _⟩, hp := fun id o b ho => (by simp at ho), df := ⟨[], rfl, List.nodup_nil, by simp⟩, rd := fun l hl => (by cases hl), lp := fun l r e => ⟨r, e⟩, src := fun lb b o v e => .inl e, wo := ⟨rfl, rfl, rfl⟩ }
    · simp only [Ψ] at e
      split at e
      · rename_i e'; injection e with e; subst e; exact hi.phi _ _ _ _ e'
      · split at e
        · exact e
        · cases e
    · have hV' : (ds.map Idl.V.d)[i]? = some V := hV
      simp only [List.getElem?_map, Option.map_eq_some_iff] at hV'
      obtain ⟨d, hd', rfl⟩ := hV'
      obtain ⟨V', e1, e2⟩ := ag i d hd'
      have hr := (hi.tm i V' v e1 hv).1
      refine ⟨.d ?_, trivial⟩
      unfold lendV at e2
      split at e2
      · rename_i cs
        rw [Option.map_eq_some_iff] at e2
        obtain ⟨es, e3, rfl⟩ := e2
        obtain ⟨q1, q2⟩ := lendL1_get e3
        cases hr with
        | st hl ok q =>
          obtain ⟨p1, p2⟩ := hl.get
          refine .agg (RepL.of (by omega) fun j d c hd hc => ?_)
          obtain ⟨U, u1, u2⟩ := q2 j d hd
          exact ⟨ok c (List.mem_of_getElem? hc), one U d c u2 (p2 j U c u1 hc)⟩
      · exact one _ d v e2 hr
  refine (h Ψ [] (fun _ => none) w cargs h0).mono ?_
  rintro e w' ⟨v, r', hp', rfl, rfl, Φ', B', au', g⟩
  let Φ2 : CM := fun l b o => if b < w.heap.size then Φ l b o else Φ' l b o
  have hlt : ∀ l b o v, Φ l b o = some v → b < w.heap.size := fun l b o v e => by
    have := hi.phi _ _ _ _ e
    unfold World.cell? at this
    cases e' : w.heap[b]? with
    | none => simp [e'] at this
    | some x => exact lt_of_heap e'
  have hle2 : Φ.le Φ2 := fun l b o v e => by simp only [Φ2]; rw [if_pos (hlt l b o v e)]; exact e
  have hf2 : ∀ b o v, Φ' false b o = some v → Φ2 false b o = some v := fun b o v e => by
    rcases g.src _ b o v e with x | x | x
    · exact hle2 _ _ _ _ (hfalse b o v x)
    · simp [Ctx.at_] at x
    · have x' : w.heap.size ≤ b := x
      simp only [Φ2]; rw [if_neg (Nat.not_lt.2 x')]; exact e
  refine ⟨v, r', hp, rfl, hk, Φ2, B, fun b => if b < w.heap.size then au b else match au' b with | some (.slot i j, st) => some (.slot i j, st) | _ => none, ?_⟩
  have hkeep : ∀ b, b < w.heap.size → w'.heap[b]? = w.heap[b]? := fun b hb => g.keep b hb (by simp [Ctx.at_])
  have hnew : ∀ b h0 st, au' b = some (h0, st) → ¬ b < w.heap.size := by
    intro b h0 st e
    rcases (g.auw b h0 st e).2 with x | x
    · simp [Ctx.at_] at x
    · exact Nat.not_lt.2 x
  have hau : ∀ b h0 st, au b = some (h0, st) → (if b < w.heap.size then au b else match au' b with | some (.slot i j, st) => some (.slot i j, st) | _ => none) = some (h0, st) := fun b h0 st e => by
    rw [if_pos (hi.auw b h0 st e).1]; exact e
  refine { phi := fun lb b o v e => ?_, phia := fun lb b o v h0 st hp e => ?_, auw := fun b h0 st e => ?_, size := g.size, keep := fun b hb _ => hkeep b hb, pre := List.prefix_refl _, lePhi := hle2, tl := rfl, tm := fun i V u hV hu => ?_, hl := hi.hl, nb := ⟨by have := hi.hl; simp only [Ctx.at_]; simp only at this; omega, Nat.le_refl _⟩, hp := fun id o b ho hb => ?_, df := ⟨[], rfl, List.nodup_nil, by simp⟩, rd := fun l hl => (by cases hl), lp := g.lp, src := fun lb b o v e => ?_, wo := g.wo }
  · simp only [Φ2] at e
    split at e
    · exact g.phi _ b o v (g.lePhi _ _ _ _ (hle _ _ _ _ e))
    · exact g.phi _ b o v e
  · simp only [Φ2] at hp
    split at e
    · rename_i hb; rw [if_pos hb] at hp; exact hi.phia _ b o v h0 st hp e
    · rename_i hb; rw [if_neg hb] at hp
      split at e
      · rename_i e'; injection e with e; injection e with e1 e2; subst e1; subst e2; exact g.phia _ b o v _ _ hp e'
      · cases e
  · split at e
    · rename_i hb; exact ⟨Nat.lt_of_lt_of_le hb g.size, .inl (by simp only [Ctx.at_]; rw [e]; simp)⟩
    · rename_i hb
      split at e
      · rename_i e'; exact ⟨(g.auw b _ _ e').1, .inr (Nat.le_of_not_lt hb)⟩
      · cases e
  · cases i with
    | succ i => simp at hV
    | zero =>
      simp at hV hu; subst hV; subst hu
      obtain ⟨k1, k2⟩ := g.tm 0 r' v rfl rfl
      refine ⟨?_, k2.mono fun j b st e => ⟨?_, rfl⟩⟩
      · cases k1 with
        | d x => exact .d (x.perm hf2 hpm)
        | own x => exact .own (x.perm hf2 (by simp only [D.permP]; exact ⟨trivial, hpm⟩))
        | nil => exact .nil
        | tup hl =>
          obtain ⟨p1, p2⟩ := hl.get
          simp only [V.permP] at hpm
          refine .tup (RepSL.of p1 fun j V c hV hc => ?_)
          have hm := hpm V (List.mem_of_getElem? hV)
          have hr := p2 j V c hV hc
          cases hr with
          | d x => exact .d (x.perm hf2 hm)
          | own x => exact .own (x.perm hf2 (by simp only [D.permP]; exact ⟨trivial, hm⟩))
          | nil => exact .nil
          | _ => exact hm.elim
        | _ => exact hpm.elim
      · rw [if_neg (hnew b _ _ e), e]
  · exact (hi.hp id o b ho hb).mono hle2 (fun _ _ h => h) (fun e => ⟨hau b _ _ e, hkeep b (hi.auw b _ _ e).1⟩) (fun j b st e => ⟨hau b _ _ e, hkeep b (hi.auw b _ _ e).1⟩)
  · simp only [Φ2] at e
    split at e
    · exact .inl e
    · rename_i hb; exact .inr (.inr (Nat.le_of_not_lt hb))

/-! ### Results that are frozen -/
/-- an array's slice, as data -/
def frz1 (hp : List IObj) : V → V
  | .ref id z off len cap => match hp[id]? with
    | some (.arr z' xs) => if z' = z ∧ 0 < z ∧ len ≤ cap ∧ off + len ≤ xs.length then .d (.sl false z ((xs.drop off).take len)) else .ref id z off len cap
    | _ => .ref id z off len cap
  | v => v
def frz2 (hp : List IObj) : V → V
  | .st cs => mkAgg (cs.map (frz1 hp))
  | v => frz1 hp v
def frzV (hp : List IObj) : V → V
  | .tup vs => .tup (vs.map (frz2 hp))
  | v => frz2 hp v

/-- data alone -/
def V.data1 : V → Bool
  | .d _ | .own _ _ | .nil _ => true
  | _ => false

/-- a result that says no more -/
inductive LeR : V → V → Prop
  | one {v u} : v.data1 = true → (u = v ∨ u = v.cp ∨ NilLe v u) → LeR v u
  | tup {vs us} : vs.length = us.length → (∀ (i : Nat) v u, vs[i]? = some v → us[i]? = some u → v.data1 = true ∧ (u = v ∨ u = v.cp ∨ NilLe v u)) → LeR (.tup vs) (.tup us)

/-- **A function of data, that makes what it answers.** -/
theorem fcall_frz {f : FuncId} {args : List V} {r : V} (h : CallK P f args [] fun r' hp' => LeR (frzV hp' r') r) : CallK P f args [] fun r' _ => r' = r := by
  intro Φ B au w cargs hi
  refine (h Φ B au w cargs hi).mono ?_
  rintro e w' ⟨v, r', hp', rfl, hle, Φ', B', au', g⟩
  classical
  let Ψ : CM := fun l b o => match Φ' l b o with
    | some v => some v
    | none => if ArrBlock hp' au' b then w'.cell? ⟨b, o, none⟩ else none
  have hleΨ : Φ'.le Ψ := fun l b o v e => by simp only [Ψ, e]
  have hΨ : ∀ l b o v, ArrBlock hp' au' b → w'.cell? ⟨b, o, none⟩ = some v → Ψ l b o = some v := fun l b o v hb e => by
    simp only [Ψ]
    split
    · rename_i e'
      have := g.phi _ _ _ _ e'
      rw [this] at e; exact e
    · rw [if_pos hb]; exact e
  let au2 : Auth := fun b => match au' b with | some (.slot i j, st) => some (.slot i j, st) | _ => none
  have hau2 : ∀ b h0 st, au2 b = some (h0, st) → au' b = some (h0, st) ∧ ∃ i j, h0 = .slot i j := fun b h0 st e => by
    simp only [au2] at e
    split at e
    · rename_i e'; injection e with e; injection e with e1 e2; subst e1; subst e2; exact ⟨e', _, _, rfl⟩
    · cases e
  have hslot : ∀ b i j st, au' b = some (.slot i j, st) → au2 b = some (.slot i j, st) := fun b i j st e => by simp only [au2, e]
  have c1 : ∀ (V : V) (v : Value) (hd : Nat → Nat), RepS Φ' B' V v → OwnV au' w' (fun j => .slot 0 (hd j)) V v → (frz1 hp' V).data1 = true → RepS Ψ B (frz1 hp' V) v ∧ OwnV au2 w' (fun j => .slot 0 (hd j)) (frz1 hp' V) v := by
    intro V v hd hr ho hdat
    cases V with
    | d x => cases hr with | d x => exact ⟨.d (x.mono hleΨ), trivial⟩
    | own z xs => cases hr with | own x => exact ⟨.own (x.mono hleΨ), OwnV.mono (V := .own z xs) ho fun j b st e => ⟨hslot b _ _ _ e, rfl⟩⟩
    | nil z => cases hr with | nil => exact ⟨.nil, trivial⟩
    | ref id z off len cap =>
      simp only [frz1] at hdat ⊢
      split at hdat
      · rename_i z' xs ehp
        split at hdat
        · rename_i hc
          rw [if_pos hc]
          obtain ⟨rfl, hz0, hlc, hoc⟩ := hc
          obtain ⟨ad, rfl⟩ : ∃ ad, v = .slice ad len cap := by cases hr <;> exact ⟨_, rfl⟩
          exact ⟨.d (arr_elems (b := 0) g ehp hz0 hlc hoc hr hleΨ (hΨ false)), trivial⟩
        · simp [V.data1] at hdat
      · simp [V.data1] at hdat
    | _ => simp [frz1, V.data1] at hdat
  have c2 : ∀ (V : V) (v : Value) (hd : Nat → Nat), RepS Φ' B' V v → OwnV au' w' (fun j => .slot 0 (hd j)) V v → (frz2 hp' V).data1 = true → RepS Ψ B (frz2 hp' V) v ∧ OwnV au2 w' (fun j => .slot 0 (hd j)) (frz2 hp' V) v := by
    intro V v hd hr ho hdat
    by_cases hst : ∃ cs, V = .st cs
    · obtain ⟨cs, rfl⟩ := hst
      simp only [frz2] at hdat ⊢
      unfold mkAgg at hdat ⊢
      cases e : allD (cs.map (frz1 hp')) with
      | none => rw [e] at hdat; simp [V.data1] at hdat
      | some es =>
        simp only
        obtain ⟨q1, q2⟩ := allD_get e
        cases hr with
        | st hl ok q =>
          obtain ⟨p1, p2⟩ := hl.get
          refine ⟨.d (.agg (RepL.of (by rw [← q1, List.length_map]; exact p1) fun j d c hd' hc => ⟨ok c (List.mem_of_getElem? hc), ?_⟩)), trivial⟩
          obtain ⟨U, u1, u2⟩ := q2 j d hd'
          rw [List.getElem?_map, Option.map_eq_some_iff] at u1
          obtain ⟨U', u1, rfl⟩ := u1
          have hcp := (q U' (List.mem_of_getElem? u1))
          have hU' : ∀ au w h, OwnV au w h U' c := OwnV_of_cp hcp.1 (by cases U' <;> simp_all [V.known, V.isTup]) |> fun f au w h => f au w h c
          have hdd : (frz1 hp' U').data1 = true := by
            generalize frz1 hp' U' = X at u2
            cases X <;> simp [V.d?] at u2 <;> rfl
          exact rep_d? (c1 U' c (fun j => j) (p2 j U' c u1 hc) (hU' _ _ _) hdd).1 u2
    · have e : frz2 hp' V = frz1 hp' V := by cases V <;> first | rfl | exact absurd ⟨_, rfl⟩ hst
      rw [e] at hdat ⊢
      exact c1 V v hd hr ho hdat
  have up : ∀ (X U : Idl.V) (v : Value) (hd : Nat → Nat), RepS Ψ B X v ∧ OwnV au2 w' (fun j => .slot 0 (hd j)) X v → (U = X ∨ U = X.cp ∨ NilLe X U) → RepS Ψ B U v ∧ OwnV au2 w' (fun j => .slot 0 (hd j)) U v := by
    rintro X U v hd ⟨h1, h2⟩ h
    rcases h with rfl | rfl | h
    · exact ⟨h1, h2⟩
    · exact ⟨h1.cp, OwnV_cp⟩
    · exact h.rep h1
  have hres : RepS Ψ B r v ∧ OwnV au2 w' (.slot 0) r v := by
    obtain ⟨k1, k2⟩ := g.tm 0 r' v rfl rfl
    generalize hq : frzV hp' r' = q at hle
    cases hle with
    | one hdat hu =>
      have e : frz2 hp' r' = q := by
        rw [← hq]
        cases r' <;> first | rfl | (simp [frzV] at hq; subst hq; simp [V.data1] at hdat)
      rw [← e] at hdat hu
      exact up _ _ _ (fun j => j) (c2 r' v (fun j => j) k1 k2 hdat) hu
    | tup hl hu =>
      rename_i vs us
      cases r' with
      | tup ws =>
        simp only [frzV, V.tup.injEq] at hq
        subst hq
        cases k1 with
        | tup hll =>
          rename_i cs
          obtain ⟨p1, p2⟩ := hll.get
          have comp : ∀ (j : Nat) U c, us[j]? = some U → cs[j]? = some c → RepS Ψ B U c ∧ OwnV au2 w' (fun _ => .slot 0 j) U c := by
            intro j U c hU hc
            have hj : j < ws.length := by
              have := (List.getElem?_eq_some_iff.1 hU).1
              simp at hl; omega
            have hW := List.getElem?_eq_getElem hj
            obtain ⟨d1, d2⟩ := hu j (frz2 hp' ws[j]) U (by rw [List.getElem?_map, hW]; rfl) hU
            refine up _ _ _ (fun _ => j) (c2 ws[j] c (fun _ => j) (p2 j _ c hW hc) ?_ d1) d2
            cases hWj : ws[j] with
            | own z xs => exact k2 j z xs cs.toArray c rfl (by rw [hW, hWj]) (by simpa using hc)
            | tup _ => rw [hWj] at d1; simp [frz2, frz1, V.data1] at d1
            | _ => trivial
          refine ⟨.tup (RepSL.of (by simp at hl; omega) fun j U c hU hc => (comp j U c hU hc).1), ?_⟩
          rintro j z xs cs' c e hU hc
          injection e with e; subst e
          exact (comp j _ c hU (by simpa using hc)).2
      | st cs =>
        exfalso
        simp only [frzV, frz2] at hq
        unfold mkAgg at hq
        split at hq <;> cases hq
      | ref id z off len cap =>
        exfalso
        simp only [frzV, frz2, frz1] at hq
        split at hq
        · split at hq <;> cases hq
        · cases hq
      | _ => exfalso; simp [frzV, frz2, frz1] at hq
  have hB : B = [] := by
    have := hi.hl; simpa using this.symm
  subst hB
  refine ⟨v, r, [], rfl, rfl, Ψ, [], au2, { phi := fun lb b o v e => ?_, phia := fun lb b o v h0 st hp e => ?_, auw := fun b h0 st e => ?_, size := g.size, keep := g.keep, pre := List.prefix_refl _, lePhi := g.lePhi.trans hleΨ, tl := rfl, tm := fun i V u hV hu => ?_, hl := rfl, nb := ⟨Nat.le_refl _, Nat.le_refl _⟩, hp := fun id o b ho => (by simp at ho), df := ⟨[], rfl, List.nodup_nil, by simp⟩, rd := fun l hl => (by cases hl), lp := g.lp, src := fun lb b o v e => ?_, wo := g.wo }⟩
  · simp only [Ψ] at e
    split at e
    · rename_i e'; injection e with e; subst e; exact g.phi _ _ _ _ e'
    · split at e
      · exact e
      · cases e
  · obtain ⟨e1, i, j, rfl⟩ := hau2 b h0 st e
    simp only [Ψ] at hp
    split at hp
    · rename_i e'; injection hp with hp; subst hp; exact g.phia _ b o _ _ _ e' e1
    · split at hp
      · rename_i hA
        obtain ⟨id, z, xs, q1, _⟩ := hA
        rw [e1] at q1; cases q1
      · cases hp
  · exact g.auw b h0 st (hau2 b h0 st e).1
  · cases i with
    | succ i => simp at hV
    | zero => simp at hV hu; subst hV; subst hu; exact hres
  · simp only [Ψ] at e
    split at e
    · rename_i e'; injection e with e; subst e; exact g.src _ _ _ _ e'
    · split at e
      · rename_i hA
        obtain ⟨id, z, xs, q1, _⟩ := hA
        exact .inr (g.auw b _ _ q1).2
      · cases e
theorem pcall_frz {f : FuncId} {ds : List D} {r : V} (h : CallK P f (ds.map V.d) [] fun r' hp' => LeR (frzV hp' r') r) : PCall P f ds r := fcall_frz h
end

end Go.Idl
end
section
namespace Go.Idl

section
variable {P : Program} {all r : List Oper} {tm : List V} {hp : List IObj} {nb : Nat} {K : St → Prop} {d : Option Nat} {t : TypeId} {p : String} {af : Array Edge}

/-- a fork: what is asked where a test holds as wanted, and where not -/
def gd (b want : Bool) (A B : Prop) : Prop := (b = want → A) ∧ (b = !want → B)
theorem gd_tt {A B : Prop} : gd true true A B = A := by simp [gd]
theorem gd_ff {A B : Prop} : gd false false A B = A := by simp [gd]
theorem gd_tf {A B : Prop} : gd true false A B = B := by simp [gd]
theorem gd_ft {A B : Prop} : gd false true A B = B := by simp [gd]
theorem gd_t {b : Bool} {A B : Prop} : gd b true A B = ((b = true → A) ∧ (b = false → B)) := rfl
theorem gd_f {b : Bool} {A B : Prop} : gd b false A B = ((b = false → A) ∧ (b = true → B)) := rfl

variable {g : Option (Nat × Bool)}
theorem x_move {x : Operand} : stepK P ⟨d, .move x, t, p, af, g⟩ r ⟨tm, hp, nb⟩ K = K (mv ⟨tm, hp, nb⟩ x (ev P t ⟨tm, hp, nb⟩ x) d (takes d r || (ev P t ⟨tm, hp, nb⟩ x).isTup)) := rfl
theorem x_assign {x : Operand} : stepK P ⟨d, .assign x, t, p, af, g⟩ r ⟨tm, hp, nb⟩ K = K (mv ⟨tm, hp, nb⟩ x (ev P t ⟨tm, hp, nb⟩ x) d true) := rfl
theorem x_pick {c x y : Operand} : stepK P ⟨d, .pick c x y, t, p, af, g⟩ r ⟨tm, hp, nb⟩ K = (match ev P 0 ⟨tm, hp, nb⟩ c with
    | .d (.bool b) => gd b true (K (St.put ⟨tm, hp, nb⟩ d (ev P t ⟨tm, hp, nb⟩ x).cp)) (K (St.put ⟨tm, hp, nb⟩ d (ev P t ⟨tm, hp, nb⟩ y).cp))
    | _ => False) := rfl
theorem x_alloc {u : TypeId} : stepK P ⟨d, .alloc u, t, p, af, g⟩ r ⟨tm, hp, nb⟩ K = (match zeroVs P u with
    | some cs => K (St.put ⟨tm, hp ++ [IObj.var cs], nb⟩ d (.ptr hp.length 0))
    | none => False) := rfl
theorem x_box {u : TypeId} {x : Operand} : stepK P ⟨d, .box u x, t, p, af, g⟩ r ⟨tm, hp, nb⟩ K = ((ev P u ⟨tm, hp, nb⟩ x).known = true ∧ K (St.put ⟨tm, hp ++ [IObj.var (ev P u ⟨tm, hp, nb⟩ x).cp.flat], nb⟩ d (.ptr hp.length 0))) := rfl
theorem x_build {u : TypeId} {ps : Array (Nat × Operand)} : stepK P ⟨d, .build u ps, t, p, af, g⟩ r ⟨tm, hp, nb⟩ K = (match placesD P u, zeroCs P u with
    | some pl, some z => match fillD (fun i => pl[i]?) (z.map V.d) (ps.toList.map fun q => (q.1, ev P (((fieldOff P u q.1).map (·.2)).getD 0) ⟨tm, hp, nb⟩ q.2)) with
      | some cs => z.length = ((P.info? u).bind (·.zero)).elim 0 (·.cells.size) ∧ K (St.put ⟨tm, hp, nb⟩ d (mkAgg cs))
      | none => False
    | _, _ => False) := rfl
theorem x_buildSlice {u : TypeId} {n : Nat} {ps : Array (Nat × Operand)} : stepK P ⟨d, .buildSlice u n ps, t, p, af, g⟩ r ⟨tm, hp, nb⟩ K = (match elemTy P u, elI P u with
    | some e, some (z, _) => match (zeroCs P e).bind (ofCells P e) with
      | some zd => match fillEl z (List.replicate n zd) (ps.toList.map fun q => (q.1, ev P e ⟨tm, hp, nb⟩ q.2)) with
        | some xs => d.isSome = true ∧ n * z ≤ 16777216 ∧ zd.flat.length = z ∧ 0 < z ∧ K (St.put ⟨tm, hp, nb⟩ d (.own z xs))
        | none => False
      | none => False
    | _, _ => False) := rfl
theorem x_load {u : TypeId} {x : Operand} : stepK P ⟨d, .load u x, t, p, af, g⟩ r ⟨tm, hp, nb⟩ K = loadK P u (ev P 0 ⟨tm, hp, nb⟩ x) ⟨tm, hp, nb⟩ d (takes d r) K := rfl
theorem x_store {u : TypeId} {x y : Operand} : stepK P ⟨d, .store u x y, t, p, af, g⟩ r ⟨tm, hp, nb⟩ K = storeK P u (ev P 0 ⟨tm, hp, nb⟩ x) y (ev P u ⟨tm, hp, nb⟩ y) ⟨tm, hp, nb⟩ d K := rfl
theorem x_bin {op : BinOp} {u u' : TypeId} {x y : Operand} : stepK P ⟨d, .binOp op u x y u', t, p, af, g⟩ r ⟨tm, hp, nb⟩ K = bif isNilC y then nilK P op u (ev P u ⟨tm, hp, nb⟩ x) fun v => K (St.put ⟨tm, hp, nb⟩ d v) else binK P op u (ev P u ⟨tm, hp, nb⟩ x) (ev P u ⟨tm, hp, nb⟩ y) fun v => K (St.put ⟨tm, hp, nb⟩ d v) := rfl
theorem nc_tmp {i : Nat} : isNilC (.tmp i) = false := rfl
theorem nc_int {k : IntKind} {n : Int} : isNilC (.const (.int k n)) = false := rfl
theorem nc_bool {b : Bool} : isNilC (.const (.bool b)) = false := rfl
theorem nc_str {b : ByteArray} : isNilC (.const (.string b)) = false := rfl
theorem nc_ptr {a : Option Addr} : isNilC (.const (.pointer a)) = false := rfl
theorem nc_nil : isNilC (.const (.slice none 0 0)) = true := rfl
theorem nc_fn {f : FuncId} : isNilC (.func f) = false := rfl
theorem x_un {op : UnOp} {u : TypeId} {x : Operand} : stepK P ⟨d, .unOp op u x, t, p, af, g⟩ r ⟨tm, hp, nb⟩ K = (match op, ev P 0 ⟨tm, hp, nb⟩ x with
    | .not, .d (.bool b) => K (St.put ⟨tm, hp, nb⟩ d (.d (.bool !b)))
    | .neg, .d (.int k n) => K (St.put ⟨tm, hp, nb⟩ d (.d (.int k (k.wrap (0 - n)))))
    | _, _ => False) := rfl
theorem x_makeFunc {f : Fn} {fs cs : Array Operand} : stepK P ⟨d, .makeFunc f fs cs, t, p, af, g⟩ r ⟨tm, hp, nb⟩ K = (fs = #[] ∧ K (St.put ⟨tm, hp, nb⟩ d (.fn f (cs.toList.map fun x => (ev P 0 ⟨tm, hp, nb⟩ x).cp)))) := rfl
theorem x_slice {u : TypeId} {x : Operand} {lo hi mx : Option Operand} : stepK P ⟨d, .slice u x lo hi mx, t, p, af, g⟩ r ⟨tm, hp, nb⟩ K = sliceK P u (ev P u ⟨tm, hp, nb⟩ x) ⟨tm, hp, nb⟩ lo hi mx fun v => K (St.put ⟨tm, hp, nb⟩ d v) := rfl
theorem x_fieldAddr {u : TypeId} {x : Operand} {f : Nat} : stepK P ⟨d, .fieldAddr u x f, t, p, af, g⟩ r ⟨tm, hp, nb⟩ K = (match ev P 0 ⟨tm, hp, nb⟩ x, fieldOff P u f with
    | .ptr id off, some (n, _) => K (St.put ⟨tm, hp, nb⟩ d (.ptr id (off + n)))
    | .lptr l z xs i j, some (n, _) => K (St.put ⟨tm, hp, nb⟩ d (.lptr l z xs i (j + n)))
    | .aptr id z i j, some (n, _) => K (St.put ⟨tm, hp, nb⟩ d (.aptr id z i (j + n)))
    | _, _ => False) := rfl
theorem x_field {u : TypeId} {x : Operand} {f : Nat} : stepK P ⟨d, .field u x f, t, p, af, g⟩ r ⟨tm, hp, nb⟩ K = (match ev P u ⟨tm, hp, nb⟩ x, fieldOff P u f with
    | .d d', some (n, ft) => match partD P ft d' n with
      | some y => (match d' with | .agg _ => True | _ => False) ∧ K (St.put ⟨tm, hp, nb⟩ d (.d y))
      | none => False
    | .st cs, some (n, ft) => match partV P ft cs n with
      | some y => K (St.put ⟨tm, hp, nb⟩ d y)
      | none => False
    | _, _ => False) := rfl
theorem x_indexAddr {u : TypeId} {x i : Operand} : stepK P ⟨d, .indexAddr u x i, t, p, af, g⟩ r ⟨tm, hp, nb⟩ K = (match (ev P u ⟨tm, hp, nb⟩ x).cp, ev P 0 ⟨tm, hp, nb⟩ i with
    | .d (.sl l z xs), .d (.int _ n) => (elI P u).map (·.1) = some z ∧ 0 ≤ n ∧ n < xs.length ∧ K (St.put ⟨tm, hp, nb⟩ d (.lptr l z xs n.toNat 0))
    | .ref id z off len _, .d (.int _ n) => (elI P u).map (·.1) = some z ∧ 0 ≤ n ∧ n < len ∧ K (St.put ⟨tm, hp, nb⟩ d (match hp[id]? with
      | some (.var _) => .ptr id ((off + n.toNat) * z)
      | _ => .aptr id z (off + n.toNat) 0))
    | .ptr id off, .d (.int _ n) => match arrI P u with
      | some (k, z) => 0 ≤ n ∧ n < k ∧ K (St.put ⟨tm, hp, nb⟩ d (.ptr id (off + n.toNat * z)))
      | none => False
    | _, _ => False) := rfl
theorem x_extract {x : Operand} {ix : Nat} : stepK P ⟨d, .extract x ix, t, p, af, g⟩ r ⟨tm, hp, nb⟩ K = (match ev P 0 ⟨tm, hp, nb⟩ x with
    | .tup vs => match vs[ix]? with
      | some v => v.isTup = false ∧ K (St.put ⟨St.at_ ⟨tm, hp, nb⟩ x (.tup (vs.set ix v.cp)), hp, nb⟩ d v)
      | none => False
    | _ => False) := rfl
theorem x_makeSlice {u : TypeId} {l c : Operand} : stepK P ⟨d, .makeSlice u l c, t, p, af, g⟩ r ⟨tm, hp, nb⟩ K = (match elemTy P u, elI P u, ev P 0 ⟨tm, hp, nb⟩ l, ev P 0 ⟨tm, hp, nb⟩ c with
    | some e, some (z, by_), .d (.int _ n), .d (.int _ m) => match (zeroCs P e).bind (ofCells P e) with
      | some zd => n ≤ m ∧ 0 ≤ n ∧ by_ * m ≤ 281474976710656 ∧ m ≤ 9223372036854775807 ∧ zd.flat.length = z ∧ 0 < z ∧
          K (St.put ⟨tm, hp ++ [IObj.arr z (List.replicate m.toNat zd)], nb⟩ d (.ref hp.length z 0 n.toNat m.toNat))
      | none => False
    | _, _, _, _ => False) := rfl
theorem x_index {u : TypeId} {x i : Operand} : stepK P ⟨d, .index u x i, t, p, af, g⟩ r ⟨tm, hp, nb⟩ K = (match ev P u ⟨tm, hp, nb⟩ x, ev P 0 ⟨tm, hp, nb⟩ i with
    | .d (.str b), .d (.int _ n) => P.underlying u = some .string ∧ 0 ≤ n ∧ n < b.size ∧ K (St.put ⟨tm, hp, nb⟩ d (.d (.int .u8 ((b[n.toNat]!).toNat))))
    | _, _ => False) := rfl
theorem x_makeMap {u : TypeId} : stepK P ⟨d, .makeMap u none, t, p, af, g⟩ r ⟨tm, hp, nb⟩ K = K (St.put ⟨tm, hp ++ [IObj.map 0 []], nb⟩ d (.map hp.length)) := rfl
theorem x_lookup {u : TypeId} {x k : Operand} {ok : Bool} : stepK P ⟨d, .lookup u x k ok, t, p, af, g⟩ r ⟨tm, hp, nb⟩ K = lookupK P u (ev P u ⟨tm, hp, nb⟩ x) (ev P ((mapTy P u).map (·.1) |>.getD 0) ⟨tm, hp, nb⟩ k) ok ⟨tm, hp, nb⟩ fun v => K (St.put ⟨tm, hp, nb⟩ d v) := rfl
theorem x_mapUpdate {u : TypeId} {x k v : Operand} : stepK P ⟨d, .mapUpdate u x k v, t, p, af, g⟩ r ⟨tm, hp, nb⟩ K = ((ev P ((mapTy P u).map (·.2) |>.getD 0) ⟨tm, hp, nb⟩ v).known = true ∧ mapUpdateK P u (ev P u ⟨tm, hp, nb⟩ x) (ev P ((mapTy P u).map (·.1) |>.getD 0) ⟨tm, hp, nb⟩ k) (ev P ((mapTy P u).map (·.2) |>.getD 0) ⟨tm, hp, nb⟩ v) ⟨tm, hp, nb⟩ d K) := rfl
theorem x_range {u : TypeId} {x : Operand} : stepK P ⟨d, .range u x, t, p, af, g⟩ r ⟨tm, hp, nb⟩ K = (match ev P u ⟨tm, hp, nb⟩ x with
    | .map id => (match hp[id]? with
      | some (.map c _) => (mapTy P u).isSome = true ∧ K (St.put ⟨tm, hp ++ [IObj.iter id c [] c], nb⟩ d (.ptr hp.length 0))
      | _ => False)
    | _ => False) := rfl
theorem x_next {x : Operand} : stepK P ⟨d, .next x false, t, p, af, g⟩ r ⟨tm, hp, nb⟩ K = nextK ⟨tm, hp, nb⟩ (ev P 0 ⟨tm, hp, nb⟩ x) d K := rfl
theorem x_call {c : Call} : stepK P ⟨d, .call c, t, p, af, g⟩ r ⟨tm, hp, nb⟩ K = callK P c ⟨tm, hp, nb⟩ d K := rfl
theorem x_convert {u u' : TypeId} {x : Operand} : stepK P ⟨d, .convert u u' x, t, p, af, g⟩ r ⟨tm, hp, nb⟩ K = (match ev P u ⟨tm, hp, nb⟩ x with
    | .d (.int _ n) => match P.underlying u' with
      | some (.int k) => (P.underlying u).isSome = true ∧ K (St.put ⟨tm, hp, nb⟩ d (.d (.int k (k.wrap n))))
      | _ => False
    | .d (.str b) => P.underlying u' = some .string ∧ P.underlying u = some .string ∧ K (St.put ⟨tm, hp, nb⟩ d (.d (.str b)))
    | _ => False) := rfl

theorem e_tmp {i : Nat} : ev P t ⟨tm, hp, nb⟩ (.tmp i) = tm.getD i .un := rfl
theorem e_const {s : St} {v : Value} : ev P t s (.const v) = constV P t v := rfl
theorem e_func {s : St} {f : FuncId} : ev P t s (.func f) = .fn (.func f) [] := rfl
theorem c_int {k : IntKind} {n : Int} : constV P t (.int k n) = .d (.int k n) := rfl
theorem c_bool {b : Bool} : constV P t (.bool b) = .d (.bool b) := rfl
theorem c_str {b : ByteArray} : constV P t (.string b) = .d (.str b) := rfl
theorem c_nil : constV P t (.slice none 0 0) = .nil (elemSz P t) := rfl
theorem c_ptr : constV P t (.pointer none) = .d (.con (.pointer none)) := rfl
theorem put_some {i : Nat} {v : V} : St.put ⟨tm, hp, nb⟩ (some i) v = ⟨tm.set i v, hp, nb⟩ := rfl
theorem put_none {s : St} {v : V} : St.put s none v = s := rfl
theorem mv_false' {s : St} {x : Operand} {v : V} {dst : Option Nat} : mv s x v dst false = s.put dst v.cp := by simp [mv]
theorem mv_tmp {i : Nat} {v : V} {dst : Option Nat} : mv ⟨tm, hp, nb⟩ (.tmp i) v dst true = St.put ⟨tm.set i v.cp, hp, nb⟩ dst v := by simp [mv]
theorem mv_const {s : St} {c : Value} {v : V} {dst : Option Nat} : mv s (.const c) v dst true = s.put dst v := by simp [mv]
theorem mv_func {s : St} {c : FuncId} {v : V} {dst : Option Nat} : mv s (.func c) v dst true = s.put dst v := by simp [mv]
theorem cp_d {x : D} : (V.d x).cp = .d x := rfl
theorem cp_own {z : Nat} {xs : List D} : (V.own z xs).cp = .d (.sl false z xs) := rfl
theorem cp_nil {z : Nat} : (V.nil z).cp = .nil z := rfl
theorem cp_st {cs : List V} : (V.st cs).cp = .st cs := rfl
theorem cp_map {i : Nat} : (V.map i).cp = .map i := rfl
theorem cp_ref {i z o l c : Nat} : (V.ref i z o l c).cp = .ref i z o l c := rfl
theorem cp_ptr {i j : Nat} : (V.ptr i j).cp = .ptr i j := rfl
theorem cp_lptr {l : Bool} {z : Nat} {xs : List D} {i j : Nat} : (V.lptr l z xs i j).cp = .lptr l z xs i j := rfl
theorem cp_aptr {id z i j : Nat} : (V.aptr id z i j).cp = .aptr id z i j := rfl
theorem cp_un : V.un.cp = .un := rfl
theorem cp_fn {f : Fn} {cs : List V} : (V.fn f cs).cp = .fn f cs := rfl
theorem cp_skip : (V.tup []).cp = .tup [] := rfl
def V.cp1 : V → V := fun v => match v with | .own z xs => .d (.sl false z xs) | v => v
theorem cp_tup {vs : List V} : (V.tup vs).cp = .tup (vs.map V.cp1) := rfl
theorem cp1_d {x : D} : (V.d x).cp1 = .d x := rfl
theorem cp1_own {z : Nat} {xs : List D} : (V.own z xs).cp1 = .d (.sl false z xs) := rfl
theorem cp1_nil {z : Nat} : (V.nil z).cp1 = .nil z := rfl
theorem cp1_ref {i z o l c : Nat} : (V.ref i z o l c).cp1 = .ref i z o l c := rfl
theorem cp1_ptr {i j : Nat} : (V.ptr i j).cp1 = .ptr i j := rfl
theorem cp1_st {cs : List V} : (V.st cs).cp1 = .st cs := rfl
theorem cp1_fn {f : Fn} {cs : List V} : (V.fn f cs).cp1 = .fn f cs := rfl
theorem cp1_map {i : Nat} : (V.map i).cp1 = .map i := rfl
theorem cp_yld {i : Nat} : (V.yld i).cp = .yld i := rfl
theorem tup_d {x : D} : (V.d x).isTup = false := rfl
theorem tup_own {z : Nat} {xs : List D} : (V.own z xs).isTup = false := rfl
theorem tup_nil {z : Nat} : (V.nil z).isTup = false := rfl
theorem tup_st {cs : List V} : (V.st cs).isTup = false := rfl
theorem tup_map {i : Nat} : (V.map i).isTup = false := rfl
theorem tup_ref {i z o l c : Nat} : (V.ref i z o l c).isTup = false := rfl
theorem tup_ptr {i j : Nat} : (V.ptr i j).isTup = false := rfl
theorem tup_lptr {l : Bool} {z : Nat} {xs : List D} {i j : Nat} : (V.lptr l z xs i j).isTup = false := rfl
theorem tup_aptr {id z i j : Nat} : (V.aptr id z i j).isTup = false := rfl
theorem tup_un : V.un.isTup = false := rfl
theorem tup_fn {f : Fn} {cs : List V} : (V.fn f cs).isTup = false := rfl
theorem tup_yld {i : Nat} : (V.yld i).isTup = false := rfl
theorem tup_tup {vs : List V} : (V.tup vs).isTup = true := rfl
theorem kn_d {x : D} : (V.d x).known = true := rfl
theorem kn_own {z : Nat} {xs : List D} : (V.own z xs).known = true := rfl
theorem kn_nil {z : Nat} : (V.nil z).known = true := rfl
theorem kn_st {cs : List V} : (V.st cs).known = true := rfl
theorem kn_map {i : Nat} : (V.map i).known = true := rfl
theorem kn_ref {i z o l c : Nat} : (V.ref i z o l c).known = true := rfl
theorem kn_ptr {i j : Nat} : (V.ptr i j).known = true := rfl
theorem kn_aptr {i z j k : Nat} : (V.aptr i z j k).known = true := rfl
theorem kn_lptr {l : Bool} {z : Nat} {xs : List D} {i j : Nat} : (V.lptr l z xs i j).known = true := rfl
theorem kn_fn {f : Fn} {cs : List V} : (V.fn f cs).known = true := rfl
theorem kn_yld {i : Nat} : (V.yld i).known = true := rfl
theorem kn_un : V.un.known = false := rfl
theorem lt_d {m : Nat} {x : D} : V.lt m (.d x) = true := rfl
theorem lt_un {m : Nat} : V.lt m .un = true := rfl
theorem lt_nil {m z : Nat} : V.lt m (.nil z) = true := rfl
theorem lt_own {m z : Nat} {xs : List D} : V.lt m (.own z xs) = true := rfl
theorem lt_lptr {m : Nat} {l : Bool} {z : Nat} {xs : List D} {i j : Nat} : V.lt m (.lptr l z xs i j) = true := rfl

variable {Q : Ex → St → Prop} {s : St}
theorem t_normal {K : St → Prop} : thenK K Q .normal s = K s := rfl
theorem t_ret {K : St → Prop} : thenK K Q .ret s = Q .ret s := rfl
theorem t_exit {K : St → Prop} {id : Nat} : thenK K Q (.exit id) s = Q (.exit id) s := rfl
theorem b_normal {id : Nat} : inBlockK id Q .normal s = Q .normal s := rfl
theorem b_ret {id : Nat} : inBlockK id Q .ret s = Q .ret s := rfl
theorem b_exit {id i : Nat} : inBlockK id Q (.exit i) s = if i = id then Q .normal s else Q (.exit i) s := rfl

theorem argVs_mk {ce : Callee} {xs : Array Operand} {ts : Array TypeId} : argVs P s { callee := ce, args := xs, argTypes := ts } = (List.zip xs.toList (ts.toList ++ List.replicate xs.size 0)).map fun (x, t) => (ev P t s x).cp := rfl

/-- what is asked at a function's end, by its results: its arrays are frozen -/
def retF (P : Program) (rs : List ResultVar) (r : V) (e : Ex) (s : St) : Prop :=
  match e with
  | .normal | .ret => (match resVs P s rs with
    | some [v] => LeR (frzV s.hp v) r
    | some vs => LeR (frzV s.hp (.tup vs)) r
    | none => False)
  | _ => False
/-- the same, with the memory behind it -/
def retH (P : Program) (rs : List ResultVar) (K : V → List IObj → Prop) (e : Ex) (s : St) : Prop :=
  match e with
  | .normal | .ret => (match resVs P s rs with
    | some [v] => K v s.hp
    | some vs => K (.tup vs) s.hp
    | none => False)
  | _ => False

theorem retK_retH {fn : Func} {K : V → List IObj → Prop} : retK P fn K = retH P fn.results.toList K := by
  funext e s
  unfold retK retH retV
  cases e <;> simp only
  all_goals
    cases h : resVs P s fn.results.toList with
    | none => rfl
    | some vs =>
      cases vs with
      | nil => rfl
      | cons v vs => cases vs <;> rfl
theorem retF_retH {rs : List ResultVar} {rv : V} : retF P rs rv = retH P rs fun r hp => LeR (frzV hp r) rv := by
  funext e s
  cases e <;> rfl

theorem r_ret {rs : List ResultVar} {rv : V} : retF P rs rv .ret s = (match resVs P s rs with
    | some [v] => LeR (frzV s.hp v) rv
    | some vs => LeR (frzV s.hp (.tup vs)) rv
    | none => False) := rfl
theorem r_normal {rs : List ResultVar} {rv : V} : retF P rs rv .normal s = (match resVs P s rs with
    | some [v] => LeR (frzV s.hp v) rv
    | some vs => LeR (frzV s.hp (.tup vs)) rv
    | none => False) := rfl
theorem rh_ret {rs : List ResultVar} {K : V → List IObj → Prop} : retH P rs K .ret s = (match resVs P s rs with
    | some [v] => K v s.hp
    | some vs => K (.tup vs) s.hp
    | none => False) := rfl
theorem rh_normal {rs : List ResultVar} {K : V → List IObj → Prop} : retH P rs K .normal s = (match resVs P s rs with
    | some [v] => K v s.hp
    | some vs => K (.tup vs) s.hp
    | none => False) := rfl

/-- component by component -/
def Le1 (v u : V) : Prop := v.data1 = true ∧ (u = v ∨ u = v.cp ∨ NilLe v u)
def LeRL : List V → List V → Prop
  | [], [] => True
  | v :: vs, u :: us => Le1 v u ∧ LeRL vs us
  | _, _ => False
theorem LeRL.get : ∀ {vs us : List V}, LeRL vs us → vs.length = us.length ∧ ∀ (i : Nat) v u, vs[i]? = some v → us[i]? = some u → v.data1 = true ∧ (u = v ∨ u = v.cp ∨ NilLe v u)
  | [], [], _ => by simp
  | v :: vs, u :: us, h => by
    obtain ⟨h1, h2⟩ := LeRL.get h.2
    refine ⟨by simp [h1], fun i a b ha hb => ?_⟩
    cases i with
    | zero => simp at ha hb; subst ha; subst hb; exact h.1
    | succ i => exact h2 i a b (by simpa using ha) (by simpa using hb)
  | [], _ :: _, h => h.elim
  | _ :: _, [], h => h.elim
theorem LeR_tup {vs us : List V} : LeR (.tup vs) (.tup us) = LeRL vs us := by
  refine propext ⟨fun h => ?_, fun h => .tup h.get.1 h.get.2⟩
  cases h with
  | one h _ => cases h
  | tup h1 h2 =>
    have aux : ∀ (vs us : List V), vs.length = us.length → (∀ (i : Nat) v u, vs[i]? = some v → us[i]? = some u → v.data1 = true ∧ (u = v ∨ u = v.cp ∨ NilLe v u)) → LeRL vs us := by
      intro vs
      induction vs with
      | nil => intro us h1 _; cases us with | nil => trivial | cons => simp at h1
      | cons v vs ih =>
        intro us h1 h2
        cases us with
        | nil => simp at h1
        | cons u us => exact ⟨h2 0 v u rfl rfl, ih us (by simpa using h1) fun i a b ha hb => h2 (i + 1) a b (by simpa using ha) (by simpa using hb)⟩
    exact aux _ _ h1 h2
theorem LeR_one {v u : V} (h : u.isTup = false) (h' : v.isTup = false) : LeR v u = Le1 v u := by
  refine propext ⟨fun hh => ?_, fun hh => .one hh.1 hh.2⟩
  cases hh with
  | one a b => exact ⟨a, b⟩
  | tup => cases h
theorem LeR_d {x : D} {u : V} (h : u.isTup = false) : LeR (.d x) u = Le1 (.d x) u := LeR_one h rfl
theorem LeR_own {z : Nat} {x : List D} {u : V} (h : u.isTup = false) : LeR (.own z x) u = Le1 (.own z x) u := LeR_one h rfl
theorem LeR_nil {z : Nat} {u : V} (h : u.isTup = false) : LeR (.nil z) u = Le1 (.nil z) u := LeR_one h rfl
theorem Le1_d {x y : D} : Le1 (.d x) (.d y) = (x = y) := by
  refine propext ⟨?_, fun h => ⟨rfl, .inl (by rw [h])⟩⟩
  rintro ⟨_, h | h | h⟩
  · injection h with h; exact h.symm
  · injection h with h; exact h.symm
  · cases h
theorem Le1_own {z z' : Nat} {x y : List D} : Le1 (.own z x) (.own z' y) = (z = z' ∧ x = y) := by
  refine propext ⟨?_, fun h => ⟨rfl, .inl (by rw [h.1, h.2])⟩⟩
  rintro ⟨_, h | h | h⟩
  · injection h with h h'; exact ⟨h.symm, h'.symm⟩
  · cases h
  · cases h
theorem Le1_own_d {z z' : Nat} {l : Bool} {x y : List D} : Le1 (.own z x) (.d (.sl l z' y)) = (l = false ∧ z = z' ∧ x = y) := by
  refine propext ⟨?_, fun h => ⟨rfl, .inr (.inl (by rw [h.1, h.2.1, h.2.2]; rfl))⟩⟩
  rintro ⟨_, h | h | h⟩
  · cases h
  · injection h with h; injection h with h h' h''; exact ⟨h, h'.symm, h''.symm⟩
  · cases h
theorem Le1_nil {z z' : Nat} : Le1 (.nil z) (.nil z') = (z = z') := by
  refine propext ⟨?_, fun h => ⟨rfl, .inl (by rw [h])⟩⟩
  rintro ⟨_, h | h | h⟩
  · injection h with h; exact h.symm
  · injection h with h; exact h.symm
  · cases h
theorem Le1_nil_own {z z' : Nat} {y : List D} : Le1 (.nil z) (.own z' y) = (z = z' ∧ y = []) := by
  refine propext ⟨?_, fun h => ⟨rfl, .inr (.inr (by rw [h.1, h.2]; exact .own))⟩⟩
  rintro ⟨_, h | h | h⟩
  · cases h
  · cases h
  · cases h; exact ⟨rfl, rfl⟩
theorem Le1_nil_d {z z' : Nat} {l : Bool} {y : List D} : Le1 (.nil z) (.d (.sl l z' y)) = (z = z' ∧ y = []) := by
  refine propext ⟨?_, fun h => ⟨rfl, .inr (.inr (by rw [h.1, h.2]; exact .d))⟩⟩
  rintro ⟨_, h | h | h⟩
  · cases h
  · cases h
  · cases h; exact ⟨rfl, rfl⟩

theorem fz_d {x : D} : frzV hp (.d x) = .d x := rfl
theorem fz_own {z : Nat} {x : List D} : frzV hp (.own z x) = .own z x := rfl
theorem fz_nil {z : Nat} : frzV hp (.nil z) = .nil z := rfl
theorem fz_ref {id z off len cap : Nat} : frzV hp (.ref id z off len cap) = frz1 hp (.ref id z off len cap) := rfl
theorem fz_st {cs : List V} : frzV hp (.st cs) = mkAgg (cs.map (frz1 hp)) := rfl
theorem fz_tup {vs : List V} : frzV hp (.tup vs) = .tup (vs.map (frz2 hp)) := rfl
theorem f2_d {x : D} : frz2 hp (.d x) = .d x := rfl
theorem f2_own {z : Nat} {x : List D} : frz2 hp (.own z x) = .own z x := rfl
theorem f2_nil {z : Nat} : frz2 hp (.nil z) = .nil z := rfl
theorem f2_ref {id z off len cap : Nat} : frz2 hp (.ref id z off len cap) = frz1 hp (.ref id z off len cap) := rfl
theorem f2_st {cs : List V} : frz2 hp (.st cs) = mkAgg (cs.map (frz1 hp)) := rfl
theorem f1_d {x : D} : frz1 hp (.d x) = .d x := rfl
theorem f1_own {z : Nat} {x : List D} : frz1 hp (.own z x) = .own z x := rfl
theorem f1_nil {z : Nat} : frz1 hp (.nil z) = .nil z := rfl
theorem f1_ref {id z off len cap : Nat} : frz1 hp (.ref id z off len cap) = (match hp[id]? with
    | some (.arr z' xs) => if z' = z ∧ 0 < z ∧ len ≤ cap ∧ off + len ≤ xs.length then .d (.sl false z ((xs.drop off).take len)) else .ref id z off len cap
    | _ => .ref id z off len cap) := rfl

/-! ### Calls, for simp -/
variable {xs : Array Operand} {ts : Array TypeId}
/-- what is to be shown behind a call, where simp does not look into it -/
class Kont where
  run : V → List IObj → Prop
theorem kont_run {f : V → List IObj → Prop} {r : V} {hp : List IObj} : @Kont.run ⟨f⟩ r hp = f r hp := rfl
def CallH (P : Program) (f : FuncId) (args : List V) (hp : List IObj) [k : Kont] : Prop := CallK P f args hp k.run
def CallEH (P : Program) (f : FuncId) (args : List V) (hp : List IObj) [k : Kont] : Prop := CallE P f args hp k.run
def RoundH (P : Program) (id : Nat) (args : List V) (hp : List IObj) [k : Kont] : Prop := RoundK P id args hp k.run
theorem k_val {q : Operand} : callK P ⟨.value q, xs, ts⟩ s d K = (match ev P 0 s q with
    | .fn (.func f) caps => (argVs P s ⟨.value q, xs, ts⟩ ++ caps).all V.bare = true ∧ (bif hasBody P f then @CallH P f (argVs P s ⟨.value q, xs, ts⟩ ++ caps) s.hp ⟨fun r hp' => K (({ s with hp := hp' } : St).put d r)⟩
        else @CallEH P f (argVs P s ⟨.value q, xs, ts⟩ ++ caps) s.hp ⟨fun r hp' => K (({ s with hp := hp' } : St).put d r)⟩)
    | .yld id => (argVs P s ⟨.value q, xs, ts⟩).all V.bare = true ∧ @RoundH P id (argVs P s ⟨.value q, xs, ts⟩) s.hp ⟨fun r hp' => K (({ s with hp := hp' } : St).put d r)⟩
    | _ => False) := rfl
/-- a call among operations that are free, where simp does not look behind it -/
class Kont1 where
  run : V → Prop
theorem kont1_run {f : V → Prop} {r : V} : @Kont1.run ⟨f⟩ r = f r := rfl
def FreeH (P : Program) (f : FuncId) (args : List V) [k : Kont1] : Prop := ∃ ds r, allD args = some ds ∧ r.data = true ∧ PCall P f ds r ∧ k.run r
theorem free_pcall {f : FuncId} {ds : List D} {args : List V} {r : V} {k : Kont1} (h : PCall P f ds r) (ha : allD args = some ds) (hd : r.data = true) (hk : k.run r) : @FreeH P f args k := ⟨ds, r, ha, hd, h, hk⟩
theorem fc_val {q : Operand} : freeCall P ⟨.value q, xs, ts⟩ s d K = (match ev P 0 s q with
    | .fn (.func f) caps => hasBody P f = true ∧ caps.all V.bare = true ∧ @FreeH P f (argVs P s ⟨.value q, xs, ts⟩ ++ caps) ⟨fun r => K (s.put d r)⟩
    | _ => False) := rfl
theorem fc_len : freeCall P ⟨.builtin .len, xs, ts⟩ s d K = (match argVs P s ⟨.builtin .len, xs, ts⟩ with
    | [.map _] => False
    | _ => callK0 P ⟨.builtin .len, xs, ts⟩ s d K) := rfl
theorem fc_append : freeCall P ⟨.builtin .append, xs, ts⟩ s d K = callK0 P ⟨.builtin .append, xs, ts⟩ s d K := rfl
theorem fc_min : freeCall P ⟨.builtin .min, xs, ts⟩ s d K = callK0 P ⟨.builtin .min, xs, ts⟩ s d K := rfl
theorem fc_max : freeCall P ⟨.builtin .max, xs, ts⟩ s d K = callK0 P ⟨.builtin .max, xs, ts⟩ s d K := rfl
theorem k_append {x y : Operand} {t0 t1 : TypeId} : callK P ⟨.builtin .append, #[x, y], #[t0, t1]⟩ s d K = (match ev P t0 s x with
    | .ref id z off len cap => appendRefK P t0 t1 (.ref id z off len cap) (ev P t1 s y) s d K
    | _ => callK0 P ⟨.builtin .append, #[x, y], #[t0, t1]⟩ s d K) := rfl
theorem k0_append {x y : Operand} {t0 t1 : TypeId} : callK0 P ⟨.builtin .append, #[x, y], #[t0, t1]⟩ s d K = (match appBase (ev P t0 s x), (ev P t1 s y).cp.d? with
      | some (z, xs), some (.sl _ z' ys) => match elI P t0 with
        | some (e, by_) => d.isSome = true ∧ (#[t0, t1] : Array TypeId).size = 2 ∧ z = e ∧ z' = z ∧ 0 < z ∧ (elemTy P t1).isSome = true ∧ 0 < by_ ∧ (xs.length + ys.length) * by_ ≤ 140737488355328 ∧
            K (({ s with tm := s.at_ x (ev P t0 s x).cp } : St).put d (.own z (xs ++ ys)))
        | none => False
      | _, _ => False) := rfl
theorem k_copy {x y : Operand} {t0 t1 : TypeId} : callK P ⟨.builtin .copy, #[x, y], #[t0, t1]⟩ s d K = copyK P t0 t1 (ev P t0 s x) (ev P t1 s y) s d K := rfl
theorem k_clear {x : Operand} {t0 : TypeId} : callK P ⟨.builtin .clear, #[x], #[t0]⟩ s d K = clearK P t0 (ev P t0 s x) s d K := rfl
theorem k_cap {x : Operand} {t0 : TypeId} : callK P ⟨.builtin .cap, #[x], #[t0]⟩ s d K = (match ev P t0 s x with
    | .ref _ _ _ _ cap => (elemTy P t0).isSome = true ∧ K (s.put d (.d (.int .i64 cap)))
    | .nil _ => (elemTy P t0).isSome = true ∧ K (s.put d (.d (.int .i64 0)))
    | _ => False) := rfl
theorem k_delete {x y : Operand} {t0 t1 : TypeId} : callK P ⟨.builtin .delete, #[x, y], #[t0, t1]⟩ s d K = deleteK P t0 (ev P t0 s x) (ev P t1 s y) s d K := rfl
theorem k0_len {x : Operand} {t0 : TypeId} : callK0 P ⟨.builtin .len, #[x], #[t0]⟩ s d K = (match (ev P t0 s x).cp with
    | .d (.sl _ _ xs) => (some t0).isSome = true ∧ (elemTy P t0).isSome = true ∧ K (s.put d (.d (.int .i64 xs.length)))
    | .nil _ => (some t0).isSome = true ∧ (elemTy P t0).isSome = true ∧ K (s.put d (.d (.int .i64 0)))
    | .d (.str b) => (some t0).isSome = true ∧ P.underlying t0 = some .string ∧ K (s.put d (.d (.int .i64 b.size)))
    | .ref _ _ _ n _ => (some t0).isSome = true ∧ (elemTy P t0).isSome = true ∧ K (s.put d (.d (.int .i64 n)))
    | .map id => (match s.hp[id]? with
      | some (.map _ es) => (some t0).isSome = true ∧ (mapTy P t0).isSome = true ∧ K (s.put d (.d (.int .i64 es.length)))
      | _ => False)
    | _ => False) := by
  show (match argVs P s ⟨.builtin .len, #[x], #[t0]⟩ with
    | [.d (.sl _ _ xs)] => _
    | [.nil _] => _
    | [.d (.str b)] => _
    | [.ref _ _ _ n _] => _
    | [.map id] => _
    | _ => False) = _
  have e : argVs P s ⟨.builtin .len, #[x], #[t0]⟩ = [(ev P t0 s x).cp] := rfl
  rw [e]
  cases (ev P t0 s x).cp with
  | d y => cases y <;> rfl
  | _ => rfl
theorem k_len {x : Operand} {t0 : TypeId} : callK P ⟨.builtin .len, #[x], #[t0]⟩ s d K = callK0 P ⟨.builtin .len, #[x], #[t0]⟩ s d K := rfl
theorem k_min {x y : Operand} {t0 t1 : TypeId} : callK P ⟨.builtin .min, #[x, y], #[t0, t1]⟩ s d K = (match [(ev P t0 s x).cp, (ev P t1 s y).cp] with
    | [.d (.int k a), .d (.int _ b)] => K (s.put d (.d (.int k (if b < a then b else a))))
    | _ => False) := rfl
theorem k_max {x y : Operand} {t0 t1 : TypeId} : callK P ⟨.builtin .max, #[x, y], #[t0, t1]⟩ s d K = (match [(ev P t0 s x).cp, (ev P t1 s y).cp] with
    | [.d (.int k a), .d (.int _ b)] => K (s.put d (.d (.int k (if a < b then b else a))))
    | _ => False) := rfl
theorem R_tmp {i : Nat} : resV P ⟨tm, hp, nb⟩ (.tmp i) = if (tm.getD i .un).isTup then none else some (tm.getD i .un) := rfl
theorem R_cell {i : Nat} {t : TypeId} : resV P ⟨tm, hp, nb⟩ (.cell i t) = (match tm.getD i .un with
    | .ptr id off => match hp[id]? with
      | some (.var cs) => match kindD P t with
        | some true => match allD ((cs.drop off).take (sizeD P t)) with
          | some ds => if ds.length = sizeD P t then some (.d (.agg ds)) else none
          | none => none
        | some false => match cs[off]? with
          | some v => if v.isTup then none else some v.cp
          | none => none
        | none => none
      | _ => none
    | _ => none) := rfl
theorem Rs_nil : resVs P s [] = some [] := rfl
theorem Rs_cons {rv : ResultVar} {rs : List ResultVar} : resVs P ⟨tm, hp, nb⟩ (rv :: rs) = (match resV P ⟨tm, hp, nb⟩ rv, resVs P ⟨tm, hp, nb⟩ rs with
    | some v, some vs => some (v :: vs)
    | _, _ => none) := rfl
end

/-! ### Loops, for simp -/
/-- a value that says no more than another -/
def LeV (v u : V) : Prop := u = .un ∨ u = v ∨ u = v.cp ∨ NilLe v u
def LeL : List V → List V → Prop
  | [], [] => True
  | v :: vs, u :: us => LeV v u ∧ LeL vs us
  | _, _ => False
/-- a state that says no more than another; what was made since is forgotten -/
def LeS (s t : St) : Prop := LeL s.tm t.tm ∧ V.ltL t.hp.length t.tm = true ∧ ltObjs t.hp.length t.hp = true ∧ s.nb ≤ t.hp.length ∧ s.hp.take t.hp.length = t.hp ∧ s.nb = t.nb ∧ t.hp.length ≤ s.hp.length

theorem LeL.le : ∀ {vs us : List V}, LeL vs us → LeTm vs us
  | [], [], _ => .nil
  | v :: vs, u :: us, h => by
    obtain ⟨h1, h2⟩ := h
    rcases h1 with rfl | rfl | rfl | h1
    · exact .un (LeL.le h2)
    · exact .same (LeL.le h2)
    · exact .cp (LeL.le h2)
    · exact .to h1 (LeL.le h2)
  | [], _ :: _, h => h.elim
  | _ :: _, [], h => h.elim

theorem LeS.le {s t : St} (h : LeS s t) : s.le t := by
  obtain ⟨h1, h2, h3, h4, h5, h6, h7⟩ := h
  have := St.le_cut (s := s) t.hp.length h1.le h2 (by rw [h5]; exact h3) h4 h7
  rw [h5, h6] at this
  exact this

theorem LeS_mk {tm tm' : List V} {hp hp' : List IObj} {nb nb' : Nat} : LeS ⟨tm, hp, nb⟩ ⟨tm', hp', nb'⟩ = (LeL tm tm' ∧ V.ltL hp'.length tm' = true ∧ ltObjs hp'.length hp' = true ∧ nb ≤ hp'.length ∧ hp.take hp'.length = hp' ∧ nb = nb' ∧ hp'.length ≤ hp.length) := rfl
theorem LeL_nil : LeL [] [] = True := rfl
theorem LeL_cons {v u : V} {vs us : List V} : LeL (v :: vs) (u :: us) = (LeV v u ∧ LeL vs us) := rfl
theorem LeV_un {v : V} : LeV v .un = True := eq_true (.inl rfl)
theorem LeV_refl {v : V} : LeV v v = True := eq_true (.inr (.inl rfl))
theorem LeV_d {x y : D} : LeV (.d x) (.d y) = (x = y) := by
  refine propext ⟨?_, fun h => .inr (.inl (by rw [h]))⟩
  rintro (h | h | h | h)
  · cases h
  · injection h with h; exact h.symm
  · injection h with h; exact h.symm
  · cases h
theorem LeV_own {z z' : Nat} {xs ys : List D} : LeV (.own z xs) (.own z' ys) = (z = z' ∧ xs = ys) := by
  refine propext ⟨?_, fun h => .inr (.inl (by rw [h.1, h.2]))⟩
  rintro (h | h | h | h)
  · cases h
  · injection h with h h'; exact ⟨h.symm, h'.symm⟩
  · cases h
  · cases h
theorem LeV_own_d {z z' : Nat} {l : Bool} {x y : List D} : LeV (.own z x) (.d (.sl l z' y)) = (l = false ∧ z = z' ∧ x = y) := by
  refine propext ⟨?_, fun h => .inr (.inr (.inl (by rw [h.1, h.2.1, h.2.2]; rfl)))⟩
  rintro (h | h | h | h)
  · cases h
  · cases h
  · injection h with h; injection h with h h' h''; exact ⟨h, h'.symm, h''.symm⟩
  · cases h
theorem LeV_nil {z z' : Nat} : LeV (.nil z) (.nil z') = (z = z') := by
  refine propext ⟨?_, fun h => .inr (.inl (by rw [h]))⟩
  rintro (h | h | h | h)
  · cases h
  · injection h with h; exact h.symm
  · injection h with h; exact h.symm
  · cases h
theorem LeV_nil_own {z z' : Nat} {y : List D} : LeV (.nil z) (.own z' y) = (z = z' ∧ y = []) := by
  refine propext ⟨?_, fun h => .inr (.inr (.inr (by rw [h.1, h.2]; exact .own)))⟩
  rintro (h | h | h | h)
  · cases h
  · cases h
  · cases h
  · cases h; exact ⟨rfl, rfl⟩
theorem LeV_nil_d {z z' : Nat} {l : Bool} {y : List D} : LeV (.nil z) (.d (.sl l z' y)) = (z = z' ∧ y = []) := by
  refine propext ⟨?_, fun h => .inr (.inr (.inr (by rw [h.1, h.2]; exact .d)))⟩
  rintro (h | h | h | h)
  · cases h
  · cases h
  · cases h
  · cases h; exact ⟨rfl, rfl⟩
theorem LeV_nil_ref {z z' id off len cap : Nat} : LeV (.nil z) (.ref id z' off len cap) = (z = z' ∧ len = 0 ∧ cap = 0) := by
  refine propext ⟨?_, fun h => .inr (.inr (.inr (by rw [h.1, h.2.1, h.2.2]; exact .ref)))⟩
  rintro (h | h | h | h)
  · cases h
  · cases h
  · cases h
  · cases h; exact ⟨rfl, rfl, rfl⟩
theorem LeV_ref {id z off len cap id' z' off' len' cap' : Nat} : LeV (.ref id z off len cap) (.ref id' z' off' len' cap') = (id = id' ∧ z = z' ∧ off = off' ∧ len = len' ∧ cap = cap') := by
  refine propext ⟨?_, ?_⟩
  · rintro (h | h | h | h)
    · cases h
    · injection h with h1 h2 h3 h4 h5; exact ⟨h1.symm, h2.symm, h3.symm, h4.symm, h5.symm⟩
    · injection h with h1 h2 h3 h4 h5; exact ⟨h1.symm, h2.symm, h3.symm, h4.symm, h5.symm⟩
    · cases h
  · rintro ⟨rfl, rfl, rfl, rfl, rfl⟩; exact .inr (.inl rfl)
theorem LeV_ptr {id off id' off' : Nat} : LeV (.ptr id off) (.ptr id' off') = (id = id' ∧ off = off') := by
  refine propext ⟨?_, ?_⟩
  · rintro (h | h | h | h)
    · cases h
    · injection h with h1 h2; exact ⟨h1.symm, h2.symm⟩
    · injection h with h1 h2; exact ⟨h1.symm, h2.symm⟩
    · cases h
  · rintro ⟨rfl, rfl⟩; exact .inr (.inl rfl)
theorem LeV_map {id id' : Nat} : LeV (.map id) (.map id') = (id = id') := by
  refine propext ⟨?_, ?_⟩
  · rintro (h | h | h | h)
    · cases h
    · injection h with h1; exact h1.symm
    · injection h with h1; exact h1.symm
    · cases h
  · rintro rfl; exact .inr (.inl rfl)

/-! ### Drawn regions, for simp -/
theorem imp_congr_right' {a b c : Prop} (h : a → (b = c)) : (a → b) ↔ (a → c) := ⟨fun f x => h x ▸ f x, fun f x => (h x).symm ▸ f x⟩

section
variable {P : Program} {base : Nat} {all r : List Oper} {tm : List V} {hp : List IObj} {nb : Nat} {K : St → Prop} {d : Option Nat} {t : TypeId} {p : String} {af : Array Edge} {g : Option (Nat × Bool)}
theorem set_self {tm : List V} {i : Nat} {v : V} (h : tm[i]? = some v) : tm.set i v = tm := by
  apply List.ext_getElem?
  intro k
  rw [List.getElem?_set]
  split
  · rename_i e; subst e
    rw [h]; simp [(List.getElem?_eq_some_iff.1 h).1]
  · rfl
theorem f_move {x : Operand} : freeStep P base ⟨d, .move x, t, p, af, g⟩ ⟨tm, hp, nb⟩ K = K (St.put ⟨tm, hp, nb⟩ d (ev P t ⟨tm, hp, nb⟩ x).cp) := rfl
theorem f_assign {x : Operand} : freeStep P base ⟨d, .assign x, t, p, af, g⟩ ⟨tm, hp, nb⟩ K = K (St.put ⟨tm, hp, nb⟩ d (ev P t ⟨tm, hp, nb⟩ x).cp) := rfl
theorem f_load {u : TypeId} {x : Operand} : freeStep P base ⟨d, .load u x, t, p, af, g⟩ ⟨tm, hp, nb⟩ K = (match ev P 0 ⟨tm, hp, nb⟩ x with
    | .ptr id _ => id < base ∧ loadK P u (ev P 0 ⟨tm, hp, nb⟩ x) ⟨tm, hp, nb⟩ d false K
    | .aptr id _ _ _ => id < base ∧ loadK P u (ev P 0 ⟨tm, hp, nb⟩ x) ⟨tm, hp, nb⟩ d false K
    | v => loadK P u v ⟨tm, hp, nb⟩ d false K) := rfl
theorem f_extract {x : Operand} {ix : Nat} : freeStep P base ⟨d, .extract x ix, t, p, af, g⟩ ⟨tm, hp, nb⟩ K = (match ev P 0 ⟨tm, hp, nb⟩ x with
    | .tup vs => match vs[ix]? with
      | some v => v.isTup = false ∧ K (St.put ⟨tm, hp, nb⟩ d v.cp)
      | none => False
    | _ => False) := rfl
theorem f_call {c : Call} : freeStep P base ⟨d, .call c, t, p, af, g⟩ ⟨tm, hp, nb⟩ K = freeCall P c ⟨tm, hp, nb⟩ d K := rfl
theorem f_pick {c x y : Operand} : freeStep P base ⟨d, .pick c x y, t, p, af, g⟩ ⟨tm, hp, nb⟩ K = stepK P ⟨d, .pick c x y, t, p, af, g⟩ [] ⟨tm, hp, nb⟩ K := rfl
theorem f_alloc {u : TypeId} : freeStep P base ⟨d, .alloc u, t, p, af, g⟩ ⟨tm, hp, nb⟩ K = stepK P ⟨d, .alloc u, t, p, af, g⟩ [] ⟨tm, hp, nb⟩ K := rfl
theorem f_box {u : TypeId} {x : Operand} : freeStep P base ⟨d, .box u x, t, p, af, g⟩ ⟨tm, hp, nb⟩ K = stepK P ⟨d, .box u x, t, p, af, g⟩ [] ⟨tm, hp, nb⟩ K := rfl
theorem f_build {u : TypeId} {ps : Array (Nat × Operand)} : freeStep P base ⟨d, .build u ps, t, p, af, g⟩ ⟨tm, hp, nb⟩ K = stepK P ⟨d, .build u ps, t, p, af, g⟩ [] ⟨tm, hp, nb⟩ K := rfl
theorem f_buildSlice {u : TypeId} {n : Nat} {ps : Array (Nat × Operand)} : freeStep P base ⟨d, .buildSlice u n ps, t, p, af, g⟩ ⟨tm, hp, nb⟩ K = stepK P ⟨d, .buildSlice u n ps, t, p, af, g⟩ [] ⟨tm, hp, nb⟩ K := rfl
theorem f_makeSlice {u : TypeId} {x y : Operand} : freeStep P base ⟨d, .makeSlice u x y, t, p, af, g⟩ ⟨tm, hp, nb⟩ K = (match elemTy P u, elI P u, ev P 0 ⟨tm, hp, nb⟩ x, ev P 0 ⟨tm, hp, nb⟩ y with
  | some e, some (z, by_), .d (.int _ n), .d (.int _ m) => match (zeroCs P e).bind (ofCells P e) with
    | some zd => n = m ∧ 0 ≤ n ∧ by_ * n ≤ 281474976710656 ∧ n ≤ 9223372036854775807 ∧ d.isSome = true ∧ zd.flat.length = z ∧ 0 < z ∧ K (St.put ⟨tm, hp, nb⟩ d (.own z (List.replicate n.toNat zd)))
    | none => False
  | _, _, _, _ => False) := rfl
theorem f_bin {op : BinOp} {u u' : TypeId} {x y : Operand} : freeStep P base ⟨d, .binOp op u x y u', t, p, af, g⟩ ⟨tm, hp, nb⟩ K = (isNilC y = false ∧ stepK P ⟨d, .binOp op u x y u', t, p, af, g⟩ [] ⟨tm, hp, nb⟩ K) := rfl
theorem f_un {op : UnOp} {u : TypeId} {x : Operand} : freeStep P base ⟨d, .unOp op u x, t, p, af, g⟩ ⟨tm, hp, nb⟩ K = stepK P ⟨d, .unOp op u x, t, p, af, g⟩ [] ⟨tm, hp, nb⟩ K := rfl
theorem f_makeFunc {f : Fn} {fs cs : Array Operand} : freeStep P base ⟨d, .makeFunc f fs cs, t, p, af, g⟩ ⟨tm, hp, nb⟩ K = stepK P ⟨d, .makeFunc f fs cs, t, p, af, g⟩ [] ⟨tm, hp, nb⟩ K := rfl
theorem f_slice {u : TypeId} {x : Operand} {lo hi mx : Option Operand} : freeStep P base ⟨d, .slice u x lo hi mx, t, p, af, g⟩ ⟨tm, hp, nb⟩ K = stepK P ⟨d, .slice u x lo hi mx, t, p, af, g⟩ [] ⟨tm, hp, nb⟩ K := rfl
theorem f_fieldAddr {u : TypeId} {x : Operand} {f : Nat} : freeStep P base ⟨d, .fieldAddr u x f, t, p, af, g⟩ ⟨tm, hp, nb⟩ K = stepK P ⟨d, .fieldAddr u x f, t, p, af, g⟩ [] ⟨tm, hp, nb⟩ K := rfl
theorem f_field {u : TypeId} {x : Operand} {f : Nat} : freeStep P base ⟨d, .field u x f, t, p, af, g⟩ ⟨tm, hp, nb⟩ K = stepK P ⟨d, .field u x f, t, p, af, g⟩ [] ⟨tm, hp, nb⟩ K := rfl
theorem f_indexAddr {u : TypeId} {x i : Operand} : freeStep P base ⟨d, .indexAddr u x i, t, p, af, g⟩ ⟨tm, hp, nb⟩ K = (match (ev P u ⟨tm, hp, nb⟩ x).cp with
    | .ref id _ _ _ _ => id < base ∧ stepK P ⟨d, .indexAddr u x i, t, p, af, g⟩ [] ⟨tm, hp, nb⟩ K
    | _ => stepK P ⟨d, .indexAddr u x i, t, p, af, g⟩ [] ⟨tm, hp, nb⟩ K) := rfl
theorem f_lookup {u : TypeId} {x k : Operand} {ok : Bool} : freeStep P base ⟨d, .lookup u x k ok, t, p, af, g⟩ ⟨tm, hp, nb⟩ K = (match ev P u ⟨tm, hp, nb⟩ x with
    | .map id => id < base ∧ stepK P ⟨d, .lookup u x k ok, t, p, af, g⟩ [] ⟨tm, hp, nb⟩ K
    | _ => False) := rfl
theorem f_index {u : TypeId} {x i : Operand} : freeStep P base ⟨d, .index u x i, t, p, af, g⟩ ⟨tm, hp, nb⟩ K = stepK P ⟨d, .index u x i, t, p, af, g⟩ [] ⟨tm, hp, nb⟩ K := rfl
theorem f_convert {u u' : TypeId} {x : Operand} : freeStep P base ⟨d, .convert u u' x, t, p, af, g⟩ ⟨tm, hp, nb⟩ K = stepK P ⟨d, .convert u u' x, t, p, af, g⟩ [] ⟨tm, hp, nb⟩ K := rfl

/-- all of the region is free -/
theorem draw_all {Q : Ex → St → Prop} {id : Nat} {ops : Array Oper} {s : St} (hmo : P.follows .mixedOrders = true) (hd : drawOK ops.size ops.toList = true)
    (hk : freeK P s.hp.length ops.toList ops.toList s (Q .normal)) : SemC P (.region id ops true) Q s := by
  refine draw_sem ops.size hmo hd (Nat.le_refl _) ?_
  have e1 : ops.toList.take ops.size = ops.toList := by rw [← Array.length_toList, List.take_length]
  have e2 : ops.toList.drop ops.size = [] := by rw [← Array.length_toList, List.drop_length]
  rw [e1, e2]; exact hk

end

attribute [simp] V.bare LeS_mk LeL_nil LeL_cons LeV_un LeV_refl LeV_d LeV_own LeV_own_d LeV_nil LeV_nil_own LeV_nil_d LeV_nil_ref LeV_ref LeV_ptr LeV_map V.lt V.ltL IObj.lt ltObjs
attribute [simp] f_makeSlice f_move f_assign f_load f_extract f_call f_pick f_alloc f_box f_build f_buildSlice f_bin f_un f_makeFunc f_slice f_fieldAddr f_field f_indexAddr f_convert f_lookup f_index kont1_run fc_val fc_len fc_append fc_min fc_max
attribute [simp] gd_tt gd_ff gd_tf gd_ft
attribute [simp] ofCells cp_skip gd_t gd_f R_cell
attribute [simp] x_move x_assign x_pick x_alloc x_box x_build x_buildSlice x_load x_store x_bin x_un x_makeFunc x_slice x_fieldAddr x_field x_indexAddr x_extract x_call x_convert x_makeSlice x_index x_makeMap x_lookup x_mapUpdate x_range x_next
attribute [simp] e_tmp e_const e_func c_int c_bool c_str c_nil c_ptr put_some put_none mv_false' mv_tmp mv_const mv_func
attribute [simp] cp_tup cp1_d cp1_own cp1_nil cp1_ref cp1_ptr cp1_st cp1_fn cp1_map cp_d cp_own cp_ptr cp_lptr cp_aptr cp_un cp_fn cp_yld cp_nil cp_st cp_map cp_ref tup_d tup_own tup_ptr tup_lptr tup_aptr tup_un tup_fn tup_yld tup_tup tup_nil tup_st tup_map tup_ref
attribute [simp] kn_d kn_own kn_nil kn_st kn_map kn_ref kn_ptr kn_aptr kn_lptr kn_fn kn_yld kn_un
attribute [simp] t_normal t_ret t_exit b_normal b_ret b_exit kont_run k_val k_append k0_append k_copy k_clear k_cap k_delete k0_len k_len k_min k_max argVs_mk takes loadK storeK binK sliceK isZero sliceIx intOp partD partV V.flat D.flat St.at_ allD mkAgg allKnown V.d? fillD fillEl appBase ptrEq
attribute [simp] r_ret r_normal rh_ret rh_normal R_tmp Rs_nil Rs_cons LeR_tup LeR_d LeR_own LeR_nil LeRL Le1_d Le1_own Le1_own_d Le1_nil Le1_nil_own Le1_nil_d fz_d fz_own fz_nil fz_ref fz_st fz_tup f2_d f2_own f2_nil f2_ref f2_st f1_d f1_own f1_nil f1_ref
attribute [simp] nc_tmp nc_int nc_bool nc_str nc_ptr nc_nil nc_fn nilK
attribute [simp] appendRefK appendNewK copyK clearK deleteK appElems elemsOf zeroEl lookupK mapUpdateK nextK lendL lendV lend1 lendL1
end Go.Idl
end
section
namespace Go.Idl
set_option linter.unusedSimpArgs false
set_option linter.unusedVariables false

def checkPrevM (m0 i mask u w : Nat) (al : Bool) : Nat → List Seen → Bool
  | _, [] => true
  | j, p :: r => (Nat.testBit mask j || (decide (i < m0) && !conflictM u w al p.u p.w p.al) || decide (m0 ≤ j)) && checkPrevM m0 i mask u w al (j + 1) r

/-- the first m do not feel each other unless one waits; all others wait for these -/
def mixGo (all : List Oper) (m0 : Nat) : Nat → List Oper → List Seen → List Nat → Bool
  | _, [], _, _ => true
  | i, o :: r, prev, acc => forceN (maskOf o acc) fun mask => forceN (maskL (opUses all o)) fun u => forceN (maskL (opWrites o)) fun w =>
      (o.after.toList.all fun e => !Region.binds .any e || decide (e.on < i)) && checkPrevM m0 i mask u w (isAlloc o) 0 prev && mixGo all m0 (i + 1) r (prev ++ [⟨u, w, isAlloc o⟩]) (acc ++ [mask])

theorem checkPrevM_spec {m0 i mask u w : Nat} {al : Bool} : ∀ {l : List Seen} {j : Nat}, checkPrevM m0 i mask u w al j l = true → ∀ k p, l[k]? = some p → Nat.testBit mask (j + k) = true ∨ (i < m0 ∧ conflictM u w al p.u p.w p.al = false) ∨ m0 ≤ j + k
  | [], _, _, k, p, hp => by simp at hp
  | q :: r, j, h, k, p, hp => by
    simp only [checkPrevM, Bool.and_eq_true, Bool.or_eq_true, decide_eq_true_eq, Bool.not_eq_true'] at h
    cases k with
    | zero => simp at hp; subst hp; rcases h.1 with (h | h) | h
              · exact .inl h
              · exact .inr (.inl h)
              · exact .inr (.inr h)
    | succ k =>
      have := checkPrevM_spec h.2 k p (by simpa using hp)
      rw [show j + (k + 1) = j + 1 + k by omega]; exact this

theorem mixGo_spec {all : List Oper} {m0 : Nat} : ∀ (rest : List Oper) (i : Nat) (prev : List Seen) (acc : List Nat), mixGo all m0 i rest prev acc = true → rest = all.drop i → acc.length = i → prev = (all.take i).map (fun o => ⟨maskL (opUses all o), maskL (opWrites o), isAlloc o⟩) →
    ∀ k o, i ≤ k → all[k]? = some o → (∀ e ∈ o.after, Region.binds .any e = true → e.on < k) ∧ ∀ j p, j < k → all[j]? = some p → Nat.testBit ((predsL rest acc).getD k 0) j = true ∨ (k < m0 ∧ conflict all o p = false) ∨ m0 ≤ j
  | [], i, prev, acc, _, hr, _, _, k, o, hk, ho => by
    have hlt := (List.getElem?_eq_some_iff.1 ho).1
    have := congrArg List.length hr
    simp at this; omega
  | q :: r, i, prev, acc, h, hr, ha, hp, k, o, hk, ho => by
    simp only [mixGo, forceN_eq, Bool.and_eq_true] at h
    obtain ⟨⟨h1, h2⟩, h3⟩ := h
    have hq : all[i]? = some q := by have := congrArg (·[0]?) hr; simpa using this.symm
    have hil : i < all.length := (List.getElem?_eq_some_iff.1 hq).1
    rcases Nat.lt_or_eq_of_le hk with hlt | rfl
    · have := mixGo_spec r (i + 1) _ _ h3 (by have := congrArg List.tail hr; simpa [List.tail_drop] using this) (by simp [ha]) (by rw [hp, List.take_succ, hq]; simp) k o hlt ho
      simpa only [predsL] using this
    · rw [hq] at ho; injection ho with ho; subst ho
      refine ⟨fun e he hb => ?_, fun j p hj hpj => ?_⟩
      · rw [List.all_eq_true] at h1
        have := h1 e (by simpa using he)
        simpa [hb] using this
      · have hpl : prev[j]? = some ⟨maskL (opUses all p), maskL (opWrites p), isAlloc p⟩ := by
          rw [hp, List.getElem?_map, List.getElem?_take_of_lt hj, hpj]; rfl
        have := checkPrevM_spec h2 j _ hpl
        rw [Nat.zero_add] at this
        have hmask : (predsL (q :: r) acc).getD i 0 = maskOf q acc := by
          unfold predsL
          rw [predsL_get r _ i (by simp [ha]), List.getD, List.getElem?_append_right (by omega)]
          simp [ha]
        rw [hmask]; exact this

/-- what is asked of the call: nobody else of the free part touches where its answer goes, nor, behind it, what it reads -/
def xChk (all : List Oper) (ox : Oper) (x : Nat) : Nat → List Oper → Bool
  | _, [] => true
  | i, o :: r => (Nat.beq i x || (!isAlloc o && Nat.beq (Nat.land (maskL (opWrites ox)) (Nat.lor (maskL (opUses all o)) (maskL (opWrites o)))) 0 && (decide (i < x) || Nat.beq (Nat.land (maskL (opWrites o)) (maskL (opUses all ox))) 0))) && xChk all ox x (i + 1) r

theorem land_zero {a b : List Nat} (h : Nat.beq (Nat.land (maskL a) (maskL b)) 0 = true) : ∀ x ∈ a, x ∉ b := fun x hx hy => by
  have h0 : (maskL a) &&& (maskL b) = 0 := Nat.eq_of_beq_eq_true h
  have : Nat.testBit ((maskL a) &&& (maskL b)) x = true := by rw [Nat.testBit_and, maskL_iff.2 hx, maskL_iff.2 hy]; rfl
  rw [h0] at this; simp at this
theorem land_zero2 {a b c : List Nat} (h : Nat.beq (Nat.land (maskL a) (Nat.lor (maskL b) (maskL c))) 0 = true) : ∀ x ∈ a, x ∉ b ∧ x ∉ c := fun x hx => by
  have h0 : (maskL a) &&& ((maskL b) ||| (maskL c)) = 0 := Nat.eq_of_beq_eq_true h
  have key : ∀ y, Nat.testBit ((maskL a) &&& ((maskL b) ||| (maskL c))) y = false := fun y => by rw [h0]; simp
  have k := key x
  rw [Nat.testBit_and, Nat.testBit_or, maskL_iff.2 hx, Bool.true_and, Bool.or_eq_false_iff] at k
  exact ⟨fun hh => by (rw [maskL_iff.2 hh] at k; cases k.1), fun hh => by (rw [maskL_iff.2 hh] at k; cases k.2)⟩

theorem xChk_spec {all : List Oper} {ox : Oper} {x : Nat} : ∀ {l : List Oper} {b : Nat}, xChk all ox x b l = true → ∀ k o, l[k]? = some o → b + k ≠ x →
    isAlloc o = false ∧ (∀ t ∈ opWrites ox, t ∉ opUses all o ∧ t ∉ opWrites o) ∧ (x < b + k → ∀ t ∈ opWrites o, t ∉ opUses all ox)
  | [], _, _, k, o, ho, _ => by simp at ho
  | q :: l, b, h, k, o, ho, hne => by
    simp only [xChk, Bool.and_eq_true, Bool.or_eq_true, Bool.not_eq_true', decide_eq_true_eq] at h
    cases k with
    | zero =>
      simp at ho; subst ho
      rcases h.1 with h | ⟨⟨h1, h2⟩, h3⟩
      · exact absurd (Nat.eq_of_beq_eq_true h) (by simpa using hne)
      · refine ⟨h1, land_zero2 h2, fun hlt => ?_⟩
        rcases h3 with h3 | h3
        · omega
        · exact land_zero h3
    | succ k =>
      have := xChk_spec h.2 k o (by simpa using ho) (by omega)
      rw [show b + (k + 1) = b + 1 + k by omega]; exact this

section
variable {P : Program} {κ : Ctx} {K : St → Prop}

def noEff : Eff := { ws := [], push := none }
theorem noEff_app (s : St) : noEff.app s = s := by simp [noEff, Eff.app, writeTm]

/-- what the call leaves -/
def xSt (dst : Option Nat) (r : V) (ext : List IObj) (s : St) : St := ({ s with hp := s.hp ++ ext } : St).put dst r

theorem writeTm_set (ws : List (Nat × V)) (tm : List V) (d : Nat) (r : V) (h : ∀ p ∈ ws, p.1 ≠ d) : writeTm (tm.set d r) ws = (writeTm tm ws).set d r := by
  apply List.ext_getElem?
  intro i
  by_cases hw : ∃ p ∈ ws, p.1 = i
  · have hid : d ≠ i := by rintro rfl; obtain ⟨p, hp, e⟩ := hw; exact h p hp e
    rw [List.getElem?_set_ne hid]
    exact writeTm_get_congr ws _ _ _ (by simp) (.inl hw)
  · have hn : ∀ p ∈ ws, p.1 ≠ i := fun p hp e => hw ⟨p, hp, e⟩
    rw [writeTm_get_not ws _ _ hn]
    by_cases hid : d = i
    · subst hid
      simp only [List.getElem?_set_self', writeTm_get_not ws tm _ hn]
    · rw [List.getElem?_set_ne hid, List.getElem?_set_ne hid, writeTm_get_not ws tm _ hn]

theorem app_xSt {e : Eff} {dst : Option Nat} {r : V} {ext : List IObj} {s : St} (hw : ∀ p ∈ e.ws, ∀ d, dst = some d → p.1 ≠ d) (hp : e.push = none) : e.app (xSt dst r ext s) = xSt dst r ext (e.app s) := by
  cases dst with
  | none => simp [xSt, Eff.app, St.put, hp]
  | some d => simp [xSt, Eff.app, St.put, hp, writeTm_set e.ws s.tm d r fun p hpm => hw p hpm d rfl]

theorem count_prefix {listed : Array Bool} {m : Nat} (hlm : ∀ j, listed.getD j false = decide (j < m)) (hm : m ≤ listed.size) : m + listed.toList.count false = listed.size := by
  have e1 : listed.toList = (List.range listed.size).map fun j => decide (j < m) := by
    apply List.ext_getElem
    · simp
    · intro i h1 h2
      have := hlm i
      simp only [List.getElem_map, List.getElem_range]
      rw [← this]
      simp at h1
      simp [Array.getD, h1]
  rw [e1]
  have e2 : ∀ n, m ≤ n → m + ((List.range n).map fun j => decide (j < m)).count false = n := by
    intro n
    induction n with
    | zero => intro h; simp; omega
    | succ n ihn =>
      intro h
      rw [List.range_succ, List.map_append, List.count_append]
      rcases Nat.lt_or_ge n m with h1 | h1
      · have : m = n + 1 := by omega
        subst this
        have e3 : ((List.range n).map fun j => decide (j < n + 1)).count false = 0 := by
          rw [List.count_eq_zero]
          intro hmem
          simp only [List.mem_map, List.mem_range] at hmem
          obtain ⟨j, hj, hj2⟩ := hmem
          simp at hj2; omega
        rw [e3]; simp
      · have := ihn h1
        have e4 : decide (n < m) = false := by simp; omega
        simp [e4]; omega
  exact e2 _ hm

/-- what the test says of the region -/
structure MixOK (m x : Nat) (ox : Oper) (ops : Array Oper) : Prop where
  lt : ∀ i o, ops[i]? = some o → ∀ e ∈ o.after, Region.binds .any e = true → e.on < i
  all : ∀ i j o p, ops[i]? = some o → ops[j]? = some p → j < i → j < m → Nat.testBit ((predsL ops.toList []).getD i 0) j = true ∨ (i < m ∧ conflict ops.toList o p = false)
  hm : m ≤ ops.size
  xm : x < m
  hx : ops[x]? = some ox
  xs : ∀ i o, i < m → ops[i]? = some o → i ≠ x → isAlloc o = false ∧ (∀ t ∈ opWrites ox, t ∉ opUses ops.toList o ∧ t ∉ opWrites o) ∧ (x < i → ∀ t ∈ opWrites o, t ∉ opUses ops.toList ox)

section
variable {ops : Array Oper} {m x base : Nat} {ox : Oper} {Q : Exit → Act → World → Prop} {es : List Eff} {s : St}

structure EsOK (P : Program) (base m x : Nat) (ops : Array Oper) (es : List Eff) (s : St) : Prop where
  len : es.length = m
  hb : base ≤ s.hp.length
  xe : es[x]? = some noEff
  he : ∀ i o, i < m → i ≠ x → ops[i]? = some o → ∃ e, es[i]? = some e ∧ (∀ p ∈ e.ws, p.1 ∈ opWrites o) ∧ e.push = none ∧
    ∀ s', Agree ops.toList base o (stL (fun _ => true) 0 (es.take i) s) s' → freeOp P base ops.toList o s' (fun x => x = e.app s')

theorem EsOK.hp (hE : EsOK P base m x ops es s) (hm : m ≤ ops.size) (L : Nat → Bool) : (stL L 0 es s).hp = s.hp := by
  refine stL_hp_none L 0 es s fun k e hk _ => ?_
  have hkm : k < m := by rw [← hE.len]; exact (List.getElem?_eq_some_iff.1 hk).1
  by_cases hkx : k = x
  · subst hkx; rw [hE.xe] at hk; injection hk with hk; rw [← hk]; rfl
  · obtain ⟨e', h1, _, h3, _⟩ := hE.he k (ops[k]'(by omega)) hkm hkx (by simp)
    rw [hk] at h1; injection h1 with h1; subst h1; exact h3

/-- an operation of the free part agrees -/
theorem mix_agree (hM : MixOK m x ox ops) (hE : EsOK P base m x ops es s) {listed : Array Bool} (hc : ∀ i, listed.getD i false = true → Waits ops listed i) {i : Nat} {o : Oper} (him : i < m) (hix : i ≠ x) (ho : ops[i]? = some o) (h2 : listed.getD i false = false) (h3 : Waits ops listed i) {s' : St}
    (htm : ∀ y ∈ opUses ops.toList o, s'.tm[y]? = (stL (fun j => listed.getD j false) 0 es s).tm[y]?) (hhp : ∀ id, id < base → s'.hp[id]? = s.hp[id]?) : Agree ops.toList base o (stL (fun _ => true) 0 (es.take i) s) s' := by
  have hpre : ∀ j, Nat.testBit ((predsL ops.toList []).getD i 0) j = true → listed.getD j false = true := preds_listed ops.toList [] (by simp) hc (by simp) i h3
  rw [stL_take]
  constructor
  · intro y hy
    rw [htm y hy]
    refine stL_get _ _ y 0 es s s rfl rfl fun k e' hk hw => ?_
    have hkm : k < m := by rw [← hE.len]; exact (List.getElem?_eq_some_iff.1 hk).1
    simp only [Nat.zero_add]
    by_cases hkx : k = x
    · subst hkx; rw [hE.xe] at hk; injection hk with hk; subst hk
      obtain ⟨p, hp, _⟩ := hw; simp [noEff] at hp
    have hp : ops[k]? = some (ops[k]'(by have := hM.hm; omega)) := by simp
    obtain ⟨e'', r1, r2, _⟩ := hE.he k _ hkm hkx hp
    rw [hk] at r1; injection r1 with r1; subst r1
    obtain ⟨pr, hpr, hprx⟩ := hw
    have hxw : y ∈ opWrites (ops[k]'(by have := hM.hm; omega)) := by rw [← hprx]; exact r2 pr hpr
    rcases Nat.lt_trichotomy k i with hlt | rfl | hgt
    · rcases hM.all i k _ _ ho hp hlt hkm with hin | ⟨_, hcf⟩
      · rw [hpre k hin]; simp [hlt]
      · have := conflict_of_meet hxw hy
        rw [hcf] at this; cases this
    · rw [h2]; simp
    · have : listed.getD k false = false := by
        by_cases hl : listed.getD k false = true
        · rcases hM.all k i _ _ hp ho hgt him with hin | ⟨_, hcf⟩
          · have := preds_listed ops.toList [] (by simp) hc (by simp) k (hc k hl) i hin
            rw [h2] at this; cases this
          · exact absurd hy ((conflict_false hcf).1 y hxw).1
        · simpa using hl
      rw [this]; simp; omega
  · intro id hid
    obtain ⟨t, e⟩ := stL_hp (fun j => decide (j < 0 + i)) 0 es s
    rw [e, hhp id hid, List.getElem?_append_left (by have := hE.hb; omega)]
  · intro hal
    rw [(hM.xs i o him ho hix).1] at hal; cases hal

/-- one more of the free part is done -/
theorem mix_insert (hM : MixOK m x ox ops) (hE : EsOK P base m x ops es s) {listed : Array Bool} (hs : listed.size = ops.size) (hc : ∀ i, listed.getD i false = true → Waits ops listed i) {i : Nat} {o : Oper} {e : Eff} (him : i < m) (hix : i ≠ x) (ho : ops[i]? = some o) (he : es[i]? = some e) (hw : ∀ p ∈ e.ws, p.1 ∈ opWrites o) (h2 : listed.getD i false = false) (h3 : Waits ops listed i) :
    e.app (stL (fun j => listed.getD j false) 0 es s) = stL (fun j => (listed.setIfInBounds i true).getD j false) 0 es s := by
  have hil : i < listed.size := by have := hM.hm; omega
  rw [stL_insert (fun j => listed.getD j false) i e 0 es s (fun _ _ _ => trivial) (Nat.zero_le _) (by simpa using he) h2 ?_]
  · rw [show (fun j => (listed.setIfInBounds i true).getD j false) = fun j => listed.getD j false || j == i from funext fun j => getD_set _ _ _ hil]
  · intro k f hf' hik hl
    simp only [Nat.zero_add] at hik hl
    have hkm : k < m := by rw [← hE.len]; exact (List.getElem?_eq_some_iff.1 hf').1
    by_cases hkx : k = x
    · subst hkx; rw [hE.xe] at hf'; injection hf' with hf'; subst hf'
      exact ⟨fun p _ q hq => by simp [noEff] at hq, .inr rfl⟩
    have hp : ops[k]? = some (ops[k]'(by have := hM.hm; omega)) := by simp
    obtain ⟨e'', r1, r2, r3, _⟩ := hE.he k _ hkm hkx hp
    rw [hf'] at r1; injection r1 with r1; subst r1
    rcases hM.all k i _ _ hp ho hik him with hin | ⟨_, hcf⟩
    · have := preds_listed ops.toList [] (by simp) hc (by simp) k (hc k hl) i hin
      rw [h2] at this; cases this
    · exact ⟨fun p hp' q hq hpq => absurd (hw p hp') ((conflict_false hcf).1 _ (hpq ▸ r2 q hq)).2, .inr r3⟩

theorem mix_im (hM : MixOK m x ox ops) {listed : Array Bool} (hc : ∀ i, listed.getD i false = true → Waits ops listed i) {i : Nat} (hi : i < ops.size) (h3 : Waits ops listed i) (hfin : ¬ ∀ j, j < m → listed.getD j false = true) : i < m := by
  rcases Nat.lt_or_ge i m with h' | h'
  · exact h'
  · exfalso
    refine hfin fun j hj => ?_
    have hm := hM.hm
    rcases hM.all i j ops[i] (ops[j]'(by omega)) (by simp) (by simp) (by omega) hj with hin | ⟨hlm, _⟩
    · exact preds_listed ops.toList [] (by simp) hc (by simp) i h3 j hin
    · omega

theorem mix_nil (hM : MixOK m x ox ops) {listed : Array Bool} (hs : listed.size = ops.size) (h : Region.ready .any ops listed = []) : ∀ i, i < ops.size → listed.getD i false = true := by
  intro i
  induction i using Nat.strongRecOn with
  | ind i ih =>
    intro hi
    refine Classical.byContradiction fun hno => ?_
    have : i ∈ Region.ready .any ops listed := (ready_iff hs).2 ⟨hi, by simpa using hno, fun o ho e he hb => by
      have := hM.lt i o ho e he hb
      exact ih e.on this (by omega)⟩
    rw [h] at this; cases this

/-- behind the call -/
theorem mixA (hM : MixOK m x ox ops) (hE : EsOK P base m x ops es s) {r : V} {ext : List IObj} (hK : K (xSt ox.dst r ext (stL (fun _ => true) 0 es s)))
    (hfin : ∀ (listed : Array Bool) s' a' w', listed.size = ops.size → (∀ j, listed.getD j false = decide (j < m)) → (∀ i, listed.getD i false = true → Waits ops listed i) → K s' → Rel κ s' a' w' → wpAnyIn κ.F 0 P .any ops Q (ops.size - m) listed a' w') :
    ∀ (fuel : Nat) (listed : Array Bool) (a : Act) (w : World), listed.toList.count false = fuel → listed.size = ops.size → (∀ i, listed.getD i false = true → i < m) → (∀ i, listed.getD i false = true → Waits ops listed i) → listed.getD x false = true →
    Rel κ (xSt ox.dst r ext (stL (fun j => listed.getD j false) 0 es s)) a w → wpAnyIn κ.F 0 P .any ops Q fuel listed a w := by
  intro fuel
  induction fuel with
  | zero =>
    intro listed a w hf hs hlt hc hxl h
    have hall : ∀ i, i < ops.size → listed.getD i false = true := fun i hi => by
      by_cases e : listed.getD i false = true
      · exact e
      · exfalso
        have e' : listed[i]'(by omega) = false := by simpa [Array.getD, show i < listed.size by omega] using e
        have : 0 < listed.toList.count false := List.count_pos_iff.2 (by rw [← e']; simp)
        omega
    have hm := hM.hm
    have hms : ops.size = m := by
      rcases Nat.lt_or_ge m ops.size with h1 | h1
      · have := hlt m (hall m h1); omega
      · omega
    have := hfin listed _ a w hs (fun j => by
      by_cases e : j < m
      · rw [hall j (by omega)]; simp [e]
      · have : ¬ listed.getD j false = true := fun hh => e (hlt j hh)
        simp [e]; simpa using this) hc hK (by
      rw [stL_congr _ (fun _ => true) 0 es s fun k hk => by simpa using hall k (by have := hE.len; omega)] at h
      exact h)
    rwa [hms, Nat.sub_self] at this
  | succ fuel ih =>
    intro listed a w hf hs hlt hc hxl h
    have hm := hM.hm
    by_cases hfi : ∀ i, i < m → listed.getD i false = true
    · have hlm : ∀ j, listed.getD j false = decide (j < m) := fun j => by
        by_cases e : j < m
        · rw [hfi j e]; simp [e]
        · have : ¬ listed.getD j false = true := fun hh => e (hlt j hh)
          simp [e]; simpa using this
      have hcnt := count_prefix hlm (by omega)
      rw [hf, hs] at hcnt
      rw [stL_congr _ (fun _ => true) 0 es s fun k hk => by simpa using hfi k (by have := hE.len; omega)] at h
      have := hfin listed _ a w hs hlm hc hK h
      rwa [show ops.size - m = fuel + 1 by omega] at this
    · refine ⟨fun hn => absurd (fun i hi => mix_nil hM hs hn i (by omega)) hfi, fun i hi => ?_⟩
      obtain ⟨h1, h2, h3⟩ := (ready_iff hs).1 hi
      have ho : ops[i]? = some ops[i] := by simp [h1]
      have him := mix_im hM hc h1 h3 hfi
      have hix : i ≠ x := by rintro rfl; rw [hxl] at h2; cases h2
      obtain ⟨e, q1, q2, q3, q4⟩ := hE.he i _ him hix ho
      obtain ⟨x1, x2, x3⟩ := hM.xs i _ him ho hix
      have hd : ∀ d, ox.dst = some d → d ∈ opWrites ox := fun d hd => List.mem_append_left _ (by simp [hd])
      have hag : Agree ops.toList base ops[i] (stL (fun _ => true) 0 (es.take i) s) (xSt ox.dst r ext (stL (fun j => listed.getD j false) 0 es s)) := by
        refine mix_agree hM hE hc him hix ho h2 h3 (fun y hy => ?_) fun id hid => ?_
        · cases hdst : ox.dst with
          | none => rfl
          | some d =>
            have : d ≠ y := by rintro rfl; exact (x2 d (hd d hdst)).1 hy
            simp only [xSt, St.put]
            rw [List.getElem?_set_ne this]
        · have hh : (xSt ox.dst r ext (stL (fun j => listed.getD j false) 0 es s)).hp = (stL (fun j => listed.getD j false) 0 es s).hp ++ ext := by
            cases ox.dst <;> rfl
          rw [hh, hE.hp hm, List.getElem?_append_left (by have := hE.hb; omega)]
      refine freeOp_sound h ho (q4 _ hag) fun s' a' w' hs' hr' => ?_
      subst hs'
      rw [app_xSt (fun p hp d hdd => by rintro rfl; exact (x2 _ (hd _ hdd)).2 (q2 p hp)) q3, mix_insert hM hE hs hc him hix ho q1 q2 h2 h3] at hr'
      refine ih _ a' w' ?_ (by simpa using hs) (fun j hj => ?_) (waits_set (by omega) h3 hc) ?_ hr'
      · have := count_set (l := listed) (i := i) (by omega) h2; omega
      · rw [getD_set _ _ _ (by omega)] at hj
        simp only [Bool.or_eq_true, beq_iff_eq] at hj
        rcases hj with hj | rfl
        · exact hlt j hj
        · exact him
      · rw [getD_set _ _ _ (by omega), hxl]; rfl

theorem put_hp (s : St) (d : Option Nat) (v : V) : (s.put d v).hp = s.hp := by cases d <;> rfl

/-- the call's answer goes to its place, what it made lies at the end -/
def callX (P : Program) (c : Call) (s : St) (dst : Option Nat) (K : St → Prop) : Prop :=
  match c.callee with
  | .value g => match ev P 0 s g with
    | .fn (.func f) caps => hasBody P f = true ∧ (argVs P s c ++ caps).all V.bare = true ∧ CallK P f (argVs P s c ++ caps) s.hp fun r hp' => (∃ ext, hp' = s.hp ++ ext) ∧ K ({ s with hp := hp' }.put dst r)
    | _ => False
  | _ => False

/-- ahead of the call -/
theorem mixB (hM : MixOK m x ox ops) (hE : EsOK P base m x ops es s) {c : Call} (hop : ox.op = .call c) (hg : ox.guard = none) (hcall : callX P c (stL (fun _ => true) 0 es s) ox.dst K)
    (hfin : ∀ (listed : Array Bool) s' a' w', listed.size = ops.size → (∀ j, listed.getD j false = decide (j < m)) → (∀ i, listed.getD i false = true → Waits ops listed i) → K s' → Rel κ s' a' w' → wpAnyIn κ.F 0 P .any ops Q (ops.size - m) listed a' w') :
    ∀ (fuel : Nat) (listed : Array Bool) (a : Act) (w : World), listed.toList.count false = fuel → listed.size = ops.size → (∀ i, listed.getD i false = true → i < m) → (∀ i, listed.getD i false = true → Waits ops listed i) → listed.getD x false = false →
    Rel κ (stL (fun j => listed.getD j false) 0 es s) a w → wpAnyIn κ.F 0 P .any ops Q fuel listed a w := by
  intro fuel
  induction fuel with
  | zero =>
    intro listed a w hf hs hlt hc hxl h
    exfalso
    have hm := hM.hm
    have hxm := hM.xm
    have e' : listed[x]'(by omega) = false := by simpa [Array.getD, show x < listed.size by omega] using hxl
    have : 0 < listed.toList.count false := List.count_pos_iff.2 (by rw [← e']; simp)
    omega
  | succ fuel ih =>
    intro listed a w hf hs hlt hc hxl h
    have hm := hM.hm
    have hxm := hM.xm
    have hfi : ¬ ∀ i, i < m → listed.getD i false = true := fun hh => by rw [hh x hxm] at hxl; cases hxl
    refine ⟨fun hn => absurd (fun i hi => mix_nil hM hs hn i (by omega)) hfi, fun i hi => ?_⟩
    obtain ⟨h1, h2, h3⟩ := (ready_iff hs).1 hi
    have ho : ops[i]? = some ops[i] := by simp [h1]
    have him := mix_im hM hc h1 h3 hfi
    by_cases hix : i = x
    · -- the call itself
      subst hix
      have hox : ops[i] = ox := by have := hM.hx; rw [ho] at this; injection this
      have hpre : ∀ j, Nat.testBit ((predsL ops.toList []).getD i 0) j = true → listed.getD j false = true := preds_listed ops.toList [] (by simp) hc (by simp) i h3
      have hag : ∀ y ∈ opUses ops.toList ox, (stL (fun j => listed.getD j false) 0 es s).tm[y]? = (stL (fun _ => true) 0 es s).tm[y]? := fun y hy => by
        refine stL_get _ _ y 0 es s s rfl rfl fun k e' hk hw => ?_
        have hkm : k < m := by rw [← hE.len]; exact (List.getElem?_eq_some_iff.1 hk).1
        simp only [Nat.zero_add]
        by_cases hkx : k = i
        · subst hkx; rw [hE.xe] at hk; injection hk with hk; subst hk
          obtain ⟨p, hp, _⟩ := hw; simp [noEff] at hp
        have hp : ops[k]? = some (ops[k]'(by omega)) := by simp
        obtain ⟨e'', r1, r2, _⟩ := hE.he k _ hkm hkx hp
        rw [hk] at r1; injection r1 with r1; subst r1
        obtain ⟨pr, hpr, hprx⟩ := hw
        have hxw : y ∈ opWrites (ops[k]'(by omega)) := by rw [← hprx]; exact r2 pr hpr
        rcases Nat.lt_trichotomy k i with hlt' | rfl | hgt
        · rcases hM.all i k _ _ ho hp hlt' hkm with hin | ⟨_, hcf⟩
          · exact hpre k hin
          · rw [hox] at hcf
            have := conflict_of_meet hxw hy
            rw [hcf] at this; cases this
        · exact absurd rfl hkx
        · exact absurd hy ((hM.xs k _ hkm hp hkx).2.2 hgt y hxw)
      have hev : ∀ z ∈ ox.op.operands, ∀ t, ev P t (stL (fun j => listed.getD j false) 0 es s) z = ev P t (stL (fun _ => true) 0 es s) z := fun z hz t => by
        cases z with
        | tmp y =>
          have : y ∈ opUses ops.toList ox := List.mem_append_left _ (List.mem_filterMap.2 ⟨.tmp y, by simpa using hz, rfl⟩)
          simp only [Idl.ev, List.getD_eq_getElem?_getD, hag y this]
        | const v => rfl
        | «global» g => rfl
        | func f => rfl
      have hav : argVs P (stL (fun j => listed.getD j false) 0 es s) c = argVs P (stL (fun _ => true) 0 es s) c := by
        unfold Idl.argVs
        refine List.map_congr_left fun p hp => ?_
        obtain ⟨z, t⟩ := p
        have hz : z ∈ c.args := by have := (List.of_mem_zip hp).1; simpa using this
        simp only
        rw [hev z (by rw [hop]; simp only [Op.operands, Call.operands]; exact Array.mem_append.2 (.inr hz))]
      have hhp : ∀ L, (stL L 0 es s).hp = s.hp := hE.hp hm
      have hstep : stepK P ox [] (stL (fun j => listed.getD j false) 0 es s) fun s' => ∃ r ext, s' = xSt ox.dst r ext (stL (fun j => listed.getD j false) 0 es s) ∧ K (xSt ox.dst r ext (stL (fun _ => true) 0 es s)) := by
        unfold callX at hcall
        split at hcall
        · rename_i g eg
          have hge := hev g (by rw [hop]; simp [Op.operands, Call.operands, eg]) 0
          split at hcall
          · rename_i f caps ef
            obtain ⟨hb, hbare, hcall⟩ := hcall
            have : callK P c (stL (fun j => listed.getD j false) 0 es s) ox.dst fun s' => ∃ r ext, s' = xSt ox.dst r ext (stL (fun j => listed.getD j false) 0 es s) ∧ K (xSt ox.dst r ext (stL (fun _ => true) 0 es s)) := by
              unfold callK
              simp only [eg]
              unfold callK0
              simp only [eg, hge, ef, hb, cond_true, hav]
              refine ⟨hbare, ?_⟩
              rw [hhp] at hcall ⊢
              refine CallK.mono hcall fun r hp' hk => ?_
              obtain ⟨⟨ext, rfl⟩, hk⟩ := hk
              refine ⟨r, ext, ?_, ?_⟩
              · simp only [xSt, hhp]
              · simpa only [xSt, hhp] using hk
            simpa only [stepK, hop] using this
          · exact hcall.elim
        · exact hcall.elim
      have ho' : ops[i]? = some ox := hM.hx
      refine restOp_sound (rest := []) (K := fun s' => ∃ r ext, s' = xSt ox.dst r ext (stL (fun j => listed.getD j false) 0 es s) ∧ K (xSt ox.dst r ext (stL (fun _ => true) 0 es s))) h ho' (by simp only [opsK, hg]; exact hstep) fun s' a' w' k1 k2 => ?_
      simp only [opsK] at k1
      obtain ⟨r, ext, rfl, hK⟩ := k1
      have hsame : stL (fun j => (listed.setIfInBounds i true).getD j false) 0 es s = stL (fun j => listed.getD j false) 0 es s := by
        rw [show (fun j => (listed.setIfInBounds i true).getD j false) = fun j => listed.getD j false || j == i from funext fun j => getD_set _ _ _ (by omega)]
        rw [← stL_insert (fun j => listed.getD j false) i noEff 0 es s (fun _ _ _ => trivial) (Nat.zero_le _) (by simpa using hE.xe) h2 (fun k f _ _ _ => ⟨fun p hp => by simp [noEff] at hp, .inl rfl⟩), noEff_app]
      refine mixA hM hE hK hfin fuel _ a' w' ?_ (by simpa using hs) (fun j hj => ?_) (waits_set (by omega) h3 hc) ?_ (by rw [hsame]; exact k2)
      · have := count_set (l := listed) (i := i) (by omega) h2; omega
      · rw [getD_set _ _ _ (by omega)] at hj
        simp only [Bool.or_eq_true, beq_iff_eq] at hj
        rcases hj with hj | rfl
        · exact hlt j hj
        · exact him
      · rw [getD_set _ _ _ (by omega)]; simp
    · obtain ⟨e, q1, q2, q3, q4⟩ := hE.he i _ him hix ho
      have hag := mix_agree hM hE hc him hix ho h2 h3 (s' := stL (fun j => listed.getD j false) 0 es s) (fun y hy => rfl) fun id hid => by rw [hE.hp hm]
      refine freeOp_sound h ho (q4 _ hag) fun s' a' w' hs' hr' => ?_
      subst hs'
      rw [mix_insert hM hE hs hc him hix ho q1 q2 h2 h3] at hr'
      refine ih _ a' w' ?_ (by simpa using hs) (fun j hj => ?_) (waits_set (by omega) h3 hc) ?_ hr'
      · have := count_set (l := listed) (i := i) (by omega) h2; omega
      · rw [getD_set _ _ _ (by omega)] at hj
        simp only [Bool.or_eq_true, beq_iff_eq] at hj
        rcases hj with hj | rfl
        · exact hlt j hj
        · exact him
      · rw [getD_set _ _ _ (by omega), hxl]; simp; omega

theorem stL_shift : ∀ (es : List Eff) (i j : Nat) (s : St), stL (fun _ => true) i es s = stL (fun _ => true) j es s
  | [], _, _, _ => rfl
  | f :: es, i, j, s => by simp only [stL, if_true]; exact stL_shift es (i + 1) (j + 1) _

/-- The effects of a free part, one an operation; the call has none. -/
theorem free_effsX {x : Nat} {all : List Oper} {K : St → Prop} : ∀ (l : List Oper) (b : Nat) (s : St), base ≤ s.hp.length → freeK P base all (l.eraseIdx (x - b)) s K → b ≤ x → x < b + l.length → ∃ es : List Eff, es.length = l.length ∧ K (stL (fun _ => true) 0 es s) ∧ es[x - b]? = some noEff ∧
    ∀ (i : Nat) o, l[i]? = some o → b + i ≠ x → ∃ e, es[i]? = some e ∧ (∀ p ∈ e.ws, p.1 ∈ opWrites o) ∧ (isAlloc o = false → e.push = none) ∧
      ∀ s', Agree all base o (stL (fun _ => true) 0 (es.take i) s) s' → freeOp P base all o s' (fun x => x = e.app s')
  | [], b, s, _, _, h1, h2 => by simp at h2; omega
  | o :: l, b, s, hs, hk, h1, h2 => by
    by_cases hb : b = x
    · subst hb
      rw [Nat.sub_self, List.eraseIdx_cons_zero] at hk
      obtain ⟨es, k1, k2, k3⟩ := free_effs (base := base) (all := all) hs l s hs hk
      refine ⟨noEff :: es, by simp [k1], ?_, by simp, fun i o' ho hne => ?_⟩
      · simp only [stL, if_true, noEff_app]; rw [stL_shift es 1 0]; exact k2
      · cases i with
        | zero => omega
        | succ i =>
          obtain ⟨e', q1, q2, q3, q4⟩ := k3 i o' (by simpa using ho)
          refine ⟨e', by simpa using q1, q2, q3, fun s' ha => q4 s' ?_⟩
          simp only [List.take_succ_cons, stL, if_true, noEff_app] at ha
          rwa [stL_shift _ 1 0] at ha
    · obtain ⟨d, hd⟩ : ∃ d, x - b = d + 1 := ⟨x - b - 1, by omega⟩
      rw [hd, List.eraseIdx_cons_succ] at hk
      simp only [freeK] at hk
      obtain ⟨e, g1, g2, g3, g4⟩ := freeOp_local hk
      have hlen : base ≤ (e.app s).hp.length := by simp [Eff.app]; omega
      obtain ⟨es, k1, k2, k3, k4⟩ := free_effsX (x := x) l (b + 1) (e.app s) hlen (by rw [show x - (b + 1) = d by omega]; exact g1) (by omega) (by simp at h2; omega)
      refine ⟨e :: es, by simp [k1], ?_, by rw [hd]; simpa [show x - (b + 1) = d by omega] using k3, fun i o' ho hne => ?_⟩
      · simp only [stL, if_true]; rw [stL_shift es 1 0]; exact k2
      · cases i with
        | zero =>
          simp at ho; subst ho
          exact ⟨e, rfl, g2, g3, fun s' ha => g4 s' (by simpa [stL] using ha)⟩
        | succ i =>
          obtain ⟨e', q1, q2, q3, q4⟩ := k4 i o' (by simpa using ho) (by omega)
          refine ⟨e', by simpa using q1, q2, q3, fun s' ha => q4 s' ?_⟩
          simp only [List.take_succ_cons, stL, if_true] at ha
          rwa [stL_shift _ 1 0] at ha

/-- THE LAW OF A DRAWN REGION with one call that makes something new among its free operations. -/
theorem mix_sem {κ : Ctx} {m x : Nat} {ops : Array Oper} {ox : Oper} {Q : Exit → Act → World → Prop} {s : St} {a : Act} {w : World} {c : Call} {K : St → Prop} (hM : MixOK m x ox ops) (hop : ox.op = .call c) (hg : ox.guard = none)
    (hk : freeK P s.hp.length ops.toList ((ops.toList.take m).eraseIdx x) s fun s' => callX P c s' ox.dst K) (hr : Rel κ s a w)
    (hfin : ∀ (listed : Array Bool) s' a' w', listed.size = ops.size → (∀ j, listed.getD j false = decide (j < m)) → (∀ i, listed.getD i false = true → Waits ops listed i) → K s' → Rel κ s' a' w' → wpAnyIn κ.F 0 P .any ops Q (ops.size - m) listed a' w') :
    wpAnyIn κ.F 0 P .any ops Q ops.size (Array.replicate ops.size false) a w := by
  have hm := hM.hm
  obtain ⟨es, h1, h2, h3, h4⟩ := free_effsX (base := s.hp.length) (all := ops.toList) (x := x) (ops.toList.take m) 0 s (Nat.le_refl _) (by simpa using hk) (Nat.zero_le _) (by have := hM.xm; simp; omega)
  have hE : EsOK P s.hp.length m x ops es s := by
    refine ⟨by rw [h1]; simp; omega, Nat.le_refl _, by simpa using h3, fun i o him hix ho => ?_⟩
    obtain ⟨e, q1, q2, q3, q4⟩ := h4 i o (by rw [List.getElem?_take_of_lt him]; simpa using ho) (by omega)
    exact ⟨e, q1, q2, q3 (hM.xs i o him ho hix).1, q4⟩
  refine mixB hM hE hop hg h2 hfin ops.size _ a w (by simp) (by simp) (fun i hi => by simp [Array.getD] at hi) (fun i hi => by simp [Array.getD] at hi) (by simp [Array.getD]) ?_
  have e0 : stL (fun j => (Array.replicate ops.size false).getD j false) 0 es s = s := by
    have : ∀ (es : List Eff) (i : Nat) (s : St), stL (fun _ => false) i es s = s := by
      intro es
      induction es with
      | nil => intros; rfl
      | cons e es ih => intro i s; simp only [stL, Bool.false_eq_true, if_false]; exact ih _ _
    rw [show (fun j => (Array.replicate ops.size false).getD j false) = fun _ => false from funext fun j => by simp [Array.getD]]
    exact this es 0 s
  rw [e0]; exact hr
end
end
end Go.Idl
end
section
namespace Go.Idl

/-- no slot is felt -/
def conf0 (all : List Oper) (o p : Oper) : Prop := (∀ x ∈ opWrites o, x ∉ opUses all p ∧ x ∉ opWrites p) ∧ ∀ x ∈ opWrites p, x ∉ opUses all o
theorem conf0_of {all : List Oper} {o p : Oper} (h : conflictM (maskL (opUses all o)) (maskL (opWrites o)) false (maskL (opUses all p)) (maskL (opWrites p)) false = false) : conf0 all o p := by
  unfold conflictM at h
  simp only [Bool.or_eq_false_iff, Bool.and_eq_false_iff, Bool.not_eq_false', Bool.false_and, and_true] at h
  exact ⟨land_zero2 h.1, land_zero h.2⟩

def alcGo (all : List Oper) (m0 : Nat) : Nat → List Oper → List Seen → List Nat → Bool
  | _, [], _, _ => true
  | i, o :: r, prev, acc => forceN (maskOf o acc) fun mask => forceN (maskL (opUses all o)) fun u => forceN (maskL (opWrites o)) fun w =>
      (o.after.toList.all fun e => !Region.binds .any e || decide (e.on < i)) && checkPrev m0 i mask u w false 0 prev && alcGo all m0 (i + 1) r (prev ++ [⟨u, w, false⟩]) (acc ++ [mask])

theorem alcGo_spec {all : List Oper} {m0 : Nat} : ∀ (rest : List Oper) (i : Nat) (prev : List Seen) (acc : List Nat), alcGo all m0 i rest prev acc = true → rest = all.drop i → acc.length = i → prev = (all.take i).map (fun o => ⟨maskL (opUses all o), maskL (opWrites o), false⟩) →
    ∀ k o, i ≤ k → all[k]? = some o → (∀ e ∈ o.after, Region.binds .any e = true → e.on < k) ∧ ∀ j p, j < k → all[j]? = some p → Nat.testBit ((predsL rest acc).getD k 0) j = true ∨ (k < m0 ∧ conf0 all o p)
  | [], i, prev, acc, _, hr, _, _, k, o, hk, ho => by
    have hlt := (List.getElem?_eq_some_iff.1 ho).1
    have := congrArg List.length hr
    simp at this; omega
  | q :: r, i, prev, acc, h, hr, ha, hp, k, o, hk, ho => by
    simp only [alcGo, forceN_eq, Bool.and_eq_true] at h
    obtain ⟨⟨h1, h2⟩, h3⟩ := h
    have hq : all[i]? = some q := by have := congrArg (·[0]?) hr; simpa using this.symm
    have hil : i < all.length := (List.getElem?_eq_some_iff.1 hq).1
    rcases Nat.lt_or_eq_of_le hk with hlt | rfl
    · have := alcGo_spec r (i + 1) _ _ h3 (by have := congrArg List.tail hr; simpa [List.tail_drop] using this) (by simp [ha]) (by rw [hp, List.take_succ, hq]; simp) k o hlt ho
      simpa only [predsL] using this
    · rw [hq] at ho; injection ho with ho; subst ho
      refine ⟨fun e he hb => ?_, fun j p hj hpj => ?_⟩
      · rw [List.all_eq_true] at h1
        have := h1 e (by simpa using he)
        simpa [hb] using this
      · have hpl : prev[j]? = some ⟨maskL (opUses all p), maskL (opWrites p), false⟩ := by
          rw [hp, List.getElem?_map, List.getElem?_take_of_lt hj, hpj]; rfl
        have := checkPrev_spec h2 j _ hpl
        rw [Nat.zero_add] at this
        have hmask : (predsL (q :: r) acc).getD i 0 = maskOf q acc := by
          unfold predsL
          rw [predsL_get r _ i (by simp [ha]), List.getD, List.getElem?_append_right (by omega)]
          simp [ha]
        rw [hmask]; exact this.imp id fun h => ⟨h.1, conf0_of h.2⟩

section
variable {P : Program} {κ : Ctx} {K : St → Prop}

/-- new variables, one behind the other -/
def pushS : List (Nat × IObj) → St → St
  | [], s => s
  | p :: r, s => pushS r (({ s with hp := s.hp ++ [p.2] } : St).put (some p.1) (.ptr s.hp.length 0))
theorem pushS_snoc : ∀ (ds : List (Nat × IObj)) (p : Nat × IObj) (s : St), pushS (ds ++ [p]) s = (({ (pushS ds s) with hp := (pushS ds s).hp ++ [p.2] } : St).put (some p.1) (.ptr (pushS ds s).hp.length 0))
  | [], _, _ => rfl
  | q :: r, p, s => by
    rw [List.cons_append, pushS, pushS_snoc r p]; rfl
theorem pushS_hp : ∀ (ds : List (Nat × IObj)) (s : St), (pushS ds s).hp = s.hp ++ ds.map (·.2)
  | [], s => by simp [pushS]
  | p :: r, s => by
    rw [pushS, pushS_hp r]; simp [St.put]
theorem pushS_get : ∀ (ds : List (Nat × IObj)) (s : St) (y : Nat), (∀ p ∈ ds, p.1 ≠ y) → (pushS ds s).tm[y]? = s.tm[y]?
  | [], _, _, _ => rfl
  | p :: r, s, y, h => by
    rw [pushS, pushS_get r _ y fun q hq => h q (by simp [hq])]
    simp only [St.put]
    rw [List.getElem?_set_ne (h p (by simp))]
theorem app_pushS {e : Eff} (hp : e.push = none) : ∀ (ds : List (Nat × IObj)) (s : St), (∀ p ∈ e.ws, ∀ q ∈ ds, p.1 ≠ q.1) → e.app (pushS ds s) = pushS ds (e.app s)
  | [], _, _ => rfl
  | q :: r, s, h => by
    rw [pushS, pushS, app_pushS hp r _ fun p hp' q' hq' => h p hp' q' (by simp [hq'])]
    congr 1
    simp [Eff.app, St.put, hp, writeTm_set e.ws s.tm q.1 _ fun p hpm => h p hpm q (by simp)]

section
variable {ops : Array Oper} {m base : Nat} {ox oy : Oper} {X Y : Nat × IObj} {Q : Exit → Act → World → Prop} {es : List Eff} {s : St}

/-- what the test says of the region: n free ones, two that make a variable, the rest -/
structure AlcOK (P : Program) (n : Nat) (ops : Array Oper) (ox oy : Oper) (X Y : Nat × IObj) : Prop where
  lt : ∀ i o, ops[i]? = some o → ∀ e ∈ o.after, Region.binds .any e = true → e.on < i
  all : ∀ i j o p, ops[i]? = some o → ops[j]? = some p → j < i → Nat.testBit ((predsL ops.toList []).getD i 0) j = true ∨ (i < n + 2 ∧ conf0 ops.toList o p)
  hm : n + 2 ≤ ops.size
  hx : ops[n]? = some ox
  hy : ops[n + 1]? = some oy
  gx : ox.guard = none
  gy : oy.guard = none
  sx : ∀ s K, K (pushS [X] s) → stepK P ox [] s K
  sy : ∀ s K, K (pushS [Y] s) → stepK P oy [] s K
  xs : ∀ i o, i < n → ops[i]? = some o → isAlloc o = false ∧ (X.1 ∉ opUses ops.toList o ∧ X.1 ∉ opWrites o) ∧ Y.1 ∉ opUses ops.toList o ∧ Y.1 ∉ opWrites o

structure EffsOK (P : Program) (base n : Nat) (ops : Array Oper) (es : List Eff) (s : St) : Prop where
  len : es.length = n
  hb : base ≤ s.hp.length
  he : ∀ i o, i < n → ops[i]? = some o → ∃ e, es[i]? = some e ∧ (∀ p ∈ e.ws, p.1 ∈ opWrites o) ∧ e.push = none ∧
    ∀ s', Agree ops.toList base o (stL (fun _ => true) 0 (es.take i) s) s' → freeOp P base ops.toList o s' (fun x => x = e.app s')

variable {n : Nat}
theorem EffsOK.hp (hE : EffsOK P base n ops es s) (hm : n + 2 ≤ ops.size) (L : Nat → Bool) : (stL L 0 es s).hp = s.hp := by
  refine stL_hp_none L 0 es s fun k e hk _ => ?_
  have hkm : k < n := by rw [← hE.len]; exact (List.getElem?_eq_some_iff.1 hk).1
  obtain ⟨e', h1, _, h3, _⟩ := hE.he k (ops[k]'(by omega)) hkm (by simp)
  rw [hk] at h1; injection h1 with h1; subst h1; exact h3

theorem alc_agree (hM : AlcOK P n ops ox oy X Y) (hE : EffsOK P base n ops es s) {listed : Array Bool} (hc : ∀ i, listed.getD i false = true → Waits ops listed i) {i : Nat} {o : Oper} (him : i < n) (ho : ops[i]? = some o) (h2 : listed.getD i false = false) (h3 : Waits ops listed i) {s' : St}
    (htm : ∀ y ∈ opUses ops.toList o, s'.tm[y]? = (stL (fun j => listed.getD j false) 0 es s).tm[y]?) (hhp : ∀ id, id < base → s'.hp[id]? = s.hp[id]?) : Agree ops.toList base o (stL (fun _ => true) 0 (es.take i) s) s' := by
  have hm := hM.hm
  have hpre : ∀ j, Nat.testBit ((predsL ops.toList []).getD i 0) j = true → listed.getD j false = true := preds_listed ops.toList [] (by simp) hc (by simp) i h3
  rw [stL_take]
  constructor
  · intro y hy
    rw [htm y hy]
    refine stL_get _ _ y 0 es s s rfl rfl fun k e' hk hw => ?_
    have hkm : k < n := by rw [← hE.len]; exact (List.getElem?_eq_some_iff.1 hk).1
    simp only [Nat.zero_add]
    have hp : ops[k]? = some (ops[k]'(by omega)) := by simp
    obtain ⟨e'', r1, r2, _⟩ := hE.he k _ hkm hp
    rw [hk] at r1; injection r1 with r1; subst r1
    obtain ⟨pr, hpr, hprx⟩ := hw
    have hxw : y ∈ opWrites (ops[k]'(by omega)) := by rw [← hprx]; exact r2 pr hpr
    rcases Nat.lt_trichotomy k i with hlt | rfl | hgt
    · rcases hM.all i k _ _ ho hp hlt with hin | ⟨_, hcf⟩
      · rw [hpre k hin]; simp [hlt]
      · exact absurd hy (hcf.2 y hxw)
    · rw [h2]; simp
    · have : listed.getD k false = false := by
        by_cases hl : listed.getD k false = true
        · rcases hM.all k i _ _ hp ho hgt with hin | ⟨_, hcf⟩
          · have := preds_listed ops.toList [] (by simp) hc (by simp) k (hc k hl) i hin
            rw [h2] at this; cases this
          · exact absurd hy (hcf.1 y hxw).1
        · simpa using hl
      rw [this]; simp; omega
  · intro id hid
    obtain ⟨t, e⟩ := stL_hp (fun j => decide (j < 0 + i)) 0 es s
    rw [e, hhp id hid, List.getElem?_append_left (by have := hE.hb; omega)]
  · intro hal
    rw [(hM.xs i o him ho).1] at hal; cases hal

theorem alc_insert (hM : AlcOK P n ops ox oy X Y) (hE : EffsOK P base n ops es s) {listed : Array Bool} (hs : listed.size = ops.size) (hc : ∀ i, listed.getD i false = true → Waits ops listed i) {i : Nat} {o : Oper} {e : Eff} (him : i < n) (ho : ops[i]? = some o) (he : es[i]? = some e) (hw : ∀ p ∈ e.ws, p.1 ∈ opWrites o) (h2 : listed.getD i false = false) (h3 : Waits ops listed i) :
    e.app (stL (fun j => listed.getD j false) 0 es s) = stL (fun j => (listed.setIfInBounds i true).getD j false) 0 es s := by
  have hm := hM.hm
  have hil : i < listed.size := by omega
  rw [stL_insert (fun j => listed.getD j false) i e 0 es s (fun _ _ _ => trivial) (Nat.zero_le _) (by simpa using he) h2 ?_]
  · rw [show (fun j => (listed.setIfInBounds i true).getD j false) = fun j => listed.getD j false || j == i from funext fun j => getD_set _ _ _ hil]
  · intro k f hf' hik hl
    simp only [Nat.zero_add] at hik hl
    have hkm : k < n := by rw [← hE.len]; exact (List.getElem?_eq_some_iff.1 hf').1
    have hp : ops[k]? = some (ops[k]'(by omega)) := by simp
    obtain ⟨e'', r1, r2, r3, _⟩ := hE.he k _ hkm hp
    rw [hf'] at r1; injection r1 with r1; subst r1
    rcases hM.all k i _ _ hp ho hik with hin | ⟨_, hcf⟩
    · have := preds_listed ops.toList [] (by simp) hc (by simp) k (hc k hl) i hin
      rw [h2] at this; cases this
    · exact ⟨fun p hp' q hq hpq => absurd (hw p hp') (hcf.1 _ (hpq ▸ r2 q hq)).2, .inr r3⟩

/-- what of the two is made -/
def Made (n : Nat) (X Y : Nat × IObj) (listed : Array Bool) (ds : List (Nat × IObj)) : Prop :=
  (listed.getD n false = false ∧ listed.getD (n + 1) false = false ∧ ds = []) ∨ (listed.getD n false = true ∧ listed.getD (n + 1) false = false ∧ ds = [X]) ∨
  (listed.getD n false = false ∧ listed.getD (n + 1) false = true ∧ ds = [Y]) ∨ (listed.getD n false = true ∧ listed.getD (n + 1) false = true ∧ (ds = [X, Y] ∨ ds = [Y, X]))
theorem Made.sub {listed : Array Bool} {ds : List (Nat × IObj)} (h : Made n X Y listed ds) : ∀ p ∈ ds, p = X ∨ p = Y := by
  rcases h with ⟨_, _, rfl⟩ | ⟨_, _, rfl⟩ | ⟨_, _, rfl⟩ | ⟨_, _, rfl | rfl⟩ <;> simp

theorem alc_run (hM : AlcOK P n ops ox oy X Y) (hE : EffsOK P base n ops es s) (hxy : K (pushS [X, Y] (stL (fun _ => true) 0 es s))) (hyx : K (pushS [Y, X] (stL (fun _ => true) 0 es s)))
    (hfin : ∀ (listed : Array Bool) s' a' w', listed.size = ops.size → (∀ j, listed.getD j false = decide (j < n + 2)) → (∀ i, listed.getD i false = true → Waits ops listed i) → K s' → Rel κ s' a' w' → wpAnyIn κ.F 0 P .any ops Q (ops.size - (n + 2)) listed a' w') :
    ∀ (fuel : Nat) (listed : Array Bool) (ds : List (Nat × IObj)) (a : Act) (w : World), listed.toList.count false = fuel → listed.size = ops.size → (∀ i, listed.getD i false = true → i < n + 2) → (∀ i, listed.getD i false = true → Waits ops listed i) → Made n X Y listed ds →
    Rel κ (pushS ds (stL (fun j => listed.getD j false) 0 es s)) a w → wpAnyIn κ.F 0 P .any ops Q fuel listed a w := by
  have hm := hM.hm
  intro fuel
  induction fuel with
  | zero =>
    intro listed ds a w hf hs hlt hc hmd h
    have hall : ∀ i, i < ops.size → listed.getD i false = true := fun i hi => by
      by_cases e : listed.getD i false = true
      · exact e
      · exfalso
        have e' : listed[i]'(by omega) = false := by simpa [Array.getD, show i < listed.size by omega] using e
        have : 0 < listed.toList.count false := List.count_pos_iff.2 (by rw [← e']; simp)
        omega
    have hms : ops.size = n + 2 := by
      rcases Nat.lt_or_ge (n + 2) ops.size with h1 | h1
      · have := hlt (n + 2) (hall (n + 2) h1); omega
      · omega
    have hK : K (pushS ds (stL (fun j => listed.getD j false) 0 es s)) := by
      rw [stL_congr _ (fun _ => true) 0 es s fun k hk => by simpa using hall k (by have := hE.len; omega)]
      have q1 := hall n (by omega)
      have q2 := hall (n + 1) (by omega)
      rcases hmd with ⟨k1, _⟩ | ⟨_, k1, _⟩ | ⟨k1, _⟩ | ⟨_, _, rfl | rfl⟩
      · rw [q1] at k1; cases k1
      · rw [q2] at k1; cases k1
      · rw [q1] at k1; cases k1
      · exact hxy
      · exact hyx
    have := hfin listed _ a w hs (fun j => by
      by_cases e : j < n + 2
      · rw [hall j (by omega)]; simp [e]
      · have : ¬ listed.getD j false = true := fun hh => e (hlt j hh)
        simp [e]; simpa using this) hc hK h
    rwa [hms, Nat.sub_self] at this
  | succ fuel ih =>
    intro listed ds a w hf hs hlt hc hmd h
    by_cases hfi : ∀ i, i < n + 2 → listed.getD i false = true
    · have hlm : ∀ j, listed.getD j false = decide (j < n + 2) := fun j => by
        by_cases e : j < n + 2
        · rw [hfi j e]; simp [e]
        · have : ¬ listed.getD j false = true := fun hh => e (hlt j hh)
          simp [e]; simpa using this
      have hcnt := count_prefix hlm (by omega)
      rw [hf, hs] at hcnt
      have hK : K (pushS ds (stL (fun j => listed.getD j false) 0 es s)) := by
        rw [stL_congr _ (fun _ => true) 0 es s fun k hk => by simpa using hfi k (by have := hE.len; omega)]
        have q1 := hfi n (by omega)
        have q2 := hfi (n + 1) (by omega)
        rcases hmd with ⟨k1, _⟩ | ⟨_, k1, _⟩ | ⟨k1, _⟩ | ⟨_, _, rfl | rfl⟩
        · rw [q1] at k1; cases k1
        · rw [q2] at k1; cases k1
        · rw [q1] at k1; cases k1
        · exact hxy
        · exact hyx
      have := hfin listed _ a w hs hlm hc hK h
      rwa [show ops.size - (n + 2) = fuel + 1 by omega] at this
    · have hnil : Region.ready .any ops listed = [] → ∀ i, i < ops.size → listed.getD i false = true := fun hn i => by
        induction i using Nat.strongRecOn with
        | ind i ih =>
          intro hi
          refine Classical.byContradiction fun hno => ?_
          have : i ∈ Region.ready .any ops listed := (ready_iff hs).2 ⟨hi, by simpa using hno, fun o ho e he hb => by
            have := hM.lt i o ho e he hb
            exact ih e.on this (by omega)⟩
          rw [hn] at this; cases this
      refine ⟨fun hn => absurd (fun i hi => hnil hn i (by omega)) hfi, fun i hi => ?_⟩
      obtain ⟨h1, h2, h3⟩ := (ready_iff hs).1 hi
      have ho : ops[i]? = some ops[i] := by simp [h1]
      have him : i < n + 2 := by
        rcases Nat.lt_or_ge i (n + 2) with h' | h'
        · exact h'
        · exfalso
          refine hfi fun j hj => ?_
          rcases hM.all i j ops[i] (ops[j]'(by omega)) (by simp) (by simp) (by omega) with hin | ⟨hlm, _⟩
          · exact preds_listed ops.toList [] (by simp) hc (by simp) i h3 j hin
          · omega
      have hset := fun j => getD_set listed i j (by omega)
      have hcount : (listed.setIfInBounds i true).toList.count false = fuel := by
        have := count_set (l := listed) (i := i) (by omega) h2; omega
      have hlt' : ∀ j, (listed.setIfInBounds i true).getD j false = true → j < n + 2 := fun j hj => by
        rw [hset] at hj
        simp only [Bool.or_eq_true, beq_iff_eq] at hj
        rcases hj with hj | rfl
        · exact hlt j hj
        · exact him
      rcases Nat.lt_or_ge i n with hin | hin
      · -- a free one
        obtain ⟨e, q1, q2, q3, q4⟩ := hE.he i _ hin ho
        obtain ⟨x1, x2, x3⟩ := hM.xs i _ hin ho
        have hno : ∀ y, (y ∈ opUses ops.toList ops[i] ∨ y ∈ opWrites ops[i]) → ∀ p ∈ ds, p.1 ≠ y := fun y hy p hp e => by
          subst e
          rcases hmd.sub p hp with rfl | rfl
          · rcases hy with hy | hy
            · exact x2.1 hy
            · exact x2.2 hy
          · rcases hy with hy | hy
            · exact x3.1 hy
            · exact x3.2 hy
        have hag := alc_agree hM hE hc hin ho h2 h3 (s' := pushS ds (stL (fun j => listed.getD j false) 0 es s)) (fun y hy => pushS_get ds _ y (hno y (.inl hy))) fun id hid => by
          rw [pushS_hp, hE.hp hm, List.getElem?_append_left (by have := hE.hb; omega)]
        refine freeOp_sound h ho (q4 _ hag) fun s' a' w' hs' hr' => ?_
        subst hs'
        rw [app_pushS q3 ds _ (fun p hp q hq e => hno p.1 (.inr (q2 p hp)) q hq e.symm), alc_insert hM hE hs hc hin ho q1 q2 h2 h3] at hr'
        refine ih _ ds a' w' hcount (by simpa using hs) hlt' (waits_set (by omega) h3 hc) ?_ hr'
        unfold Made at hmd ⊢
        rw [hset, hset]
        have n1 : (n == i) = false := by simp; omega
        have n2 : (n + 1 == i) = false := by simp; omega
        rw [n1, n2, Bool.or_false, Bool.or_false]; exact hmd
      · -- one of the two
        have hsame : stL (fun j => (listed.setIfInBounds i true).getD j false) 0 es s = stL (fun j => listed.getD j false) 0 es s := by
          refine stL_congr _ _ 0 es s fun k hk => ?_
          have hkn : k < n := by have := hE.len; omega
          simp only [Nat.zero_add]
          rw [hset]
          have : (k == i) = false := by simp; omega
          rw [this, Bool.or_false]
        have hi2 : i = n ∨ i = n + 1 := by omega
        rcases hi2 with rfl | rfl
        · have hox : ops[i] = ox := by have := hM.hx; rw [ho] at this; injection this
          refine restOp_sound (rest := []) (K := fun s' => s' = pushS [X] (pushS ds (stL (fun j => listed.getD j false) 0 es s))) h hM.hx (by simp only [opsK, hM.gx]; exact hM.sx _ _ rfl) fun s' a' w' k1 k2 => ?_
          simp only [opsK] at k1
          subst k1
          have e1 : pushS [X] (pushS ds (stL (fun j => listed.getD j false) 0 es s)) = pushS (ds ++ [X]) (stL (fun j => (listed.setIfInBounds i true).getD j false) 0 es s) := by
            rw [hsame, pushS_snoc]; rfl
          rw [e1] at k2
          refine ih _ (ds ++ [X]) a' w' hcount (by simpa using hs) hlt' (waits_set (by omega) h3 hc) ?_ k2
          unfold Made at hmd ⊢
          rw [hset, hset]
          have n2 : (i + 1 == i) = false := by simp
          simp only [BEq.rfl, n2, Bool.or_true, Bool.or_false]
          rcases hmd with ⟨_, m2, rfl⟩ | ⟨m1, _⟩ | ⟨_, m2, rfl⟩ | ⟨m1, _⟩
          · exact .inr (.inl ⟨trivial, m2, rfl⟩)
          · rw [h2] at m1; cases m1
          · exact .inr (.inr (.inr ⟨trivial, m2, .inr rfl⟩))
          · rw [h2] at m1; cases m1
        · have hoy : ops[n + 1] = oy := by have := hM.hy; rw [ho] at this; injection this
          refine restOp_sound (rest := []) (K := fun s' => s' = pushS [Y] (pushS ds (stL (fun j => listed.getD j false) 0 es s))) h hM.hy (by simp only [opsK, hM.gy]; exact hM.sy _ _ rfl) fun s' a' w' k1 k2 => ?_
          simp only [opsK] at k1
          subst k1
          have e1 : pushS [Y] (pushS ds (stL (fun j => listed.getD j false) 0 es s)) = pushS (ds ++ [Y]) (stL (fun j => (listed.setIfInBounds (n + 1) true).getD j false) 0 es s) := by
            rw [hsame, pushS_snoc]; rfl
          rw [e1] at k2
          refine ih _ (ds ++ [Y]) a' w' hcount (by simpa using hs) hlt' (waits_set (by omega) h3 hc) ?_ k2
          unfold Made at hmd ⊢
          rw [hset, hset]
          have n2 : (n == n + 1) = false := by simp
          simp only [BEq.rfl, n2, Bool.or_true, Bool.or_false]
          rcases hmd with ⟨m1, _, rfl⟩ | ⟨m1, _, rfl⟩ | ⟨_, m2, _⟩ | ⟨_, m2, _⟩
          · exact .inr (.inr (.inl ⟨m1, trivial, rfl⟩))
          · exact .inr (.inr (.inr ⟨m1, trivial, .inl rfl⟩))
          · rw [h2] at m2; cases m2
          · rw [h2] at m2; cases m2

/-- THE LAW OF A DRAWN REGION with two variables that are made new. -/
theorem alc_sem {κ : Ctx} {a : Act} {w : World} (hM : AlcOK P n ops ox oy X Y)
    (hk : freeK P s.hp.length ops.toList (ops.toList.take n) s fun s' => K (pushS [X, Y] s') ∧ K (pushS [Y, X] s')) (hr : Rel κ s a w)
    (hfin : ∀ (listed : Array Bool) s' a' w', listed.size = ops.size → (∀ j, listed.getD j false = decide (j < n + 2)) → (∀ i, listed.getD i false = true → Waits ops listed i) → K s' → Rel κ s' a' w' → wpAnyIn κ.F 0 P .any ops Q (ops.size - (n + 2)) listed a' w') :
    wpAnyIn κ.F 0 P .any ops Q ops.size (Array.replicate ops.size false) a w := by
  have hm := hM.hm
  obtain ⟨es, h1, ⟨h2, h2'⟩, h3⟩ := free_effs (base := s.hp.length) (all := ops.toList) (Nat.le_refl _) (ops.toList.take n) s (Nat.le_refl _) hk
  have hE : EffsOK P s.hp.length n ops es s := by
    refine ⟨by rw [h1]; simp; omega, Nat.le_refl _, fun i o him ho => ?_⟩
    obtain ⟨e, q1, q2, q3, q4⟩ := h3 i o (by rw [List.getElem?_take_of_lt him]; simpa using ho)
    exact ⟨e, q1, q2, q3 (hM.xs i o him ho).1, q4⟩
  refine alc_run hM hE h2 h2' hfin ops.size _ [] a w (by simp) (by simp) (fun i hi => by simp [Array.getD] at hi) (fun i hi => by simp [Array.getD] at hi) (.inl ⟨by simp [Array.getD], by simp [Array.getD], rfl⟩) ?_
  have e0 : stL (fun j => (Array.replicate ops.size false).getD j false) 0 es s = s := by
    have : ∀ (es : List Eff) (i : Nat) (s : St), stL (fun _ => false) i es s = s := by
      intro es
      induction es with
      | nil => intros; rfl
      | cons e es ih => intro i s; simp only [stL, Bool.false_eq_true, if_false]; exact ih _ _
    rw [show (fun j => (Array.replicate ops.size false).getD j false) = fun _ => false from funext fun j => by simp [Array.getD]]
    exact this es 0 s
  rw [e0]; exact hr
end
end
/-! ### Free operations, and behind them the others in each order that may be; variables may be made ahead of their time -/
def isAllocB (o : Oper) : Bool := o.guard.isNone && o.dst.isSome && (match o.op with | .alloc _ => true | _ => false)
def checkPrevX (m0 i mask u w : Nat) (al : Bool) : Nat → List Seen → Bool
  | _, [] => true
  | j, p :: r => (Nat.testBit mask j || ((decide (i < m0) || al) && !conflictM u w false p.u p.w false) || decide (m0 ≤ j)) && checkPrevX m0 i mask u w al (j + 1) r
def alxGo (all : List Oper) (m0 : Nat) : Nat → List Oper → List Seen → List Nat → Bool
  | _, [], _, _ => true
  | i, o :: r, prev, acc => forceN (maskOf o acc) fun mask => forceN (maskL (opUses all o)) fun u => forceN (maskL (opWrites o)) fun w =>
      (o.after.toList.all fun e => !Region.binds .any e || decide (e.on < i)) && checkPrevX m0 i mask u w (isAllocB o) 0 prev && (!decide (i < m0) || !isAlloc o) && alxGo all m0 (i + 1) r (prev ++ [⟨u, w, false⟩]) (acc ++ [mask])
theorem checkPrevX_spec {m0 i mask u w : Nat} {al : Bool} : ∀ {l : List Seen} {j : Nat}, checkPrevX m0 i mask u w al j l = true → ∀ k p, l[k]? = some p → Nat.testBit mask (j + k) = true ∨ ((i < m0 ∨ al = true) ∧ conflictM u w false p.u p.w false = false) ∨ m0 ≤ j + k
  | [], _, _, k, p, hp => by simp at hp
  | q :: r, j, h, k, p, hp => by
    simp only [checkPrevX, Bool.and_eq_true, Bool.or_eq_true, decide_eq_true_eq, Bool.not_eq_true'] at h
    cases k with
    | zero => simp at hp; subst hp; rcases h.1 with (h | h) | h
              · exact .inl h
              · exact .inr (.inl h)
              · exact .inr (.inr h)
    | succ k =>
      have := checkPrevX_spec h.2 k p (by simpa using hp)
      rw [show j + (k + 1) = j + 1 + k by omega]; exact this
theorem alxGo_spec {all : List Oper} {m0 : Nat} : ∀ (rest : List Oper) (i : Nat) (prev : List Seen) (acc : List Nat), alxGo all m0 i rest prev acc = true → rest = all.drop i → acc.length = i → prev = (all.take i).map (fun o => ⟨maskL (opUses all o), maskL (opWrites o), false⟩) →
    ∀ k o, i ≤ k → all[k]? = some o → (∀ e ∈ o.after, Region.binds .any e = true → e.on < k) ∧ (k < m0 → isAlloc o = false) ∧ ∀ j p, j < k → all[j]? = some p → Nat.testBit ((predsL rest acc).getD k 0) j = true ∨ ((k < m0 ∨ isAllocB o = true) ∧ conf0 all o p) ∨ m0 ≤ j
  | [], i, prev, acc, _, hr, _, _, k, o, hk, ho => by
    have hlt := (List.getElem?_eq_some_iff.1 ho).1
    have := congrArg List.length hr
    simp at this; omega
  | q :: r, i, prev, acc, h, hr, ha, hp, k, o, hk, ho => by
    simp only [alxGo, forceN_eq, Bool.and_eq_true] at h
    obtain ⟨⟨⟨h1, h2⟩, h4⟩, h3⟩ := h
    have hq : all[i]? = some q := by have := congrArg (·[0]?) hr; simpa using this.symm
    have hil : i < all.length := (List.getElem?_eq_some_iff.1 hq).1
    rcases Nat.lt_or_eq_of_le hk with hlt | rfl
    · have := alxGo_spec r (i + 1) _ _ h3 (by have := congrArg List.tail hr; simpa [List.tail_drop] using this) (by simp [ha]) (by rw [hp, List.take_succ, hq]; simp) k o hlt ho
      simpa only [predsL] using this
    · rw [hq] at ho; injection ho with ho; subst ho
      refine ⟨fun e he hb => ?_, fun hi => by simpa [hi] using h4, fun j p hj hpj => ?_⟩
      · rw [List.all_eq_true] at h1
        have := h1 e (by simpa using he)
        simpa [hb] using this
      · have hpl : prev[j]? = some ⟨maskL (opUses all p), maskL (opWrites p), false⟩ := by
          rw [hp, List.getElem?_map, List.getElem?_take_of_lt hj, hpj]; rfl
        have := checkPrevX_spec h2 j _ hpl
        rw [Nat.zero_add] at this
        have hmask : (predsL (q :: r) acc).getD i 0 = maskOf q acc := by
          unfold predsL
          rw [predsL_get r _ i (by simp [ha]), List.getD, List.getElem?_append_right (by omega)]
          simp [ha]
        rw [hmask]; exact this.imp id fun h => h.imp (fun h => ⟨h.1, conf0_of h.2⟩) id

section
variable {P : Program} {κ : Ctx}
variable {ops : Array Oper} {n base : Nat} {Q : Exit → Act → World → Prop} {es : List Eff} {s : St}

/-- what is made by an operation that makes a variable -/
def madeBy (P : Program) (o : Oper) : Nat × IObj := (o.dst.getD 0, .var (match o.op with | .alloc u => (zeroVs P u).getD [] | _ => []))
def madeAt (P : Program) (ops : Array Oper) (i : Nat) : Nat × IObj := match ops[i]? with | some o => madeBy P o | none => (0, .var [])
theorem madeAt_eq {i : Nat} {o : Oper} (h : ops[i]? = some o) : madeAt P ops i = madeBy P o := by unfold madeAt; rw [h]

structure AlxOK (P : Program) (n : Nat) (ops : Array Oper) : Prop where
  lt : ∀ i o, ops[i]? = some o → ∀ e ∈ o.after, Region.binds .any e = true → e.on < i
  na : ∀ i o, i < n → ops[i]? = some o → isAlloc o = false
  all : ∀ i j o p, ops[i]? = some o → ops[j]? = some p → j < i → j < n → Nat.testBit ((predsL ops.toList []).getD i 0) j = true ∨ ((i < n ∨ isAllocB o = true) ∧ conf0 ops.toList o p)
  hm : n ≤ ops.size

theorem alxE_hp (hE : EffsOK P base n ops es s) (hm : n ≤ ops.size) (L : Nat → Bool) : (stL L 0 es s).hp = s.hp := by
  refine stL_hp_none L 0 es s fun k e hk _ => ?_
  have hkm : k < n := by rw [← hE.len]; exact (List.getElem?_eq_some_iff.1 hk).1
  obtain ⟨e', h1, _, h3, _⟩ := hE.he k (ops[k]'(by omega)) hkm (by simp)
  rw [hk] at h1; injection h1 with h1; subst h1; exact h3

theorem alx_agree (hM : AlxOK P n ops) (hE : EffsOK P base n ops es s) {listed : Array Bool} (hc : ∀ i, listed.getD i false = true → Waits ops listed i) {i : Nat} {o : Oper} (him : i < n) (ho : ops[i]? = some o) (h2 : listed.getD i false = false) (h3 : Waits ops listed i) {s' : St}
    (htm : ∀ y ∈ opUses ops.toList o, s'.tm[y]? = (stL (fun j => listed.getD j false) 0 es s).tm[y]?) (hhp : ∀ id, id < base → s'.hp[id]? = s.hp[id]?) : Agree ops.toList base o (stL (fun _ => true) 0 (es.take i) s) s' := by
  have hm := hM.hm
  have hpre : ∀ j, Nat.testBit ((predsL ops.toList []).getD i 0) j = true → listed.getD j false = true := preds_listed ops.toList [] (by simp) hc (by simp) i h3
  rw [stL_take]
  constructor
  · intro y hy
    rw [htm y hy]
    refine stL_get _ _ y 0 es s s rfl rfl fun k e' hk hw => ?_
    have hkm : k < n := by rw [← hE.len]; exact (List.getElem?_eq_some_iff.1 hk).1
    simp only [Nat.zero_add]
    have hp : ops[k]? = some (ops[k]'(by omega)) := by simp
    obtain ⟨e'', r1, r2, _⟩ := hE.he k _ hkm hp
    rw [hk] at r1; injection r1 with r1; subst r1
    obtain ⟨pr, hpr, hprx⟩ := hw
    have hxw : y ∈ opWrites (ops[k]'(by omega)) := by rw [← hprx]; exact r2 pr hpr
    rcases Nat.lt_trichotomy k i with hlt | rfl | hgt
    · rcases hM.all i k _ _ ho hp hlt hkm with hin | ⟨_, hcf⟩
      · rw [hpre k hin]; simp [hlt]
      · exact absurd hy (hcf.2 y hxw)
    · rw [h2]; simp
    · have : listed.getD k false = false := by
        by_cases hl : listed.getD k false = true
        · rcases hM.all k i _ _ hp ho hgt him with hin | ⟨_, hcf⟩
          · have := preds_listed ops.toList [] (by simp) hc (by simp) k (hc k hl) i hin
            rw [h2] at this; cases this
          · exact absurd hy (hcf.1 y hxw).1
        · simpa using hl
      rw [this]; simp; omega
  · intro id hid
    obtain ⟨t, e⟩ := stL_hp (fun j => decide (j < 0 + i)) 0 es s
    rw [e, hhp id hid, List.getElem?_append_left (by have := hE.hb; omega)]
  · intro hal
    rw [hM.na i o him ho] at hal; cases hal

theorem alx_insert (hM : AlxOK P n ops) (hE : EffsOK P base n ops es s) {listed : Array Bool} (hs : listed.size = ops.size) (hc : ∀ i, listed.getD i false = true → Waits ops listed i) {i : Nat} {o : Oper} {e : Eff} (him : i < n) (ho : ops[i]? = some o) (he : es[i]? = some e) (hw : ∀ p ∈ e.ws, p.1 ∈ opWrites o) (h2 : listed.getD i false = false) (h3 : Waits ops listed i) :
    e.app (stL (fun j => listed.getD j false) 0 es s) = stL (fun j => (listed.setIfInBounds i true).getD j false) 0 es s := by
  have hm := hM.hm
  have hil : i < listed.size := by omega
  rw [stL_insert (fun j => listed.getD j false) i e 0 es s (fun _ _ _ => trivial) (Nat.zero_le _) (by simpa using he) h2 ?_]
  · rw [show (fun j => (listed.setIfInBounds i true).getD j false) = fun j => listed.getD j false || j == i from funext fun j => getD_set _ _ _ hil]
  · intro k f hf' hik hl
    simp only [Nat.zero_add] at hik hl
    have hkm : k < n := by rw [← hE.len]; exact (List.getElem?_eq_some_iff.1 hf').1
    have hp : ops[k]? = some (ops[k]'(by omega)) := by simp
    obtain ⟨e'', r1, r2, r3, _⟩ := hE.he k _ hkm hp
    rw [hf'] at r1; injection r1 with r1; subst r1
    rcases hM.all k i _ _ hp ho hik him with hin | ⟨_, hcf⟩
    · have := preds_listed ops.toList [] (by simp) hc (by simp) k (hc k hl) i hin
      rw [h2] at this; cases this
    · exact ⟨fun p hp' q hq hpq => absurd (hw p hp') (hcf.1 _ (hpq ▸ r2 q hq)).2, .inr r3⟩

theorem alx_run (hM : AlxOK P n ops) (hE : EffsOK P base n ops es s) {V : List Nat → Prop}
    (hstep : ∀ ds i o, V ds → n ≤ i → ops[i]? = some o → isAllocB o = true → i ∉ ds → (∀ e ∈ o.after, Region.binds .any e = true → e.on < n ∨ e.on ∈ ds) → (∃ u cs, o.op = .alloc u ∧ zeroVs P u = some cs) ∧ V (i :: ds))
    (hfin : ∀ (fuel : Nat) (listed : Array Bool) (ds : List Nat) a' w', listed.toList.count false = fuel → listed.size = ops.size → (∀ j, listed.getD j false = (decide (j < n) || ds.contains j)) → (∀ i, listed.getD i false = true → Waits ops listed i) → ds.Nodup → (∀ d ∈ ds, n ≤ d ∧ d < ops.size) → V ds →
      Rel κ (pushS (ds.reverse.map (madeAt P ops)) (stL (fun _ => true) 0 es s)) a' w' → wpAnyIn κ.F 0 P .any ops Q fuel listed a' w') :
    ∀ (fuel : Nat) (listed : Array Bool) (ds : List Nat) (a : Act) (w : World), listed.toList.count false = fuel → listed.size = ops.size → (∀ i, n ≤ i → listed.getD i false = ds.contains i) → (∀ d ∈ ds, n ≤ d ∧ d < ops.size ∧ ∃ o, ops[d]? = some o ∧ isAllocB o = true) → ds.Nodup → (∀ i, listed.getD i false = true → Waits ops listed i) → V ds →
    Rel κ (pushS (ds.reverse.map (madeAt P ops)) (stL (fun j => listed.getD j false) 0 es s)) a w → wpAnyIn κ.F 0 P .any ops Q fuel listed a w := by
  have hm := hM.hm
  have hdone : ∀ (fuel : Nat) (listed : Array Bool) (ds : List Nat) (a : Act) (w : World), listed.toList.count false = fuel → listed.size = ops.size → (∀ i, n ≤ i → listed.getD i false = ds.contains i) → (∀ d ∈ ds, n ≤ d ∧ d < ops.size ∧ ∃ o, ops[d]? = some o ∧ isAllocB o = true) → ds.Nodup → (∀ i, listed.getD i false = true → Waits ops listed i) → V ds →
      Rel κ (pushS (ds.reverse.map (madeAt P ops)) (stL (fun j => listed.getD j false) 0 es s)) a w → (∀ i, i < n → listed.getD i false = true) → wpAnyIn κ.F 0 P .any ops Q fuel listed a w := by
    intro fuel listed ds a w hf hs hld hds hnd hc hv h hfi
    rw [stL_congr _ (fun _ => true) 0 es s fun k hk => by simpa using hfi k (by have := hE.len; omega)] at h
    refine hfin fuel listed ds a w hf hs (fun j => ?_) hc hnd (fun d hd => ⟨(hds d hd).1, (hds d hd).2.1⟩) hv h
    by_cases e : j < n
    · rw [hfi j e]; simp [e]
    · rw [hld j (by omega)]; simp [e]
  intro fuel
  induction fuel with
  | zero =>
    intro listed ds a w hf hs hld hds hnd hc hv h
    refine hdone 0 listed ds a w hf hs hld hds hnd hc hv h fun i hi => ?_
    by_cases e : listed.getD i false = true
    · exact e
    · exfalso
      have e' : listed[i]'(by omega) = false := by simpa [Array.getD, show i < listed.size by omega] using e
      have : 0 < listed.toList.count false := List.count_pos_iff.2 (by rw [← e']; simp)
      omega
  | succ fuel ih =>
    intro listed ds a w hf hs hld hds hnd hc hv h
    by_cases hfi : ∀ i, i < n → listed.getD i false = true
    · exact hdone _ listed ds a w hf hs hld hds hnd hc hv h hfi
    have hnil : Region.ready .any ops listed = [] → ∀ i, i < ops.size → listed.getD i false = true := fun hn i => by
      induction i using Nat.strongRecOn with
      | ind i ih =>
        intro hi
        refine Classical.byContradiction fun hno => ?_
        have : i ∈ Region.ready .any ops listed := (ready_iff hs).2 ⟨hi, by simpa using hno, fun o ho e he hb => by
          have := hM.lt i o ho e he hb
          exact ih e.on this (by omega)⟩
        rw [hn] at this; cases this
    refine ⟨fun hn => absurd (fun i hi => hnil hn i (by omega)) hfi, fun i hi => ?_⟩
    obtain ⟨h1, h2, h3⟩ := (ready_iff hs).1 hi
    have ho : ops[i]? = some ops[i] := by simp [h1]
    have hset := fun j => getD_set listed i j (by omega)
    have hcount : (listed.setIfInBounds i true).toList.count false = fuel := by
      have := count_set (l := listed) (i := i) (by omega) h2; omega
    rcases Nat.lt_or_ge i n with hin | hin
    · obtain ⟨e, q1, q2, q3, q4⟩ := hE.he i _ hin ho
      have hno : ∀ y, (y ∈ opUses ops.toList ops[i] ∨ y ∈ opWrites ops[i]) → ∀ p ∈ ds.reverse.map (madeAt P ops), p.1 ≠ y := fun y hy p hp e => by
        obtain ⟨d, hd, rfl⟩ := List.mem_map.1 hp
        rw [List.mem_reverse] at hd
        obtain ⟨k1, k2, o, k3, k4⟩ := hds d hd
        rw [madeAt_eq k3] at e
        have hw : y ∈ opWrites o := by
          unfold isAllocB at k4
          simp only [Bool.and_eq_true, Option.isSome_iff_exists] at k4
          obtain ⟨⟨_, d', hd'⟩, _⟩ := k4
          simp only [madeBy, hd', Option.getD_some] at e
          subst e
          exact List.mem_append_left _ (by simp [hd'])
        have hdl : listed.getD d false = true := by rw [hld d k1]; simpa using hd
        rcases hM.all d i _ _ k3 ho (by omega) hin with hin2 | ⟨_, hcf⟩
        · have := preds_listed ops.toList [] (by simp) hc (by simp) d (hc d hdl) i hin2
          rw [h2] at this; cases this
        · rcases hy with hy | hy
          · exact (hcf.1 y hw).1 hy
          · exact (hcf.1 y hw).2 hy
      have hag := alx_agree hM hE hc hin ho h2 h3 (s' := pushS (ds.reverse.map (madeAt P ops)) (stL (fun j => listed.getD j false) 0 es s)) (fun y hy => pushS_get _ _ y (hno y (.inl hy))) fun id hid => by
        rw [pushS_hp, alxE_hp hE hm, List.getElem?_append_left (by have := hE.hb; omega)]
      refine freeOp_sound h ho (q4 _ hag) fun s' a' w' hs' hr' => ?_
      subst hs'
      rw [app_pushS q3 _ _ (fun p hp q hq e => hno p.1 (.inr (q2 p hp)) q hq e.symm), alx_insert hM hE hs hc hin ho q1 q2 h2 h3] at hr'
      refine ih _ ds a' w' hcount (by simpa using hs) (fun k hk => ?_) hds hnd (waits_set (by omega) h3 hc) hv hr'
      rw [hset, hld k hk]
      have : (k == i) = false := by simp; omega
      rw [this, Bool.or_false]
    · have hal : isAllocB ops[i] = true := by
        obtain ⟨j, hj⟩ := Classical.not_forall.1 hfi
        obtain ⟨hj, hjl⟩ := Classical.not_imp.1 hj
        rcases hM.all i j ops[i] (ops[j]'(by omega)) ho (by simp) (by omega) hj with hin2 | ⟨hh, _⟩
        · exact absurd (preds_listed ops.toList [] (by simp) hc (by simp) i h3 j hin2) hjl
        · rcases hh with hh | hh
          · omega
          · exact hh
      have hnd2 : i ∉ ds := fun hh => by
        rw [hld i hin] at h2
        simp [hh] at h2
      obtain ⟨⟨u, cs, hop, hz⟩, hv'⟩ := hstep ds i _ hv hin ho hal hnd2 (fun e he hb => by
        have hl := h3 _ ho e he hb
        rcases Nat.lt_or_ge e.on n with k | k
        · exact .inl k
        · rw [hld _ k] at hl
          exact .inr (by simpa using hl))
      have hal' := hal
      unfold isAllocB at hal'
      simp only [Bool.and_eq_true, Option.isSome_iff_exists, Option.isNone_iff_eq_none] at hal'
      obtain ⟨⟨hg, d', hd'⟩, _⟩ := hal'
      have hst : stepK P ops[i] [] (pushS (ds.reverse.map (madeAt P ops)) (stL (fun j => listed.getD j false) 0 es s)) fun s' => s' = pushS [madeAt P ops i] (pushS (ds.reverse.map (madeAt P ops)) (stL (fun j => listed.getD j false) 0 es s)) := by
        simp only [stepK, hop, hz, hd', madeAt_eq ho, madeBy, pushS, Option.getD_some]
      refine restOp_sound (rest := []) (K := fun s' => s' = pushS [madeAt P ops i] (pushS (ds.reverse.map (madeAt P ops)) (stL (fun j => listed.getD j false) 0 es s))) h ho (by simp only [opsK, hg]; exact hst) fun s' a' w' k1 k2 => ?_
      simp only [opsK] at k1
      subst k1
      have hsame : stL (fun j => (listed.setIfInBounds i true).getD j false) 0 es s = stL (fun j => listed.getD j false) 0 es s := by
        refine stL_congr _ _ 0 es s fun k hk => ?_
        have hkn : k < n := by have := hE.len; omega
        simp only [Nat.zero_add]
        rw [hset]
        have : (k == i) = false := by simp; omega
        rw [this, Bool.or_false]
      have e1 : pushS [madeAt P ops i] (pushS (ds.reverse.map (madeAt P ops)) (stL (fun j => listed.getD j false) 0 es s)) = pushS ((i :: ds).reverse.map (madeAt P ops)) (stL (fun j => (listed.setIfInBounds i true).getD j false) 0 es s) := by
        rw [hsame, List.reverse_cons, List.map_append, List.map_cons, List.map_nil, pushS_snoc]; rfl
      rw [e1] at k2
      refine ih _ (i :: ds) a' w' hcount (by simpa using hs) (fun k hk => ?_) (fun d hd => ?_) (List.nodup_cons.2 ⟨hnd2, hnd⟩) (waits_set (by omega) h3 hc) hv' k2
      · rw [hset, hld k hk, List.contains_cons, Bool.or_comm]
      · rcases List.mem_cons.1 hd with rfl | hd
        · exact ⟨hin, h1, _, ho, hal⟩
        · exact hds d hd
end
end Go.Idl
end
section
namespace Go.Idl

structure SOp where
  d : Option Nat
  op : Op
  t : TypeId
  g : Option (Option Nat × Bool)
  k : Bool
  /-- 1: what is made is to be changed; 2: and its cells are no data -/
  h : Nat

def hintOf : List (Nat × Nat) → Option Nat → Nat
  | [], _ => 0
  | _, none => 0
  | (i, h) :: r, some d => if i = d then h else hintOf r (some d)

def stripL (H : List (Nat × Nat)) (all : List Oper) : List Oper → List SOp
  | [] => []
  | o :: r => ⟨o.dst, o.op, o.type, o.guard.map fun x => ((all[x.1]?).bind (·.dst), x.2), takes o.dst r, hintOf H o.dst⟩ :: stripL H all r

/-- what an operation waits for -/
def onsOf : List Edge → List Nat
  | [] => []
  | e :: r => match e.ground with
    | .textOnly _ => onsOf r
    | .gcOnly _ => onsOf r
    | _ => e.on :: onsOf r

def stripM (H : List (Nat × Nat)) (all : List Oper) : List Oper → List (SOp × List Nat)
  | [] => []
  | o :: r => (⟨o.dst, o.op, o.type, o.guard.map fun x => ((all[x.1]?).bind (·.dst), x.2), takes o.dst r, hintOf H o.dst⟩, onsOf o.after.toList) :: stripM H all r

inductive SC where
  | skip | ret
  | exit (id : Nat)
  | goto (l : Nat)
  | seq (a b : SC)
  /-- the first ones in any order, the others behind them -/
  | ops (f l : List SOp)
  /-- the first ones in each order that may be, the others behind them -/
  | any (f : List (SOp × List Nat)) (l : List SOp)
  /-- free ones, a call that makes something new, and the others in each order that may be -/
  | mix (f : List SOp) (x : Option SOp) (l : List (SOp × List Nat)) (m : Nat)
  /-- free ones, two variables that are made new in either order, the others behind them -/
  | alc (f : List SOp) (x y : Option SOp) (l : List SOp)
  /-- free ones, the others behind them in each order that may be; variables may be made ahead of their time -/
  | alx (f : List SOp) (l : List (SOp × List Nat)) (m : Nat)
  | cond (c : Operand) (a b : SC)
  | block (id : Nat) (c : SC)
  | loop (c : SC)
  | range (g : Operand) (ps : List Nat) (a b : SC)
  | other (c : Code)

/-- how many operations of a drawn region are free -/
def freeOf : List (Nat × Nat) → Nat → Nat → Nat
  | [], _, n => n
  | (i, m) :: r, id, n => if i = id then m else freeOf r id n

def stripC (H M : List (Nat × Nat)) : Code → SC
  | .skip => .skip
  | .label _ => .skip
  | .ret => .ret
  | .exit id => .exit id
  | .goto l => .goto l
  | .seq a b => .seq (stripC H M a) (stripC H M b)
  | .region _ ops false => .ops [] (stripL H ops.toList ops.toList)
  | .region id ops true => if 1000000 ≤ freeOf M id ops.size
    then .mix (stripL [] ops.toList ((ops.toList.take ((freeOf M id ops.size - 1000000) % 1000)).eraseIdx ((freeOf M id ops.size - 1000000) / 1000)))
      ((ops.toList[(freeOf M id ops.size - 1000000) / 1000]?).map fun o => ⟨o.dst, o.op, o.type, none, false, 0⟩) (stripM H ops.toList ops.toList) ((freeOf M id ops.size - 1000000) % 1000)
    else if 500000 ≤ freeOf M id ops.size
    then .alc (stripL [] ops.toList (ops.toList.take (freeOf M id ops.size - 500002))) ((ops.toList[freeOf M id ops.size - 500002]?).map fun o => ⟨o.dst, o.op, o.type, none, false, 0⟩) ((ops.toList[freeOf M id ops.size - 500002 + 1]?).map fun o => ⟨o.dst, o.op, o.type, none, false, 0⟩)
      (stripL H ops.toList (ops.toList.drop (freeOf M id ops.size - 500002 + 2)))
    else if 250000 ≤ freeOf M id ops.size
    then .alx (stripL [] ops.toList (ops.toList.take (freeOf M id ops.size - 250000))) (stripM H ops.toList ops.toList) (freeOf M id ops.size - 250000)
    else if 1000 ≤ freeOf M id ops.size
    then .any (stripM H ops.toList (ops.toList.take (freeOf M id ops.size - 1000))) (stripL H ops.toList (ops.toList.drop (freeOf M id ops.size - 1000)))
    else .ops (stripL [] ops.toList (ops.toList.take (freeOf M id ops.size))) (stripL [] ops.toList (ops.toList.drop (freeOf M id ops.size)))
  | .cond c a b => .cond c (stripC H M a) (stripC H M b)
  | .block id c => .block id (stripC H M c)
  | .loop c => .loop (stripC H M c)
  | .rangeFunc g ps a b => .range g ps.toList (stripC H M a) (stripC H M b)
  | c => .other c

/-- from the k-th on, each operation waits for all before it -/
def anyChk (k : Nat) : Nat → List Oper → List Nat → Bool
  | _, [], _ => true
  | i, o :: r, acc => forceN (maskOf o acc) fun mask => (o.after.toList.all fun e => !Region.binds .any e || decide (e.on < i)) && (decide (i < k) || (List.range i).all fun j => Nat.testBit mask j) && anyChk k (i + 1) r (acc ++ [mask])

def isCallG (o : Oper) : Bool := o.guard.isNone && (match o.op with | .call _ => true | _ => false)
def mixChk (m x : Nat) (ops : Array Oper) : Bool := mixGo ops.toList m 0 ops.toList [] [] && decide (m ≤ ops.size) && decide (x < m) && (match ops.toList[x]? with
  | some ox => isCallG ox && xChk ops.toList ox x 0 (ops.toList.take m)
  | none => false)
def isAllocG (o : Oper) : Bool := o.guard.isNone && o.dst.isSome && (match o.op with | .alloc _ => true | _ => false)
def alcChk (n : Nat) (ops : Array Oper) : Bool := alcGo ops.toList (n + 2) 0 ops.toList [] [] && decide (n + 2 ≤ ops.size) && (match ops.toList[n]?, ops.toList[n + 1]? with
  | some ox, some oy => isAllocG ox && isAllocG oy && xChk ops.toList ox n 0 (ops.toList.take n) && xChk ops.toList oy n 0 (ops.toList.take n)
  | _, _ => false)
def alxChk (n : Nat) (ops : Array Oper) : Bool := alxGo ops.toList n 0 ops.toList [] [] && decide (n ≤ ops.size)
/-- the first numbers -/
def upto : Nat → List Nat
  | 0 => []
  | n + 1 => n :: upto n
theorem upto_mem {n x : Nat} : x ∈ upto n ↔ x < n := by
  induction n with
  | zero => simp [upto]
  | succ n ih => simp [upto, ih]; omega
theorem upto_len (n : Nat) : (upto n).length = n := by
  induction n with
  | zero => rfl
  | succ n ih => simp [upto, ih]
theorem upto_nodup (n : Nat) : (upto n).Nodup := by
  induction n with
  | zero => exact List.nodup_nil
  | succ n ih => exact List.nodup_cons.2 ⟨by simp [upto_mem], ih⟩

/-- every drawn region in it may be run in the order of its text -/
def drawsOK (M : List (Nat × Nat)) : Code → Bool
  | .seq a b => drawsOK M a && drawsOK M b
  | .region id ops free => !free || (bif Nat.ble 1000000 (freeOf M id ops.size) then mixChk ((freeOf M id ops.size - 1000000) % 1000) ((freeOf M id ops.size - 1000000) / 1000) ops
    else bif Nat.ble 500000 (freeOf M id ops.size) then alcChk (freeOf M id ops.size - 500002) ops
    else bif Nat.ble 250000 (freeOf M id ops.size) then alxChk (freeOf M id ops.size - 250000) ops
    else bif Nat.ble 1000 (freeOf M id ops.size) then anyChk (freeOf M id ops.size - 1000) 0 ops.toList [] && decide (freeOf M id ops.size - 1000 ≤ ops.size)
    else drawOK (freeOf M id ops.size) ops.toList && decide (freeOf M id ops.size ≤ ops.size))
  | .cond _ a b => drawsOK M a && drawsOK M b
  | .block _ c => drawsOK M c
  | .loop c => drawsOK M c
  | .rangeFunc _ _ a b => drawsOK M a && drawsOK M b
  | _ => true

def SOp.oper (o : SOp) : Oper := ⟨o.d, o.op, o.t, "", #[], none⟩

/-- where what is made is to be changed -/
def heapK (P : Program) (o : SOp) (s : St) (K : St → Prop) : Prop := match o.op with
  | .buildSlice t n ps => (match o.h, elemTy P t, elI P t with
    | 1, some e, some (z, _) => (match (zeroCs P e).bind (ofCells P e) with
      | some zd => (match fillEl z (List.replicate n zd) (ps.toList.map fun p => (p.1, ev P e s p.2)) with
        | some xs => n * z ≤ 16777216 ∧ zd.flat.length = z ∧ 0 < z ∧ K ({ s with hp := s.hp ++ [IObj.arr z xs] }.put o.d (.ref s.hp.length z 0 n n))
        | none => False)
      | none => False)
    | 2, some e, some (z, _) => (match zeroVs P e with
      | some zs => (match fillD (fun i => some (i * z, z)) (List.replicate n zs).flatten (ps.toList.map fun p => (p.1, ev P e s p.2)) with
        | some cs => n * z ≤ 16777216 ∧ zs.length = z ∧ 0 < z ∧ allBare zs = true ∧ K ({ s with hp := s.hp ++ [IObj.var cs] }.put o.d (.ref s.hp.length z 0 n n))
        | none => False)
      | none => False)
    | _, _, _ => False)
  | .makeSlice t l c => if o.h = 1 then makeOwnK P t l c s o.d K else (match o.h, elemTy P t, elI P t, ev P 0 s l, ev P 0 s c with
    | 2, some e, some (z, by_), .d (.int _ n), .d (.int _ m) => (match zeroVs P e with
      | some zs => n = m ∧ 0 ≤ n ∧ by_ * n ≤ 281474976710656 ∧ n ≤ 9223372036854775807 ∧ zs.length = z ∧ 0 < z ∧ allBare zs = true ∧
          K ({ s with hp := s.hp ++ [IObj.var (List.replicate n.toNat zs).flatten] }.put o.d (.ref s.hp.length z 0 n.toNat n.toNat))
      | none => False)
    | _, _, _, _, _ => False)
  | .call c => (match o.h, c.callee, c.args.toList, c.argTypes.toList with
    | 1, .builtin .append, [x, y], [t0, t1] => (match ev P t0 s x with
      | .nil z => appendNewK P t0 t1 (.nil z) (ev P t1 s y) s o.d K
      | _ => callK P c s o.d K)
    | _, _, _, _ => False)
  | _ => False
where
  allBare : List V → Bool
  | [] => true
  | v :: r => (match v with | .d _ | .nil _ => true | _ => false) && allBare r

def sStep (P : Program) (o : SOp) (s : St) (K : St → Prop) : Prop :=
  if o.h = 0 then (match o.op with
  | .move x => K (mv s x (ev P o.t s x) o.d (o.k || (ev P o.t s x).isTup))
  | .load u x => loadK P u (ev P 0 s x) s o.d o.k K
  | _ => stepK P o.oper [] s K)
  else heapK P o s K

def sOps (P : Program) : List SOp → St → (St → Prop) → Prop
  | [], s, K => K s
  | o :: r, s, K => match o.g with
    | none => sStep P o s fun s' => sOps P r s' K
    | some (some t, want) => match s.tm[t]? with
      | some (.d (.bool b)) => gd b want (sStep P o { s with tm := s.tm.set t (.d (.bool want)) } fun s' => sOps P r s' K) (sOps P r ({ s with tm := s.tm.set t (.d (.bool !want)) }.put o.d (.tup [])) K)
      | some (.tup []) => sOps P r (s.put o.d (.tup [])) K
      | _ => False
    | some (none, _) => False

/-- the operations that may come next -/
def anyL (P : Program) (next : List Nat → St → Prop) (done : List Nat) (s : St) : Nat → List (SOp × List Nat) → Prop
  | _, [] => True
  | i, (o, pm) :: r => (bif !(done.contains i) && pm.all (fun j => done.contains j) then sOps P [o] s (fun s' => next (i :: done) s') else True) ∧ anyL P next done s (i + 1) r
/-- some operations in each order that may be -/
def anyGo (P : Program) (ops : List (SOp × List Nat)) (K : St → Prop) : Nat → List Nat → St → Prop
  | 0, _, s => K s
  | n + 1, done, s => anyL P (anyGo P ops K n) done s 0 ops

def sFree (P : Program) (base : Nat) : List SOp → St → (St → Prop) → Prop
  | [], s, K => K s
  | o :: r, s, K => match o.g with
    | none => freeStep P base o.oper s fun s' => sFree P base r s' K
    | some (some t, want) => match s.tm[t]? with
      | some (.d (.bool b)) => gd b want (freeStep P base o.oper { s with tm := s.tm.set t (.d (.bool want)) } fun s' => sFree P base r s' K) (sFree P base r ({ s with tm := s.tm.set t (.d (.bool !want)) }.put o.d (.tup [])) K)
      | some (.tup []) => sFree P base r (s.put o.d (.tup [])) K
      | _ => False
    | some (none, _) => False

section
variable {P : Program} {κ : Ctx} {s : St} {a : Act} {w : World} {K : St → Prop}

theorem does_buildSliceA {o : Oper} {t : TypeId} {n : Nat} {ps : Array (Nat × Operand)} {e : TypeId} {z y : Nat} {zd : D} {xs : List D} (h : Rel κ s a w) (ho : o.op = .buildSlice t n ps) (e1 : elemTy P t = some e) (e2 : elI P t = some (z, y))
    (ez : (zeroCs P e).bind (ofCells P e) = some zd) (ex : fillEl z (List.replicate n zd) (ps.toList.map fun p => (p.1, ev P e s p.2)) = some xs) (hn : n * z ≤ 16777216) (hzd : zd.flat.length = z) (hz0 : 0 < z)
    (hk : K ({ s with hp := s.hp ++ [IObj.arr z xs] }.put o.dst (.ref s.hp.length z 0 n n))) : Does P κ o a w K := by
  obtain ⟨Φ, B, au, h⟩ := h
  obtain ⟨el, i, zv, hut, hi, hzv, hsz, hby, hzs⟩ := elI_inv e2
  have : e = el := by simp [elemTy, hut] at e1; exact e1.symm
  subst this
  have hz := zero_rep (Φ := Φ) ez hi hzv (by rw [hzd, hzs])
  have hzr := zeros_rep (n := n) hz hzd hz0
  obtain ⟨arr, k1, k2, k3⟩ := fillEl_rep (B := B) hz0 ex hzr (fun x hx => by rw [(List.mem_replicate.1 hx).2]; exact hzd) (forall2_map (P := P) (t := fun _ => e) (ps := ps.toList) h)
  have hxl : xs.length = n := by
    have aux : ∀ (ps : List (Nat × V)) (xs xs' : List D), fillEl z xs ps = some xs' → xs'.length = xs.length := by
      intro ps
      induction ps with
      | nil => intro xs xs' h; simp [fillEl] at h; rw [h]
      | cons p ps ih =>
        intro xs xs' h
        obtain ⟨i, v⟩ := p
        simp only [fillEl] at h
        split at h
        · split at h
          · rw [ih _ _ h]; simp
          · cases h
        · cases h
    rw [aux _ _ _ ex]; simp
  have hrel := h.newArr (Grows.refl w) (z := z) (xs := xs) (vs := arr.toList) (el := e) (cap := n) k2 k3 hxl o.dst n (Nat.le_refl _)
  refine does_value (v := .slice (some ⟨w.heap.size, 0, none⟩) n n) ?_ hk (by simpa using hrel)
  unfold execOp; rw [ho]; refine run_v ?_
  unfold Instr.buildSlice
  rw [Sem.run_bind, run_underlying hut]; simp only [Result.andThen_ok]
  rw [Sem.run_bind, run_sizeOf hi]; simp only [Result.andThen_ok, hsz]
  rw [if_neg (by omega)]
  have e9 : (ps.map fun (i, x) => (i, a.eval x)).toList = ps.toList.map fun p => (p.1, a.eval p.2) := by simp
  simp only [pure_bind]
  split
  · rename_i h0
    have hc0 : (Array.range (n * z)).map (fun x => (#[] : Array Value)[x % (#[] : Array Value).size]!) = (Array.range (n * z)).map (zv.cells[· % zv.cells.size]!) := by rw [h0]; simp
    rw [hc0, e9, k1]; rfl
  · rw [Sem.run_bind, run_zeroValue hi hzv]; simp only [Result.andThen_ok]
    rw [e9, k1]; rfl

/-- so many zero values in a row, as values -/
theorem zerosV_rep {Φ : CM} {B : List Nat} {e : TypeId} {zs : List V} {i : TypeInfo} {zv : Value} {n z : Nat} (ez : zeroVs P e = some zs) (hi : P.info? e = some i) (hz : i.zero = some zv) (hl : zs.length = z) (hz0 : 0 < z) (hb : heapK.allBare zs = true) :
    CellsV Φ B (List.replicate n zs).flatten ((Array.range (n * z)).map (zv.cells[· % zv.cells.size]!)).toList := by
  have hcell : zv.cells.size = z ∧ ∀ (j : Nat) V c, zs[j]? = some V → zv.cells[j]? = some c → okCell c ∧ V.known = true ∧ V.cp = V ∧ RepS Φ B V c := by
    unfold zeroVs at ez
    simp only [hi, Option.bind_some, hz] at ez
    split at ez
    · rename_i hlen
      injection ez with ez
      have hzl : zv.cells.size = z := by rw [← hl, ← ez]; simp [hlen]
      refine ⟨hzl, fun j V c hV hc => ?_⟩
      have hbare : ∀ (l : List Idl.V), heapK.allBare l = true → ∀ V ∈ l, V.known = true ∧ V.cp = V := by
        intro l
        induction l with
        | nil => intro _ V hV; cases hV
        | cons v l ih =>
          intro h V hV
          simp only [heapK.allBare, Bool.and_eq_true] at h
          rcases List.mem_cons.1 hV with rfl | hV
          · cases V <;> simp at h <;> exact ⟨rfl, rfl⟩
          · exact ih h.2 V hV
      have hkc := hbare zs hb V (List.mem_of_getElem? hV)
      rw [← ez] at hV
      simp only [List.getElem?_map, Option.map_eq_some_iff] at hV
      obtain ⟨⟨t', x'⟩, hz', rfl⟩ := hV
      rw [List.getElem?_zip_eq_some] at hz'
      have : x' = c := by have := hz'.2; rw [Array.getElem?_toList, hc] at this; injection this with this; exact this.symm
      subst this
      have hr := constV_rep (P := P) (t := t') (v := x') (Φ := Φ) (B := B) (au := fun _ => none) (w := default) (h := fun _ => .obj 0)
      exact ⟨hr.2.2.1 hkc.1, hkc.1, hkc.2, hr.1⟩
    · cases ez
  obtain ⟨hzs, hcell⟩ := hcell
  have hfl : ∀ n, (List.replicate n zs).flatten.length = n * z := fun n => by
    induction n with
    | zero => simp
    | succ n ih => rw [List.replicate_succ, List.flatten_cons, List.length_append, ih, hl, Nat.add_mul]; omega
  have hget : ∀ (n q r : Nat), r < z → q < n → (List.replicate n zs).flatten[q * z + r]? = zs[r]? := by
    intro n
    induction n with
    | zero => intro q r _ h; omega
    | succ n ih =>
      intro q r hr hq
      rw [List.replicate_succ, List.flatten_cons]
      cases q with
      | zero => rw [Nat.zero_mul, Nat.zero_add, List.getElem?_append_left (by omega)]
      | succ q =>
        have e1 : (q + 1) * z + r = z + (q * z + r) := by rw [Nat.add_mul]; omega
        rw [e1, List.getElem?_append_right (by omega), show z + (q * z + r) - zs.length = q * z + r by omega]
        exact ih q r hr (by omega)
  refine ⟨by rw [hfl]; simp, fun k V c hV hc => ?_⟩
  have hk : k < n * z := by rw [← hfl n]; exact (List.getElem?_eq_some_iff.1 hV).1
  obtain ⟨q, r, hr', rfl⟩ : ∃ q r, r < z ∧ k = q * z + r := ⟨k / z, k % z, Nat.mod_lt _ hz0, by rw [Nat.mul_comm]; exact (Nat.div_add_mod k z).symm⟩
  have hq : q < n := by
    rcases Nat.lt_or_ge q n with h | h
    · exact h
    · have := Nat.mul_le_mul_right z h; omega
  rw [hget n q r hr' hq] at hV
  have hc' : zv.cells[r]? = some c := by
    simp at hc
    obtain ⟨m, hm, hc⟩ := hc
    have hm : q * z + r = m := by
      have := List.getElem?_eq_some_iff.1 hm; obtain ⟨_, h3⟩ := this; simpa using h3
    subst hm
    have e : (q * z + r) % zv.cells.size = r := by rw [hzs, Nat.mul_comm, Nat.mul_add_mod, Nat.mod_eq_of_lt hr']
    rw [e] at hc
    rw [Array.getElem?_eq_getElem (by omega), ← hc, getElem!_pos zv.cells r (by omega)]
  exact hcell r V c hV hc'

theorem Inv.newVar {Φ : CM} {B : List Nat} {au : Auth} (h : Inv κ Φ B au s a w) {cs : List V} {c : Array Value} {el : TypeId} (hc : CellsV Φ B cs c.toList) (dst : Option Nat) {z n : Nat} :
    Rel κ ({ s with hp := s.hp ++ [IObj.var cs] }.put dst (.ref s.hp.length z 0 n n)) (a.put dst (.slice (some ⟨w.heap.size, 0, none⟩) n n)) { w with heap := w.heap.push (.cells c el (0, 0)) } := by
  obtain ⟨au', g⟩ := h.alloc (cs := cs) (c := c) (el := el) (by simpa using hc.1) fun j V v hV hv => by
    obtain ⟨q1, q2, q3, q4⟩ := hc.2 j V v hV (by rw [Array.getElem?_toList]; exact hv)
    exact ⟨fun _ => q1, q4, OwnV_of_cp q3 (by cases V <;> simp_all [V.known, V.isTup]) |> fun f au w h => f au w h v⟩
  exact ⟨Φ, _, au', g.put dst (.ref (b := w.heap.size) (by rw [h.hl]; simp) (Nat.le_refl _) fun _ => by rw [Nat.zero_mul]) fun _ _ => trivial⟩

theorem heap_sound {o : Oper} {g : Option (Option Nat × Bool)} {k : Bool} {hh : Nat} (h : Rel κ s a w) (hk : heapK P ⟨o.dst, o.op, o.type, g, k, hh⟩ s K) : Does P κ o a w K := by
  unfold heapK at hk
  simp only at hk
  split at hk
  · rename_i t n ps ho
    split at hk
    · rename_i e z y e1 e2
      split at hk
      · rename_i zd ez
        split at hk
        · rename_i xs ex
          obtain ⟨hn, hzd, hz0, hk⟩ := hk
          exact does_buildSliceA h ho e1 e2 ez ex hn hzd hz0 hk
        · exact hk.elim
      · exact hk.elim
    · rename_i e z y e1 e2
      split at hk
      · rename_i zs ez
        split at hk
        · rename_i cs ex
          obtain ⟨hn, hzl, hz0, hbare, hk⟩ := hk
          obtain ⟨Φ, B, au, h⟩ := h
          obtain ⟨el, i, zv, hut, hi, hzv, hsz, hby, hzs⟩ := elI_inv e2
          have : e = el := by simp [elemTy, hut] at e1; exact e1.symm
          subst this
          have hzr := zerosV_rep (Φ := Φ) (B := B) (n := n) ez hi hzv hzl hz0 hbare
          obtain ⟨arr, k1, k2⟩ := fill_rep (B := B) ex hzr (forall2_map (P := P) (t := fun _ => e) (ps := ps.toList) h)
          refine does_value (v := .slice (some ⟨w.heap.size, 0, none⟩) n n) ?_ hk (h.newVar (el := e) k2 o.dst)
          unfold execOp; rw [ho]; refine run_v ?_
          unfold Instr.buildSlice
          rw [Sem.run_bind, run_underlying hut]; simp only [Result.andThen_ok]
          rw [Sem.run_bind, run_sizeOf hi]; simp only [Result.andThen_ok, hsz]
          rw [if_neg (by omega)]
          have e9 : (ps.map fun (i, x) => (i, a.eval x)).toList = ps.toList.map fun p => (p.1, a.eval p.2) := by simp
          simp only [pure_bind]
          split
          · rename_i h0
            have hc0 : (Array.range (n * z)).map (fun x => (#[] : Array Value)[x % (#[] : Array Value).size]!) = (Array.range (n * z)).map (zv.cells[· % zv.cells.size]!) := by rw [h0]; simp
            rw [hc0, e9, k1]; rfl
          · rw [Sem.run_bind, run_zeroValue hi hzv]; simp only [Result.andThen_ok]
            rw [e9, k1]; rfl
        · exact hk.elim
      · exact hk.elim
    · exact hk.elim
  · rename_i t l c ho
    by_cases h1 : hh = 1
    · rw [if_pos h1] at hk
      obtain ⟨Φ, B, au, h⟩ := h
      exact does_makeOwn h ho hk
    rw [if_neg h1] at hk
    split at hk
    · rename_i e z y kk n kk' m e1 e2 el' ec
      split at hk
      · rename_i zs ez
        obtain ⟨rfl, hn, hby, hnm, hzl, hz0, hbare, hk⟩ := hk
        obtain ⟨Φ, B, au, h⟩ := h
        obtain ⟨ty, i, zv, hut, hi, hzv, hsz, hyb, hzs⟩ := elI_inv e2
        have : e = ty := by simp [elemTy, hut] at e1; exact e1.symm
        subst this
        have hln := repD_int (ev_d h el')
        have hcn := repD_int (ev_d h ec)
        have hzr := zerosV_rep (Φ := Φ) (B := B) (n := n.toNat) ez hi hzv hzl hz0 hbare
        refine does_value (v := .slice (some ⟨w.heap.size, 0, none⟩) n.toNat n.toNat) ?_ hk (h.newVar (el := e) hzr o.dst)
        unfold execOp; rw [ho]; refine run_v ?_
        have hw : IntKind.i64.wrap n = n := wrap_i64 (by omega) hnm
        subst hsz; subst hyb
        simp only [hln, hcn]
        unfold Instr.makeSlice
        rw [Sem.run_bind, run_underlying hut]; simp only [Result.andThen_ok, asInt, asIntOf, pure_bind]
        rw [Sem.run_bind, run_typeInfo hi]; simp only [Result.andThen_ok, hw]
        have c1 : decide (n < 0) = false := by simpa using hn
        have c2 : decide ((i.bytes : Int) * n > 2 ^ 48) = false := by simp; omega
        have c3 : decide (n > n) = false := by simp
        simp only [c1, c2, c3, Bool.or_self, Bool.false_eq_true, if_false]
        rw [Sem.run_bind, run_askRoom]; simp only [Result.andThen_ok]
        rw [Sem.run_bind, run_sizeOf hi]; simp only [Result.andThen_ok]
        split
        · rename_i h0
          have hc0 : (Array.range (n.toNat * i.size)).map (fun x => (#[] : Array Value)[x % (#[] : Array Value).size]!) = (Array.range (n.toNat * i.size)).map (zv.cells[· % zv.cells.size]!) := by rw [h0]; simp
          rw [hc0]; rfl
        · rw [Sem.run_bind, run_zeroValue hi hzv]; rfl
      · exact hk.elim
    · exact hk.elim
  · rename_i c ho
    split at hk
    · rename_i x y t0 t1 ec ea et
      split at hk
      · rename_i z ez
        rw [← ez] at hk
        obtain ⟨Φ, B, au, h⟩ := h
        exact does_appendNew h ho ec (toList_two ea) (toList_two et) hk
      · exact step_sound (r := []) h (by simp only [stepK, ho]; exact hk)
    · exact hk.elim
  · exact hk.elim

theorem sStep_eq {o : Oper} {r : List Oper} {g : Option (Option Nat × Bool)} {s : St} {K : St → Prop} : sStep P ⟨o.dst, o.op, o.type, g, takes o.dst r, 0⟩ s K = stepK P o r s K := by
  obtain ⟨d, op, t, p, af, gg⟩ := o
  cases op <;> first | rfl | (rename_i x; cases x <;> rfl)

theorem freeStep_eq {o : Oper} {base : Nat} {g : Option (Option Nat × Bool)} {k : Bool} {h : Nat} {s : St} {K : St → Prop} : freeStep P base (SOp.oper ⟨o.dst, o.op, o.type, g, k, h⟩) s K = freeStep P base o s K := by
  obtain ⟨d, op, t, p, af, gg⟩ := o
  cases op <;> first | rfl | (rename_i x; cases x <;> rfl)

theorem sStep_sound {o : Oper} {r : List Oper} {g : Option (Option Nat × Bool)} {hh : Nat} (h : Rel κ s a w) (hk : sStep P ⟨o.dst, o.op, o.type, g, takes o.dst r, hh⟩ s K) : Does P κ o a w K := by
  by_cases e : hh = 0
  · subst e
    rw [sStep_eq] at hk
    exact step_sound h hk
  · unfold sStep at hk
    rw [if_neg e] at hk
    exact heap_sound h hk

theorem sStep_nodefer {o : Oper} {r : List Oper} {g : Option (Option Nat × Bool)} {hh : Nat} {c : Call} (hk : sStep P ⟨o.dst, o.op, o.type, g, takes o.dst r, hh⟩ s K) : o.op ≠ .defer c := by
  intro eo
  by_cases e : hh = 0
  · subst e
    rw [sStep_eq] at hk
    exact stepK_nodefer hk eo
  · unfold sStep at hk
    rw [if_neg e] at hk
    simp [heapK, eo] at hk

theorem sOps_eq {all : List Oper} : ∀ {l : List Oper} {s : St} {K : St → Prop}, sOps P (stripL [] all l) s K = opsK P all l s K
  | [], s, K => rfl
  | o :: r, s, K => by
    have ih : (fun s' => sOps P (stripL [] all r) s' K) = fun s' => opsK P all r s' K := funext fun s' => sOps_eq
    have h0 : hintOf [] o.dst = 0 := rfl
    simp only [stripL, sOps, opsK, h0]
    cases hg : o.guard with
    | none => simp only [Option.map_none, ih, sStep_eq]
    | some x =>
      obtain ⟨j, want⟩ := x
      simp only [Option.map_some]
      cases (all[j]?).bind (·.dst) with
      | none => rfl
      | some t =>
        simp only [ih, sStep_eq, gd, sOps_eq]
        rfl

theorem sFree_eq {H : List (Nat × Nat)} {all : List Oper} {base : Nat} : ∀ {l : List Oper} {s : St} {K : St → Prop}, sFree P base (stripL H all l) s K = freeK P base all l s K
  | [], s, K => rfl
  | o :: r, s, K => by
    have ih : (fun s' => sFree P base (stripL H all r) s' K) = fun s' => freeK P base all r s' K := funext fun s' => sFree_eq
    simp only [stripL, sFree, freeK, freeOp]
    cases hg : o.guard with
    | none => simp only [Option.map_none, ih, freeStep_eq]
    | some x =>
      obtain ⟨j, want⟩ := x
      simp only [Option.map_some]
      cases (all[j]?).bind (·.dst) with
      | none => rfl
      | some t =>
        simp only [ih, freeStep_eq, sFree_eq]
        cases hv : s.tm[t]? with
        | none => rfl
        | some v =>
          cases v with
          | d x =>
            cases x with
            | bool b =>
              refine propext (and_congr (imp_congr_right' ?_) (imp_congr_right' ?_))
              · rintro rfl
                rw [show ({ s with tm := s.tm.set t (.d (.bool b)) } : St) = s by rw [set_self hv]]
              · rintro hb
                rw [show ({ s with tm := s.tm.set t (.d (.bool !want)) } : St) = s by rw [← hb, set_self hv]]
            | _ => rfl
          | tup vs => cases vs <;> rfl
          | _ => rfl

/-- A region in the order of its text, with hints. -/
theorem sops_sound {H : List (Nat × Nat)} {ops : Array Oper} {Q : Exit → Act → World → Prop} : ∀ (rest : List Oper) (i : Nat), (∀ j, rest[j]? = ops[i + j]?) → ∀ {s : St} {a : Act} {w : World}, Rel κ s a w → sOps P (stripL H ops.toList rest) s K →
    (∀ s' a' w', K s' → Rel κ s' a' w' → Q .normal a' w') → wpOpsIn κ.F 0 P ops Q (List.range' i rest.length) a w
  | [], i, _, s, a, w, h, hk, hq => hq _ _ _ hk h
  | o :: rest, i, he, s, a, w, h, hk, hq => by
    have h0 : ops[i]? = some o := by simpa using (he 0).symm
    have he' : ∀ j, rest[j]? = ops[i + 1 + j]? := fun j => by have := he (j + 1); simpa [Nat.add_assoc, Nat.add_comm 1 j] using this
    simp only [List.length_cons, List.range'_succ, wpOpsIn, h0]
    simp only [stripL, sOps] at hk
    cases hg : o.guard with
    | none =>
      simp only [hg, Option.map_none] at hk
      rw [if_pos (by simp [Region.wanted, hg])]
      exact (sStep_sound h hk).wpIn (fun c => sStep_nodefer hk) fun s' a' w' k1 k2 => sops_sound rest (i + 1) he' k2 k1 hq
    | some x =>
      obtain ⟨j, want⟩ := x
      simp only [hg, Option.map_some] at hk
      cases et : (ops.toList[j]?).bind (·.dst) with
      | none => rw [et] at hk; exact hk.elim
      | some t =>
        rw [et] at hk
        simp only at hk
        split at hk
        · rename_i b eb
          obtain ⟨k1, k2⟩ := hk
          obtain ⟨Φ, B, au, hi⟩ := h
          have hlt : t < s.tm.length := (List.getElem?_eq_some_iff.1 eb).1
          have hat : t < a.tmps.size := by rw [← hi.tl]; exact hlt
          have hv : a.tmps[t]? = some (.bool b) := by
            have := (hi.tm t _ _ eb (Array.getElem?_eq_getElem hat)).1
            cases this with | d q => rw [Array.getElem?_eq_getElem hat, repD_bool q]
          have hy : yielded ops a.tmps j = some b := by
            unfold yielded
            rw [Array.getElem?_toList] at et
            simp only [et, Option.bind_some, hv]
          have hset : ∀ b', b = b' → Rel κ { s with tm := s.tm.set t (.d (.bool b')) } a w := by
            rintro b' rfl
            refine ⟨Φ, B, au, hi.islot t fun V' v hV hv' => ?_⟩
            rw [hv] at hv'; injection hv' with hv'; subst hv'
            exact ⟨.d (.bool _), trivial⟩
          by_cases e : b = want
          · rw [if_pos (by simp [Region.wanted, hg, hy, e])]
            have hk1 := k1 e
            exact (sStep_sound (hset want e) hk1).wpIn (fun c => sStep_nodefer hk1) fun s' a' w' k1 k2 => sops_sound rest (i + 1) he' k2 k1 hq
          · rw [if_neg (by simp [Region.wanted, hg, hy, e])]
            have e' : b = !want := by cases b <;> cases want <;> simp_all
            exact ⟨fun _ _ => trivial, sops_sound rest (i + 1) he' ((hset (!want) e').skip o.dst) (k2 e') hq⟩
        · rename_i eb
          rw [if_neg (by simp [Region.wanted, hg, guard_skip h et eb])]
          exact ⟨fun _ _ => trivial, sops_sound rest (i + 1) he' (h.skip o.dst) hk hq⟩
        · exact hk.elim

theorem sregion_sound {H : List (Nat × Nat)} {id : Nat} {ops : Array Oper} {Q : Ex → St → Prop} (h : Rel κ s a w) (hk : sOps P (stripL H ops.toList ops.toList) s (Q .normal)) : (Code.region id ops false).wpIn κ.F 0 P (postK κ Q) a w := by
  refine wpIn_region ?_
  have := sops_sound (Q := postK κ Q) ops.toList 0 (by simp) h hk fun s' a' w' k1 k2 => ⟨.normal, s', rfl, k1, k2⟩
  rw [List.range_eq_range', ← Array.length_toList]
  exact this

/-! ### Each order that may be -/
/-- one operation, with hints -/
theorem sOne_sound {ops : Array Oper} {o : Oper} {r : List Oper} {hh i : Nat} {Q : Exit → Act → World → Prop} {next : Act → World → Prop} (h : Rel κ s a w) (hi : ops[i]? = some o)
    (hk : sOps P [⟨o.dst, o.op, o.type, o.guard.map fun x => ((ops.toList[x.1]?).bind (·.dst), x.2), takes o.dst r, hh⟩] s K)
    (hn : ∀ s' a' w', K s' → Rel κ s' a' w' → next a' w') : wpOpIn κ.F 0 P ops Q i next a w := by
  unfold wpOpIn
  simp only [hi]
  simp only [sOps] at hk
  cases hg : o.guard with
  | none =>
    simp only [hg, Option.map_none] at hk
    rw [if_pos (by simp [Region.wanted, hg])]
    exact (sStep_sound h hk).wpIn (fun c => sStep_nodefer hk) hn
  | some x =>
    obtain ⟨j, want⟩ := x
    simp only [hg, Option.map_some] at hk
    cases et : (ops.toList[j]?).bind (·.dst) with
    | none => rw [et] at hk; exact hk.elim
    | some t =>
      rw [et] at hk
      simp only at hk
      split at hk
      · rename_i b eb
        obtain ⟨k1, k2⟩ := hk
        obtain ⟨Φ, B, au, hi⟩ := h
        have hlt : t < s.tm.length := (List.getElem?_eq_some_iff.1 eb).1
        have hat : t < a.tmps.size := by rw [← hi.tl]; exact hlt
        have hv : a.tmps[t]? = some (.bool b) := by
          have := (hi.tm t _ _ eb (Array.getElem?_eq_getElem hat)).1
          cases this with | d q => rw [Array.getElem?_eq_getElem hat, repD_bool q]
        have hy : yielded ops a.tmps j = some b := by
          unfold yielded
          rw [Array.getElem?_toList] at et
          simp only [et, Option.bind_some, hv]
        have hset : ∀ b', b = b' → Rel κ { s with tm := s.tm.set t (.d (.bool b')) } a w := by
          rintro b' rfl
          refine ⟨Φ, B, au, hi.islot t fun V' v hV hv' => ?_⟩
          rw [hv] at hv'; injection hv' with hv'; subst hv'
          exact ⟨.d (.bool _), trivial⟩
        by_cases e : b = want
        · rw [if_pos (by simp [Region.wanted, hg, hy, e])]
          have hk1 := k1 e
          exact (sStep_sound (hset want e) hk1).wpIn (fun c => sStep_nodefer hk1) hn
        · rw [if_neg (by simp [Region.wanted, hg, hy, e])]
          have e' : b = !want := by cases b <;> cases want <;> simp_all
          exact ⟨fun _ _ => trivial, hn _ _ _ (k2 e') ((hset (!want) e').skip o.dst)⟩
      · rename_i eb
        rw [if_neg (by simp [Region.wanted, hg, guard_skip h et eb])]
        exact ⟨fun _ _ => trivial, hn _ _ _ hk (h.skip o.dst)⟩
      · exact hk.elim

theorem onsOf_mem {j : Nat} : ∀ {l : List Edge}, j ∈ onsOf l → ∃ e ∈ l, Region.binds .any e = true ∧ e.on = j
  | [], h => by cases h
  | e :: l, h => by
    unfold onsOf at h
    have rec_ : j ∈ onsOf l → ∃ e' ∈ e :: l, Region.binds .any e' = true ∧ e'.on = j := fun h => by
      obtain ⟨e', h1, h2⟩ := onsOf_mem h
      exact ⟨e', List.mem_cons_of_mem _ h1, h2⟩
    split at h
    · exact rec_ h
    · exact rec_ h
    · rename_i n1 n2
      rcases List.mem_cons.1 h with rfl | h
      · refine ⟨e, by simp, ?_, rfl⟩
        unfold Region.binds
        split
        · exact absurd ‹_› (n1 _)
        · exact absurd ‹_› (n2 _)
        · rfl
      · exact rec_ h

theorem anyChk_spec {k : Nat} {all : List Oper} : ∀ (rest : List Oper) (i : Nat) (acc : List Nat), anyChk k i rest acc = true → rest = all.drop i → acc.length = i →
    ∀ n o, i ≤ n → all[n]? = some o → (∀ e ∈ o.after, Region.binds .any e = true → e.on < n) ∧ (k ≤ n → ∀ j, j < n → Nat.testBit ((predsL rest acc).getD n 0) j = true)
  | [], i, acc, _, hr, _, n, o, hk, ho => by
    have hlt := (List.getElem?_eq_some_iff.1 ho).1
    have := congrArg List.length hr
    simp at this; omega
  | q :: r, i, acc, h, hr, ha, n, o, hk, ho => by
    simp only [anyChk, forceN_eq, Bool.and_eq_true] at h
    obtain ⟨⟨h1, h2⟩, h3⟩ := h
    have hq : all[i]? = some q := by have := congrArg (·[0]?) hr; simpa using this.symm
    rcases Nat.lt_or_eq_of_le hk with hlt | rfl
    · have := anyChk_spec r (i + 1) _ h3 (by have := congrArg List.tail hr; simpa [List.tail_drop] using this) (by simp [ha]) n o hlt ho
      simpa only [predsL] using this
    · rw [hq] at ho; injection ho with ho; subst ho
      refine ⟨fun e he hb => ?_, fun hki j hj => ?_⟩
      · rw [List.all_eq_true] at h1
        have := h1 e (by simpa using he)
        simpa [hb] using this
      · have hmask : (predsL (q :: r) acc).getD i 0 = maskOf q acc := by
          unfold predsL
          rw [predsL_get r _ i (by simp [ha]), List.getD, List.getElem?_append_right (by omega)]
          simp [ha]
        rw [hmask]
        rcases Bool.or_eq_true _ _ ▸ h2 with h2 | h2
        · simp at h2; omega
        · rw [List.all_eq_true] at h2
          exact h2 j (by simpa using hj)

theorem nodup_le {α : Type} [BEq α] [LawfulBEq α] : ∀ {l m : List α}, l.Nodup → (∀ x ∈ l, x ∈ m) → l.length ≤ m.length
  | [], _, _, _ => Nat.zero_le _
  | x :: l, m, hn, hs => by
    rw [List.nodup_cons] at hn
    have hx : x ∈ m := hs x (by simp)
    have := nodup_le (l := l) (m := m.erase x) hn.2 fun y hy => by
      rw [List.mem_erase_of_ne (by rintro rfl; exact hn.1 hy)]
      exact hs y (by simp [hy])
    rw [List.length_erase_of_mem hx] at this
    have := List.length_pos_of_mem hx
    simp; omega

theorem stripM_get {H : List (Nat × Nat)} {all : List Oper} : ∀ {l : List Oper} {i : Nat} {o : Oper}, l[i]? = some o → ∃ r hh, (stripM H all l)[i]? = some (⟨o.dst, o.op, o.type, o.guard.map fun x => ((all[x.1]?).bind (·.dst), x.2), takes o.dst r, hh⟩, onsOf o.after.toList)
  | [], i, o, h => by simp at h
  | q :: l, 0, o, h => by
    simp at h; subst h
    exact ⟨l, hintOf H q.dst, rfl⟩
  | q :: l, i + 1, o, h => by
    obtain ⟨r, hh, e⟩ := stripM_get (H := H) (all := all) (l := l) (i := i) (o := o) (by simpa using h)
    exact ⟨r, hh, by simpa [stripM] using e⟩
theorem stripM_length {H : List (Nat × Nat)} {all : List Oper} : ∀ {l : List Oper}, (stripM H all l).length = l.length
  | [] => rfl
  | o :: l => by simp [stripM, stripM_length (l := l)]

theorem anyL_get {next : List Nat → St → Prop} {done : List Nat} : ∀ {ops : List (SOp × List Nat)} {b i : Nat} {o : SOp} {pm : List Nat}, anyL P next done s b ops → ops[i]? = some (o, pm) → done.contains (b + i) = false → (pm.all fun j => done.contains j) = true →
    sOps P [o] s fun s' => next ((b + i) :: done) s'
  | [], _, _, _, _, _, h, _, _ => by simp at h
  | (q, qm) :: ops, b, 0, o, pm, h, ho, h1, h2 => by
    simp at ho; obtain ⟨rfl, rfl⟩ := ho
    unfold anyL at h
    simp only [Nat.add_zero] at h1
    rw [h1, h2] at h
    exact h.1
  | (q, qm) :: ops, b, i + 1, o, pm, h, ho, h1, h2 => by
    unfold anyL at h
    have := anyL_get (i := i) h.2 (by simpa using ho) (by rw [← h1]; congr 1; omega) h2
    rw [show b + (i + 1) = b + 1 + i by omega]; exact this

theorem restS_any {H : List (Nat × Nat)} {ops : Array Oper} {k0 : Nat} {Q : Exit → Act → World → Prop} (hlt : ∀ i o, ops[i]? = some o → ∀ e ∈ o.after, Region.binds .any e = true → e.on < i)
    (hall : ∀ i o, ops[i]? = some o → k0 ≤ i → ∀ j, j < i → Nat.testBit ((predsL ops.toList []).getD i 0) j = true) (hq : ∀ s' a' w', K s' → Rel κ s' a' w' → Q .normal a' w') :
    ∀ (fuel k : Nat) (listed : Array Bool) (s : St) (a : Act) (w : World), k + fuel = ops.size → k0 ≤ k → listed.size = ops.size →
    (∀ j, listed.getD j false = decide (j < k)) → (∀ i, listed.getD i false = true → Waits ops listed i) → Rel κ s a w → sOps P (stripL H ops.toList (ops.toList.drop k)) s K → wpAnyIn κ.F 0 P .any ops Q fuel listed a w
  | 0, k, listed, s, a, w, hk, hm, hs, hl, hc, h, hop => by
    refine ⟨?_, ?_⟩
    · apply List.eq_nil_iff_forall_not_mem.2
      intro i hi
      obtain ⟨h1, h2, _⟩ := (ready_iff hs).1 hi
      rw [hl] at h2; simp at h2; omega
    · rw [List.drop_eq_nil_of_le (by simp; omega)] at hop
      exact hq _ _ _ hop h
  | fuel + 1, k, listed, s, a, w, hk, hm, hs, hl, hc, h, hop => by
    have hd : DrawOK ops.size ops ∨ True := .inr trivial
    refine ⟨fun hn => ?_, fun i hi => ?_⟩
    · have hmem : k ∈ Region.ready .any ops listed := (ready_iff hs).2 ⟨by omega, by rw [hl]; simp, fun o ho e he hb => by
        have := hlt k o ho e he hb
        rw [hl]; simpa using this⟩
      rw [hn] at hmem; cases hmem
    · obtain ⟨h1, h2, h3⟩ := (ready_iff hs).1 hi
      have hik : i = k := by
        rw [hl] at h2; simp at h2
        rcases Nat.lt_or_ge k i with hlt' | hge
        · have ho : ops[i]? = some ops[i] := by simp [h1]
          have hin := hall i _ ho (by omega) k hlt'
          have := preds_listed ops.toList [] (by simp) hc (by simp) i h3 k hin
          rw [hl] at this; simp at this
        · omega
      subst hik
      have ho : ops[i]? = some ops[i] := by simp [h1]
      rw [List.drop_eq_getElem_cons (by simpa using h1), Array.getElem_toList] at hop
      have hop' : sOps P [⟨ops[i].dst, ops[i].op, ops[i].type, ops[i].guard.map fun x => ((ops.toList[x.1]?).bind (·.dst), x.2), takes ops[i].dst (ops.toList.drop (i + 1)), hintOf H ops[i].dst⟩] s (fun s' => sOps P (stripL H ops.toList (ops.toList.drop (i + 1))) s' K) := hop
      refine sOne_sound h ho hop' fun s' a' w' k1 k2 => ?_
      refine restS_any hlt hall hq fuel (i + 1) _ s' a' w' (by omega) (by omega) (by simpa using hs) (fun j => ?_) (waits_set (by omega) h3 hc) k2 k1
      rw [getD_set _ _ _ (by omega), hl]
      by_cases e : j = i
      · subst e; simp
      · have : (j == i) = false := by simpa using e
        rw [this]; simp; omega

theorem any_any {H : List (Nat × Nat)} {ops : Array Oper} {k0 : Nat} {Q : Exit → Act → World → Prop} (hk0 : k0 ≤ ops.size) (hlt : ∀ i o, ops[i]? = some o → ∀ e ∈ o.after, Region.binds .any e = true → e.on < i)
    (hall : ∀ i o, ops[i]? = some o → k0 ≤ i → ∀ j, j < i → Nat.testBit ((predsL ops.toList []).getD i 0) j = true) (hq : ∀ s' a' w', K s' → Rel κ s' a' w' → Q .normal a' w') :
    ∀ (n m : Nat) (done : List Nat) (listed : Array Bool) (s : St) (a : Act) (w : World), n + done.length = k0 → m + k0 = ops.size → done.Nodup → (∀ j ∈ done, j < k0) → listed.size = ops.size →
    (∀ j, listed.getD j false = done.contains j) → (∀ i, listed.getD i false = true → Waits ops listed i) → Rel κ s a w →
    anyGo P (stripM H ops.toList (ops.toList.take k0)) (fun s' => sOps P (stripL H ops.toList (ops.toList.drop k0)) s' K) n done s → wpAnyIn κ.F 0 P .any ops Q (n + m) listed a w
  | 0, m, done, listed, s, a, w, hn, hm, hnd, hdk, hs, hl, hc, h, hop => by
    rw [Nat.zero_add]
    refine restS_any hlt hall hq m k0 listed s a w (by omega) (Nat.le_refl _) hs (fun j => ?_) hc h hop
    rw [hl, Bool.eq_iff_iff]
    simp only [List.contains_iff_mem, decide_eq_true_eq]
    refine ⟨hdk j, fun hj => ?_⟩
    refine Classical.byContradiction fun hnm => ?_
    have := nodup_le (l := j :: done) (m := List.range k0) (List.nodup_cons.2 ⟨hnm, hnd⟩) fun x hx => by
      rcases List.mem_cons.1 hx with rfl | hx
      · simpa using hj
      · simpa using hdk x hx
    simp at this; omega
  | n + 1, m, done, listed, s, a, w, hn, hm, hnd, hdk, hs, hl, hc, h, hop => by
    rw [show n + 1 + m = (n + m) + 1 by omega]
    have hmiss : ∃ i, i < k0 ∧ ¬ i ∈ done := Classical.byContradiction fun hno => by
      have hin : ∀ x ∈ List.range k0, x ∈ done := fun x hx => Classical.byContradiction fun h => hno ⟨x, by simpa using hx, h⟩
      have := nodup_le (l := List.range k0) (m := done) List.nodup_range hin
      simp at this; omega
    refine ⟨fun hnil => ?_, fun i hi => ?_⟩
    · have key : ∀ i, i < ops.size → listed.getD i false = true := by
        intro i
        induction i using Nat.strongRecOn with
        | ind i ih =>
          intro hi
          refine Classical.byContradiction fun hno => ?_
          have : i ∈ Region.ready .any ops listed := (ready_iff hs).2 ⟨hi, by simpa using hno, fun o ho e he hb => by
            have := hlt i o ho e he hb
            exact ih e.on this (by omega)⟩
          rw [hnil] at this; cases this
      obtain ⟨i, h1, h2⟩ := hmiss
      have := key i (by omega)
      rw [hl] at this; exact absurd (by simpa using this) h2
    · obtain ⟨h1, h2, h3⟩ := (ready_iff hs).1 hi
      have ho : ops[i]? = some ops[i] := by simp [h1]
      have hik : i < k0 := by
        rcases Nat.lt_or_ge i k0 with h' | h'
        · exact h'
        · exfalso
          obtain ⟨j, hj, hjn⟩ := hmiss
          have hin := hall i _ ho h' j (by omega)
          have := preds_listed ops.toList [] (by simp) hc (by simp) i h3 j hin
          rw [hl] at this; exact hjn (by simpa using this)
      obtain ⟨r, hh, e⟩ := stripM_get (H := H) (all := ops.toList) (l := ops.toList.take k0) (i := i) (o := ops[i]) (by rw [List.getElem?_take_of_lt hik]; simpa using ho)
      unfold anyGo at hop
      have hst := anyL_get hop e (by rw [Nat.zero_add, ← hl]; exact h2) (by
        rw [List.all_eq_true]
        intro j hj
        obtain ⟨e', q1, q2, rfl⟩ := onsOf_mem hj
        rw [← hl]; exact h3 _ ho e' (by simpa using q1) q2)
      rw [Nat.zero_add] at hst
      refine sOne_sound h ho hst fun s' a' w' k1 k2 => ?_
      have hnm : ¬ i ∈ done := fun hh => by
        rw [hl] at h2; simp at h2; exact h2 hh
      refine any_any hk0 hlt hall hq n m (i :: done) _ s' a' w' (by simp; omega) hm (List.nodup_cons.2 ⟨hnm, hnd⟩) (fun j hj => ?_) (by simpa using hs) (fun j => ?_) (waits_set (by omega) h3 hc) k2 k1
      · rcases List.mem_cons.1 hj with rfl | hj
        · exact hik
        · exact hdk j hj
      · rw [getD_set _ _ _ (by omega), hl, List.contains_cons, Bool.or_comm]

theorem any_sem {H : List (Nat × Nat)} {id k0 : Nat} {ops : Array Oper} {Q : Ex → St → Prop} (hmo : P.follows .mixedOrders = true) (hd : anyChk k0 0 ops.toList [] = true) (hm : k0 ≤ ops.size)
    (hk : anyGo P (stripM H ops.toList (ops.toList.take k0)) (fun s' => sOps P (stripL H ops.toList (ops.toList.drop k0)) s' (Q .normal)) (stripM H ops.toList (ops.toList.take k0)).length [] s) : SemC P (.region id ops true) Q s := by
  intro κ a w hr
  refine wpIn_region_any hmo ?_
  have key := anyChk_spec (all := ops.toList) ops.toList 0 [] hd (by simp) rfl
  have hlen : (stripM H ops.toList (ops.toList.take k0)).length = k0 := by rw [stripM_length]; simp; omega
  rw [hlen] at hk
  have := any_any (κ := κ) (P := P) (H := H) (ops := ops) (k0 := k0) (Q := postK κ Q) (K := Q .normal) hm (fun i o ho => (key i o (Nat.zero_le _) (by simpa using ho)).1) (fun i o ho hki => (key i o (Nat.zero_le _) (by simpa using ho)).2 hki)
    (fun s' a' w' k1 k2 => ⟨.normal, s', rfl, k1, k2⟩) k0 (ops.size - k0) [] (Array.replicate ops.size false) s a { w with drawn := w.drawn + 1 } (by simp) (by omega) List.nodup_nil (by simp) (by simp) (fun j => by simp [Array.getD]) (fun i hi => by simp [Array.getD] at hi)
    (by obtain ⟨Φ, B, au, h⟩ := hr; exact ⟨Φ, B, au, h.grow (Grows.drew w _)⟩) hk
  rw [show k0 + (ops.size - k0) = ops.size by omega] at this
  exact this

/-- a stripped loop -/
def SemL (P : Program) (sc : SC) (Q : Ex → St → Prop) (s : St) : Prop := ∀ H M c, stripC H M c = sc → drawsOK M c = true → SemC P (.loop c) Q s
/-- a stripped range over a function -/
def SemR (P : Program) (g : Operand) (ps : List Nat) (sa sb : SC) (Q : Ex → St → Prop) (s : St) : Prop :=
  ∀ H M asg body, stripC H M asg = sa → stripC H M body = sb → drawsOK M asg = true → drawsOK M body = true → SemC P (.rangeFunc g ps.toArray asg body) Q s

def eK (P : Program) : SC → (Ex → St → Prop) → St → Prop
  | .skip, Q, s => Q .normal s
  | .ret, Q, s => Q .ret s
  | .exit id, Q, s => Q (.exit id) s
  | .goto l, Q, s => Q (.goto l) s
  | .seq a b, Q, s => eK P a (thenK (eK P b Q) Q) s
  | .ops f l, Q, s => sFree P s.hp.length f s fun s' => sOps P l s' (Q .normal)
  | .any f l, Q, s => anyGo P f (fun s' => sOps P l s' (Q .normal)) f.length [] s
  | .mix f (some o) l m, Q, s => sFree P s.hp.length f s fun s1 => match o.op with
    | .call c => callX P c s1 o.d fun s2 => anyGo P l (Q .normal) (l.length - m) (upto m) s2
    | _ => False
  | .mix _ none _ _, _, _ => False
  | .alc f (some ox) (some oy) l, Q, s => sFree P s.hp.length f s fun s1 => sOps P [ox, oy] s1 (fun s2 => sOps P l s2 (Q .normal)) ∧ sOps P [oy, ox] s1 (fun s2 => sOps P l s2 (Q .normal))
  | .alc _ _ _ _, _, _ => False
  | .alx f l m, Q, s => sFree P s.hp.length f s fun s1 => anyGo P l (Q .normal) (l.length - m) (upto m) s1
  | .cond c a b, Q, s => match ev P 0 s c with
    | .d (.bool t) => gd t true (eK P a Q s) (eK P b Q s)
    | _ => False
  | .block id c, Q, s => eK P c (inBlockK id Q) s
  | .loop c, Q, s => SemL P c Q s
  | .range g ps a b, Q, s => SemR P g ps a b Q s
  | .other c, Q, s => SemC P c Q s

theorem stripL_drop {H : List (Nat × Nat)} {all : List Oper} {l : List Oper} {n : Nat} (h : l.length ≤ n) {K : St → Prop} {s : St} : sOps P (stripL H all (l.drop n)) s K = K s := by
  rw [List.drop_eq_nil_of_le h]; rfl

theorem mixS_sem {H : List (Nat × Nat)} {id m x : Nat} {ops : Array Oper} {Q : Ex → St → Prop} {s : St} (hmo : P.follows .mixedOrders = true) (hd : mixChk m x ops = true)
    (hk : eK P (.mix (stripL [] ops.toList ((ops.toList.take m).eraseIdx x)) ((ops.toList[x]?).map fun o => ⟨o.dst, o.op, o.type, none, false, 0⟩) (stripM H ops.toList ops.toList) m) Q s) : SemC P (.region id ops true) Q s := by
  intro κ a w hr
  refine wpIn_region_any hmo ?_
  simp only [mixChk, Bool.and_eq_true, decide_eq_true_eq] at hd
  obtain ⟨⟨⟨h1, h2⟩, h3⟩, h4⟩ := hd
  have key := mixGo_spec (all := ops.toList) ops.toList 0 [] [] h1 (by simp) rfl (by simp)
  cases hox : ops.toList[x]? with
  | none => rw [hox] at h4; cases h4
  | some ox =>
    rw [hox] at h4 hk
    simp only [Bool.and_eq_true] at h4
    obtain ⟨h5, h6⟩ := h4
    simp only [Option.map_some, eK] at hk
    unfold isCallG at h5
    rw [Bool.and_eq_true] at h5
    obtain ⟨h7, h8⟩ := h5
    cases hop : ox.op with
    | call c =>
      have hk' : freeK P s.hp.length ops.toList ((ops.toList.take m).eraseIdx x) s fun s1 => callX P c s1 ox.dst fun s2 => anyGo P (stripM H ops.toList ops.toList) (Q .normal) ((stripM H ops.toList ops.toList).length - m) (upto m) s2 := by
        rw [← sFree_eq (H := [])]
        simpa only [hop] using hk
      have hM : MixOK m x ox ops := ⟨fun i o ho => (key i o (Nat.zero_le _) (by simpa using ho)).1, fun i j o p ho hp hji hjm => by
          rcases (key i o (Nat.zero_le _) (by simpa using ho)).2 j p hji (by simpa using hp) with q | q | q
          · exact .inl q
          · exact .inr q
          · omega, h2, h3, by simpa using hox, fun i o him ho hix => by
          have := xChk_spec h6 i o (by rw [List.getElem?_take_of_lt him]; simpa using ho) (by omega)
          simpa using this⟩
      refine mix_sem hM hop (by simpa using h7) hk' (w := { w with drawn := w.drawn + 1 }) (by obtain ⟨Φ, B, au, h⟩ := hr; exact ⟨Φ, B, au, h.grow (Grows.drew w _)⟩) fun listed s' a' w' hs hl hc hK hr' => ?_
      have hlen : (stripM H ops.toList ops.toList).length = ops.size := by rw [stripM_length]; simp
      have e1 : ops.toList.take ops.size = ops.toList := by rw [← Array.length_toList, List.take_length]
      have := any_any (κ := κ) (P := P) (H := H) (ops := ops) (k0 := ops.size) (Q := postK κ Q) (K := Q .normal) (Nat.le_refl _) (fun i o ho => (key i o (Nat.zero_le _) (by simpa using ho)).1)
        (fun i o ho hi => by have := (Array.getElem?_eq_some_iff.1 ho).1; omega) (fun s' a' w' k1 k2 => ⟨.normal, s', rfl, k1, k2⟩) (ops.size - m) 0 (upto m) listed s' a' w' (by rw [upto_len]; omega) (by omega) (upto_nodup _) (fun j hj => by have := upto_mem.1 hj; omega) hs
        (fun j => by rw [hl, Bool.eq_iff_iff]; simp [upto_mem]) hc hr' (by
          simp only [hlen] at hK
          rw [e1]
          have e2 : (fun s' => sOps P (stripL H ops.toList (ops.toList.drop ops.size)) s' (Q .normal)) = Q .normal := funext fun s' => stripL_drop (by simp)
          rw [e2]; exact hK)
      simpa using this
    | _ => rw [hop] at h8; cases h8

theorem sOps_alloc2 {dx dy : Nat} {ux uy : TypeId} {tx ty : TypeId} {cx cy : List V} (hx : zeroVs P ux = some cx) (hy : zeroVs P uy = some cy) {s : St} {K : St → Prop} :
    sOps P [⟨some dx, .alloc ux, tx, none, false, 0⟩, ⟨some dy, .alloc uy, ty, none, false, 0⟩] s K = K (pushS [(dx, .var cx), (dy, .var cy)] s) := by
  simp only [sOps, sStep, SOp.oper, stepK, hx, hy, pushS, if_true]
theorem alcS_sem {H : List (Nat × Nat)} {id n : Nat} {ops : Array Oper} {Q : Ex → St → Prop} {s : St} (hmo : P.follows .mixedOrders = true) (hd : alcChk n ops = true)
    (hk : eK P (.alc (stripL [] ops.toList (ops.toList.take n)) ((ops.toList[n]?).map fun o => ⟨o.dst, o.op, o.type, none, false, 0⟩) ((ops.toList[n + 1]?).map fun o => ⟨o.dst, o.op, o.type, none, false, 0⟩) (stripL H ops.toList (ops.toList.drop (n + 2)))) Q s) : SemC P (.region id ops true) Q s := by
  intro κ a w hr
  refine wpIn_region_any hmo ?_
  simp only [alcChk, Bool.and_eq_true, decide_eq_true_eq] at hd
  obtain ⟨⟨h1, h2⟩, h4⟩ := hd
  have key := alcGo_spec (all := ops.toList) ops.toList 0 [] [] h1 (by simp) rfl (by simp)
  have hox : ∃ ox, ops.toList[n]? = some ox := ⟨ops.toList[n]'(by simp; omega), by simp⟩
  have hoy : ∃ oy, ops.toList[n + 1]? = some oy := ⟨ops.toList[n + 1]'(by simp; omega), by simp⟩
  obtain ⟨ox, hox⟩ := hox
  obtain ⟨oy, hoy⟩ := hoy
  rw [hox, hoy] at h4 hk
  simp only [Bool.and_eq_true] at h4
  obtain ⟨⟨⟨a1, a2⟩, a3⟩, a4⟩ := h4
  simp only [Option.map_some, eK] at hk
  unfold isAllocG at a1 a2
  simp only [Bool.and_eq_true, Option.isNone_iff_eq_none, Option.isSome_iff_exists] at a1 a2
  obtain ⟨⟨gx, dx, ex⟩, ax⟩ := a1
  obtain ⟨⟨gy, dy, ey⟩, ay⟩ := a2
  cases hopx : ox.op with
  | alloc ux =>
    cases hopy : oy.op with
    | alloc uy =>
      rw [sFree_eq] at hk
      simp only [hopx, hopy, ex, ey] at hk
      obtain ⟨es, k1, k2, k3⟩ := free_effs (base := s.hp.length) (all := ops.toList) (Nat.le_refl _) (ops.toList.take n) s (Nat.le_refl _) hk
      have hcs : ∃ cx cy, zeroVs P ux = some cx ∧ zeroVs P uy = some cy := by
        have k2 := k2.1
        simp only [sOps, sStep, SOp.oper, stepK, if_true] at k2
        cases hzx : zeroVs P ux with
        | none => rw [hzx] at k2; exact k2.elim
        | some cx =>
          rw [hzx] at k2
          simp only at k2
          cases hzy : zeroVs P uy with
          | none => rw [hzy] at k2; exact k2.elim
          | some cy => exact ⟨cx, cy, rfl, rfl⟩
      obtain ⟨cx, cy, zx, zy⟩ := hcs
      clear k1 k2 k3 es
      simp only [sOps_alloc2 zx zy, sOps_alloc2 zy zx] at hk
      have wx : ∀ o : Oper, dx ∈ opWrites ox := fun _ => List.mem_append_left _ (by simp [ex])
      have wy : ∀ o : Oper, dy ∈ opWrites oy := fun _ => List.mem_append_left _ (by simp [ey])
      have hM : AlcOK P n ops ox oy (dx, .var cx) (dy, .var cy) := by
        refine ⟨fun i o ho => (key i o (Nat.zero_le _) (by simpa using ho)).1, fun i j o p ho hp hji => (key i o (Nat.zero_le _) (by simpa using ho)).2 j p hji (by simpa using hp), h2, by simpa using hox, by simpa using hoy, gx, gy, fun s' K' hK' => ?_, fun s' K' hK' => ?_, fun i o hi ho => ?_⟩
        · simpa only [stepK, hopx, zx, ex, pushS] using hK'
        · simpa only [stepK, hopy, zy, ey, pushS] using hK'
        · have b1 := xChk_spec a3 i o (by rw [List.getElem?_take_of_lt hi]; simpa using ho) (by omega)
          have b2 := xChk_spec a4 i o (by rw [List.getElem?_take_of_lt hi]; simpa using ho) (by omega)
          exact ⟨b1.1, b1.2.1 dx (wx o), b2.2.1 dy (wy o)⟩
      refine alc_sem (K := fun s2 => sOps P (stripL H ops.toList (ops.toList.drop (n + 2))) s2 (Q .normal)) hM hk (w := { w with drawn := w.drawn + 1 }) (by obtain ⟨Φ, B, au, h⟩ := hr; exact ⟨Φ, B, au, h.grow (Grows.drew w _)⟩) fun listed s' a' w' hs hl hc hK hr' => ?_
      exact restS_any (K := Q .normal) (H := H) (k0 := n + 2) hM.lt (fun i o ho hi j hj => by
          have hlt := (Array.getElem?_eq_some_iff.1 ho).1
          rcases hM.all i j o (ops[j]'(by omega)) ho (by simp) hj with q | q
          · exact q
          · omega) (fun s' a' w' k1 k2 => ⟨.normal, s', rfl, k1, k2⟩) (ops.size - (n + 2)) (n + 2) listed s' a' w' (by omega) (Nat.le_refl _) hs hl hc hr' hK
    | _ => rw [hopy] at ay; cases ay
  | _ => rw [hopx] at ax; cases ax

theorem count_done {l : List Bool} {done : List Nat} (hnd : done.Nodup) (hlt : ∀ d ∈ done, d < l.length) (h : ∀ j, l.getD j false = done.contains j) : l.count false + done.length = l.length := by
  have e1 : l = (List.range l.length).map fun j => done.contains j := by
    apply List.ext_getElem
    · simp
    · intro i h1 h2
      have := h i
      simp only [List.getElem_map, List.getElem_range]
      rw [← this]; simp [List.getD, h1]
  have e2 : ((List.range l.length).filter fun j => done.contains j).length = done.length := by
    refine Nat.le_antisymm (nodup_le (List.nodup_range.filter _) fun x hx => ?_) (nodup_le hnd fun x hx => ?_)
    · simpa using (List.mem_filter.1 hx).2
    · exact List.mem_filter.2 ⟨by simpa using hlt x hx, by simpa using hx⟩
  have e3 : l.count true = done.length := by
    rw [← e2]
    conv => lhs; rw [e1]
    rw [List.count_eq_countP, List.countP_map, List.countP_eq_length_filter]
    congr 1
    exact List.filter_congr fun x _ => by simp
  have e4 : l.count true + l.count false = l.length := by
    have : ∀ l : List Bool, l.count true + l.count false = l.length := by
      intro l
      induction l with
      | nil => rfl
      | cons b l ih => cases b <;> simp <;> omega
    exact this l
  omega
theorem alxS_sem {H : List (Nat × Nat)} {id n : Nat} {ops : Array Oper} {Q : Ex → St → Prop} {s : St} (hmo : P.follows .mixedOrders = true) (hd : alxChk n ops = true)
    (hk : eK P (.alx (stripL [] ops.toList (ops.toList.take n)) (stripM H ops.toList ops.toList) n) Q s) : SemC P (.region id ops true) Q s := by
  intro κ a w hr
  refine wpIn_region_any hmo ?_
  simp only [alxChk, Bool.and_eq_true, decide_eq_true_eq] at hd
  obtain ⟨h1, h2⟩ := hd
  have key := alxGo_spec (all := ops.toList) ops.toList 0 [] [] h1 (by simp) rfl (by simp)
  simp only [eK] at hk
  rw [sFree_eq] at hk
  have hM : AlxOK P n ops := by
    refine ⟨fun i o ho => (key i o (Nat.zero_le _) (by simpa using ho)).1, fun i o hi ho => (key i o (Nat.zero_le _) (by simpa using ho)).2.1 hi, fun i j o p ho hp hji hjn => ?_, h2⟩
    rcases (key i o (Nat.zero_le _) (by simpa using ho)).2.2 j p hji (by simpa using hp) with q | q | q
    · exact .inl q
    · exact .inr q
    · omega
  obtain ⟨es, k1, k2, k3⟩ := free_effs (base := s.hp.length) (all := ops.toList) (Nat.le_refl _) (ops.toList.take n) s (Nat.le_refl _) hk
  have hE : EffsOK P s.hp.length n ops es s := by
    refine ⟨by rw [k1]; simp; omega, Nat.le_refl _, fun i o him ho => ?_⟩
    obtain ⟨e, q1, q2, q3, q4⟩ := k3 i o (by rw [List.getElem?_take_of_lt him]; simpa using ho)
    exact ⟨e, q1, q2, q3 (hM.na i o him ho), q4⟩
  have hlen : (stripM H ops.toList ops.toList).length = ops.size := by rw [stripM_length]; simp
  rw [hlen] at k2
  refine alx_run (Q := postK κ Q) (w := { w with drawn := w.drawn + 1 }) hM hE (V := fun ds => ds.Nodup ∧ (∀ d ∈ ds, n ≤ d ∧ d < ops.size) ∧ anyGo P (stripM H ops.toList ops.toList) (Q .normal) (ops.size - n - ds.length) (ds ++ upto n) (pushS (ds.reverse.map (madeAt P ops)) (stL (fun _ => true) 0 es s)))
    ?_ ?_ ops.size _ [] a (by simp) (by simp) (fun i _ => by simp [Array.getD]) (fun d hd => by cases hd) List.nodup_nil (fun i hi => by simp [Array.getD] at hi) ⟨List.nodup_nil, fun d hd => (by cases hd), by simpa [pushS] using k2⟩ ?_
  · rintro ds i o ⟨v1, v2, v3⟩ hin ho hal hnd hpre
    have hil : i < ops.size := (Array.getElem?_eq_some_iff.1 ho).1
    have hcount : ds.length < ops.size - n := by
      have := nodup_le (l := i :: ds) (m := List.range' n (ops.size - n)) (List.nodup_cons.2 ⟨hnd, v1⟩) fun x hx => by
        rw [List.mem_range'_1]
        rcases List.mem_cons.1 hx with rfl | hx
        · omega
        · have := v2 x hx; omega
      simp at this; omega
    obtain ⟨k, hk⟩ : ∃ k, ops.size - n - ds.length = k + 1 := ⟨ops.size - n - ds.length - 1, by omega⟩
    rw [hk] at v3
    obtain ⟨r, hh, e⟩ := stripM_get (H := H) (all := ops.toList) (l := ops.toList) (i := i) (o := o) (by simpa using ho)
    unfold anyGo at v3
    have hst := anyL_get v3 e (by
      rw [Nat.zero_add]
      simp only [List.contains_eq_mem, decide_eq_false_iff_not, List.mem_append, upto_mem]
      rintro (h | h)
      · exact hnd h
      · omega) (by
      rw [List.all_eq_true]
      intro j hj
      obtain ⟨e', q1, q2, rfl⟩ := onsOf_mem hj
      simp only [List.contains_eq_mem, decide_eq_true_eq, List.mem_append, upto_mem]
      rcases hpre e' (by simpa using q1) q2 with h | h
      · exact .inr h
      · exact .inl h)
    rw [Nat.zero_add] at hst
    have hal' := hal
    unfold isAllocB at hal'
    simp only [Bool.and_eq_true, Option.isSome_iff_exists, Option.isNone_iff_eq_none] at hal'
    obtain ⟨⟨hg, d, hd⟩, hop⟩ := hal'
    cases hop' : o.op with
    | alloc u =>
      simp only [sOps, hg, Option.map_none, sStep, hop', hd, SOp.oper] at hst
      split at hst
      · simp only [stepK] at hst
        cases hz : zeroVs P u with
        | none => rw [hz] at hst; exact hst.elim
        | some cs =>
          rw [hz] at hst
          refine ⟨⟨u, cs, rfl, hz⟩, List.nodup_cons.2 ⟨hnd, v1⟩, fun x hx => ?_, ?_⟩
          · rcases List.mem_cons.1 hx with rfl | hx
            · exact ⟨hin, hil⟩
            · exact v2 x hx
          · have e1 : ops.size - n - (i :: ds).length = k := by simp; omega
            rw [e1, List.reverse_cons, List.map_append, List.map_cons, List.map_nil, pushS_snoc, madeAt_eq ho]
            simp only [madeBy, hd, hop', hz, Option.getD_some, List.cons_append]
            exact hst
      · simp only [heapK] at hst
    | _ => rw [hop'] at hop; cases hop
  · rintro fuel listed ds a' w' hf hs hl hc hnd hds ⟨v1, v2, v3⟩ hr'
    have e1 : ops.toList.take ops.size = ops.toList := by rw [← Array.length_toList, List.take_length]
    have hdn : (ds ++ upto n).Nodup := List.nodup_append.2 ⟨hnd, upto_nodup n, fun x hx y hy e => by have := (hds x hx).1; rw [upto_mem] at hy; omega⟩
    have hlj : ∀ j, listed.getD j false = (ds ++ upto n).contains j := fun j => by
      rw [hl, Bool.eq_iff_iff]
      simp only [Bool.or_eq_true, decide_eq_true_eq, List.contains_eq_mem, List.mem_append, upto_mem]
      exact Or.comm
    have hcnt := count_done (l := listed.toList) (done := ds ++ upto n) hdn (fun d hd => by
      rw [Array.length_toList, hs]
      rcases List.mem_append.1 hd with hd | hd
      · exact (hds d hd).2
      · rw [upto_mem] at hd; omega) (fun j => by rw [← hlj, Array.getD_eq_getD_getElem?, List.getD_eq_getElem?_getD, Array.getElem?_toList])
    have hsz : listed.toList.length = ops.size := by rw [Array.length_toList, hs]
    rw [List.length_append, upto_len, hsz, hf] at hcnt
    have := any_any (κ := κ) (P := P) (H := H) (ops := ops) (k0 := ops.size) (Q := postK κ Q) (K := Q .normal) (Nat.le_refl _) hM.lt
      (fun i o ho hi => by have := (Array.getElem?_eq_some_iff.1 ho).1; omega) (fun s' a' w' k1 k2 => ⟨.normal, s', rfl, k1, k2⟩) fuel 0 (ds ++ upto n) listed _ a' w' (by rw [List.length_append, upto_len]; omega) (by omega) hdn (fun j hj => by
        rcases List.mem_append.1 hj with hj | hj
        · exact (hds j hj).2
        · rw [upto_mem] at hj; omega) hs hlj hc hr' (by
          rw [e1]
          have e2 : (fun s' => sOps P (stripL H ops.toList (ops.toList.drop ops.size)) s' (Q .normal)) = Q .normal := funext fun s' => stripL_drop (by simp)
          rw [e2, show fuel = ops.size - n - ds.length by omega]; exact v3)
    simpa using this
  · have e0 : stL (fun j => (Array.replicate ops.size false).getD j false) 0 es s = s := by
      have : ∀ (es : List Eff) (i : Nat) (s : St), stL (fun _ => false) i es s = s := by
        intro es
        induction es with
        | nil => intros; rfl
        | cons e es ih => intro i s; simp only [stL, Bool.false_eq_true, if_false]; exact ih _ _
      rw [show (fun j => (Array.replicate ops.size false).getD j false) = fun _ => false from funext fun j => by simp [Array.getD]]
      exact this es 0 s
    simp only [List.reverse_nil, List.map_nil, pushS]
    rw [e0]
    obtain ⟨Φ, B, au, h⟩ := hr
    exact ⟨Φ, B, au, h.grow (Grows.drew w _)⟩

theorem e_sound (hmo : P.follows .mixedOrders = true) {H M : List (Nat × Nat)} : ∀ (c : Code) (Q : Ex → St → Prop) (s : St), drawsOK M c = true → eK P (stripC H M c) Q s → SemC P c Q s := by
  intro c
  induction c with
  | skip => intro Q s _ h; exact wp_sound _ _ _ h
  | label l => intro Q s _ h; exact wp_sound _ _ _ h
  | ret => intro Q s _ h; exact wp_sound _ _ _ h
  | exit id => intro Q s _ h; exact wp_sound _ _ _ h
  | goto l => intro Q s _ h; exact wp_sound _ _ _ h
  | seq a b iha ihb =>
    intro Q s hd h
    simp only [drawsOK, Bool.and_eq_true] at hd
    refine seq_sem (SemC.mono (iha _ s hd.1 h) fun e s' he => ?_)
    cases e with
    | normal => exact ihb Q s' hd.2 he
    | _ => exact he
  | region id ops free =>
    intro Q s hd h
    cases free with
    | false => intro κ a w hr; exact sregion_sound hr h
    | true =>
      simp only [drawsOK, Bool.not_true, Bool.false_or] at hd
      rcases Nat.lt_or_ge (freeOf M id ops.size) 1000000 with hlt0 | hge
      case inr =>
        have e1 : Nat.ble 1000000 (freeOf M id ops.size) = true := Nat.ble_eq_true_of_le hge
        simp only [e1, cond_true] at hd
        simp only [stripC, if_pos hge] at h
        generalize hm0 : (freeOf M id ops.size - 1000000) % 1000 = m0 at hd h
        generalize hx0 : (freeOf M id ops.size - 1000000) / 1000 = x0 at hd h
        exact mixS_sem (H := H) hmo hd h
      have e0 : Nat.ble 1000000 (freeOf M id ops.size) = false := by
        cases hb : Nat.ble 1000000 (freeOf M id ops.size) with
        | false => rfl
        | true => have := Nat.le_of_ble_eq_true hb; omega
      simp only [e0, cond_false] at hd
      simp only [stripC, if_neg (Nat.not_le.2 hlt0)] at h
      rcases Nat.lt_or_ge (freeOf M id ops.size) 500000 with hlt5 | hge
      case inr =>
        have e1 : Nat.ble 500000 (freeOf M id ops.size) = true := Nat.ble_eq_true_of_le hge
        simp only [e1, cond_true] at hd
        simp only [if_pos hge] at h
        generalize hm0 : freeOf M id ops.size - 500002 = m0 at hd h
        exact alcS_sem (H := H) hmo hd h
      have e5 : Nat.ble 500000 (freeOf M id ops.size) = false := by
        cases hb : Nat.ble 500000 (freeOf M id ops.size) with
        | false => rfl
        | true => have := Nat.le_of_ble_eq_true hb; omega
      simp only [e5, cond_false] at hd
      simp only [if_neg (Nat.not_le.2 hlt5)] at h
      rcases Nat.lt_or_ge (freeOf M id ops.size) 250000 with hlt6 | hge
      case inr =>
        have e1 : Nat.ble 250000 (freeOf M id ops.size) = true := Nat.ble_eq_true_of_le hge
        simp only [e1, cond_true] at hd
        simp only [if_pos hge] at h
        generalize hm0 : freeOf M id ops.size - 250000 = m0 at hd h
        exact alxS_sem (H := H) hmo hd h
      have e6 : Nat.ble 250000 (freeOf M id ops.size) = false := by
        cases hb : Nat.ble 250000 (freeOf M id ops.size) with
        | false => rfl
        | true => have := Nat.le_of_ble_eq_true hb; omega
      simp only [e6, cond_false] at hd
      simp only [if_neg (Nat.not_le.2 hlt6)] at h
      rcases Nat.lt_or_ge (freeOf M id ops.size) 1000 with hlt | hge
      case inr =>
        have e1 : Nat.ble 1000 (freeOf M id ops.size) = true := Nat.ble_eq_true_of_le hge
        simp only [e1, cond_true, Bool.and_eq_true, decide_eq_true_eq] at hd
        simp only [if_pos hge, eK] at h
        generalize hm0 : freeOf M id ops.size - 1000 = m0 at hd h
        exact any_sem (H := H) (k0 := m0) hmo hd.1 hd.2 h
      have e1 : Nat.ble 1000 (freeOf M id ops.size) = false := by
        cases hb : Nat.ble 1000 (freeOf M id ops.size) with
        | false => rfl
        | true => have := Nat.le_of_ble_eq_true hb; omega
      simp only [e1, cond_false, Bool.and_eq_true, decide_eq_true_eq] at hd
      refine draw_sem _ hmo hd.1 hd.2 ?_
      simp only [if_neg (Nat.not_le.2 hlt)] at h
      have h' : sFree P s.hp.length (stripL [] ops.toList (ops.toList.take (freeOf M id ops.size))) s fun s' => sOps P (stripL [] ops.toList (ops.toList.drop (freeOf M id ops.size))) s' (Q .normal) := h
      have e : (fun s' => sOps P (stripL [] ops.toList (ops.toList.drop (freeOf M id ops.size))) s' (Q .normal)) = fun s' => opsK P ops.toList (ops.toList.drop (freeOf M id ops.size)) s' (Q .normal) := funext fun s' => sOps_eq
      rw [e, sFree_eq] at h'
      exact h'
  | cond c x y ihx ihy =>
    intro Q s hd h κ a w hr
    simp only [drawsOK, Bool.and_eq_true] at hd
    simp only [stripC, eK] at h
    split at h
    · rename_i t e
      have hb : a.eval c = .bool t := by
        obtain ⟨Φ, B, au, hi⟩ := hr
        exact repD_bool (ev_d hi e)
      exact wpIn_cond_split hb (fun ht => ihx Q s hd.1 (h.1 ht) κ a w hr) (fun ht => ihy Q s hd.2 (h.2 (by simpa using ht)) κ a w hr)
    · exact h.elim
  | block id c ih => intro Q s hd h; exact block_sem (ih _ s hd h)
  | loop c ih => intro Q s hd h; exact h H M c rfl hd
  | rangeFunc f ps asg c _ _ =>
    intro Q s hd h
    simp only [drawsOK, Bool.and_eq_true] at hd
    have := h H M asg c rfl rfl hd.1 hd.2
    simpa using this
  | scope c ih => intro Q s _ h; exact h
  | refuse why => intro Q s _ h; exact h

/-- A loop, stripped: a family of states, each with a number that goes down. -/
theorem loopS {s : St} {sc : SC} {Q : Ex → St → Prop} {α : Type} (hmo : P.follows .mixedOrders = true) (inv : α → Prop) (F : α → St) (μ : α → Nat) (i0 : α) (h0 : inv i0) (hle : LeS s (F i0))
    (round : ∀ i, inv i → eK P sc (thenK (fun s' => ∃ j, inv j ∧ μ j < μ i ∧ LeS s' (F j)) Q) (F i)) : SemL P sc Q s := by
  rintro H M c rfl hd
  refine loop_sem (fun k s => ∃ i, inv i ∧ μ i = k ∧ s = F i) (μ i0) (F i0) ⟨i0, h0, rfl, rfl⟩ hle.le ?_
  rintro k s ⟨i, hi, rfl, rfl⟩
  refine (e_sound hmo _ _ _ hd (round i hi)).mono fun e s' h => ?_
  cases e with
  | normal =>
    obtain ⟨j, h1, h2, h3⟩ := h
    exact ⟨μ j, F j, h2, ⟨j, h1, rfl, rfl⟩, h3.le⟩
  | _ => exact h

/-- a pure call: the slots, the code, the results -/
theorem pcallS {f : FuncId} {fn : Func} (H M : List (Nat × Nat)) (hmo : P.follows .mixedOrders = true) (c : Code) (rs : List ResultVar) {ds : List D} {rv : V} (hf : P.funcs[f]? = some fn) (hb : fn.body = some c) (hr : fn.results.toList = rs) (hn : (resSlots rs).Nodup)
    (n : Nat) (hnn : fn.ntmps - ds.length = n) (hd : drawsOK M c = true) (h : eK P (stripC H M c) (retF P rs rv) ⟨ds.map V.d ++ List.replicate n .un, [], 0⟩) : PCall P f ds rv := by
  refine pcall_frz (callK_enterS hf hb (by rw [hr]; exact hn) ?_)
  rw [retK_retH, hr, List.length_map, hnn, ← retF_retH]; exact e_sound hmo _ _ _ hd h

/-- a call: the slots, the code, the results and the memory -/
theorem callS {f : FuncId} {fn : Func} (H M : List (Nat × Nat)) (hmo : P.follows .mixedOrders = true) (c : Code) (rs : List ResultVar) {args : List V} {hp : List IObj} {K : V → List IObj → Prop} (hf : P.funcs[f]? = some fn) (hb : fn.body = some c) (hr : fn.results.toList = rs) (hn : (resSlots rs).Nodup)
    (n : Nat) (hnn : fn.ntmps - args.length = n) (hd : drawsOK M c = true) (h : eK P (stripC H M c) (retH P rs K) ⟨args ++ List.replicate n .un, hp, hp.length⟩) : CallK P f args hp K := by
  refine callK_enterS hf hb (by rw [hr]; exact hn) ?_
  rw [retK_retH, hr, hnn]; exact e_sound hmo _ _ _ hd h

/-! ### Ranging over a function -/
theorem SemC.post {c : Code} {Q Q' : Ex → St → Prop} (h : SemC P c Q s) (hq : ∀ e s', Q e s' → ∃ s'', s'.le s'' ∧ Q' e s'') : SemC P c Q' s := fun κ a w hr => by
  refine wpIn_mono (h κ a w hr) fun e a' w' => ?_
  rintro ⟨e', s', rfl, h1, h2⟩
  obtain ⟨s'', h3, h4⟩ := hq e' s' h1
  exact ⟨e', s'', rfl, h4, h3 κ a' w' h2⟩

mutual
theorem V.lt_mono {m n : Nat} (h : m ≤ n) : ∀ {v : V}, V.lt m v = true → V.lt n v = true
  | .ptr _ _, e | .aptr _ _ _ _, e | .ref _ _ _ _ _, e | .yld _, e | .map _, e => by simp only [V.lt, decide_eq_true_eq] at e ⊢; omega
  | .fn _ caps, e => by simp only [V.lt] at e ⊢; exact V.ltL_mono h e
  | .tup caps, e => by simp only [V.lt] at e ⊢; exact V.ltL_mono h e
  | .st caps, e => by simp only [V.lt] at e ⊢; exact V.ltL_mono h e
  | .un, _ | .d _, _ | .nil _, _ | .own _ _, _ | .lptr _ _ _ _ _, _ => rfl
theorem V.ltL_mono {m n : Nat} (h : m ≤ n) : ∀ {vs : List V}, V.ltL m vs = true → V.ltL n vs = true
  | [], _ => rfl
  | v :: vs, e => by
    simp only [V.ltL, Bool.and_eq_true] at e ⊢
    exact ⟨V.lt_mono h e.1, V.ltL_mono h e.2⟩
end
theorem IObj.lt_mono {m n : Nat} (h : m ≤ n) {o : IObj} (e : o.lt m = true) : o.lt n = true := by
  cases o <;> simp only [IObj.lt] at e ⊢
  · exact V.ltL_mono h e
  · exact V.ltL_mono h e
  · simp only [decide_eq_true_eq] at e ⊢; omega
  · exact V.ltL_mono h e
theorem ltObjs_mono {m n : Nat} (h : m ≤ n) : ∀ {os : List IObj}, ltObjs m os = true → ltObjs n os = true
  | [], _ => rfl
  | o :: os, e => by
    simp only [ltObjs, Bool.and_eq_true] at e ⊢
    exact ⟨IObj.lt_mono h e.1, ltObjs_mono h e.2⟩
theorem ltObjs_append {m : Nat} : ∀ {a b : List IObj}, ltObjs m (a ++ b) = (ltObjs m a && ltObjs m b)
  | [], b => by simp [ltObjs]
  | o :: a, b => by simp only [List.cons_append, ltObjs, ltObjs_append, Bool.and_assoc]
theorem V.lt_cp {m : Nat} {v : V} (h : V.lt m v = true) : V.lt m v.cp = true := by
  cases v with
  | tup vs =>
    simp only [V.cp, V.lt] at h ⊢
    have aux : ∀ vs : List V, V.ltL m vs = true → V.ltL m (vs.map fun v => match v with | .own z xs => .d (.sl false z xs) | v => v) = true := by
      intro vs
      induction vs with
      | nil => intro _; rfl
      | cons v vs ih =>
        intro h
        simp only [V.ltL, List.map_cons, Bool.and_eq_true] at h ⊢
        refine ⟨?_, ih h.2⟩
        cases v <;> first | rfl | exact h.1
    exact aux vs h
  | own z xs => rfl
  | _ => exact h
theorem V.ltL_cp {m : Nat} : ∀ {vs : List V}, V.ltL m vs = true → V.ltL m (vs.map V.cp) = true
  | [], _ => rfl
  | v :: vs, h => by
    simp only [V.ltL, List.map_cons, Bool.and_eq_true] at h ⊢
    exact ⟨V.lt_cp h.1, V.ltL_cp h.2⟩

mutual
theorem V.ren_id {n : Nat} : ∀ {v : V}, V.lt n v = true → V.ren (List.range n) v = v
  | .ptr i _, e | .aptr i _ _ _, e | .ref i _ _ _ _, e | .yld i, e | .map i, e => by
    simp only [V.lt, decide_eq_true_eq] at e
    simp only [V.ren, List.getD_eq_getElem?_getD, List.getElem?_range e, Option.getD_some]
  | .fn _ caps, e => by simp only [V.lt] at e; simp only [V.ren, V.renL_id e]
  | .tup caps, e => by simp only [V.lt] at e; simp only [V.ren, V.renL_id e]
  | .st caps, e => by simp only [V.lt] at e; simp only [V.ren, V.renL_id e]
  | .un, _ | .d _, _ | .nil _, _ | .own _ _, _ | .lptr _ _ _ _ _, _ => rfl
theorem V.renL_id {n : Nat} : ∀ {vs : List V}, V.ltL n vs = true → V.renL (List.range n) vs = vs
  | [], _ => rfl
  | v :: vs, e => by
    simp only [V.ltL, Bool.and_eq_true] at e
    simp only [V.renL, V.ren_id e.1, V.renL_id e.2]
end
theorem IObj.ren_id {n : Nat} {o : IObj} (e : o.lt n = true) : o.ren (List.range n) = o := by
  cases o with
  | free => rfl
  | var cs => simp only [IObj.lt] at e; simp only [IObj.ren, V.renL_id e]
  | arr z xs => rfl
  | map c es =>
    simp only [IObj.lt] at e
    simp only [IObj.ren, IObj.map.injEq, true_and]
    conv => rhs; rw [← List.map_id es]
    refine List.map_congr_left fun x hx => ?_
    obtain ⟨j, hj, rfl⟩ := List.getElem_of_mem hx
    have := V.ren_id (ltL_get e j es[j].2.2 (by rw [List.getElem?_map, List.getElem?_eq_getElem hj]; rfl))
    rw [this]; rfl
  | iter m s n' l =>
    simp only [IObj.lt, decide_eq_true_eq] at e
    simp only [IObj.ren, List.getD_eq_getElem?_getD, List.getElem?_range e, Option.getD_some]
  | loop r p tm ps a b => simp only [IObj.lt] at e; simp only [IObj.ren, V.renL_id e]

theorem setObjs_range : ∀ (os h priv : List IObj) (k : Nat) (pre : List IObj), os.length = h.length → pre.length = k → setObjs (pre ++ h ++ priv) (List.range' k h.length) os = pre ++ os ++ priv
  | [], h, priv, k, pre, hl, hk => by
    have : h = [] := List.length_eq_zero_iff.1 (by simpa using hl.symm)
    subst this; simp [setObjs]
  | o :: os, [], priv, k, pre, hl, hk => by simp at hl
  | o :: os, x :: h, priv, k, pre, hl, hk => by
    rw [List.length_cons, List.range'_succ, setObjs]
    have e : (pre ++ x :: h ++ priv).set k o = (pre ++ [o]) ++ h ++ priv := by
      subst hk; simp
    rw [e, setObjs_range os h priv (k + 1) (pre ++ [o]) (by simpa using hl) (by simp [hk])]
    simp

/-- **A round beside objects that it does not see.** -/
theorem roundK_append {id : Nat} {args : List V} {hp priv : List IObj} {K : V → List IObj → Prop} (h : RoundK P id args hp K) (hid : id < hp.length) (hlt : V.ltL hp.length args = true) (hlo : ltObjs hp.length hp = true) (hbare : args.all V.bare = true) (hk : ∀ r hp', K r hp' → hp'.length = hp.length ∧ ltObjs hp.length hp' = true ∧ ∃ b, r = .d (.bool b)) :
    RoundK P id args (hp ++ priv) fun r hp' => ∃ hp1, hp' = hp1 ++ priv ∧ K r hp1 := by
  have hs : Sub (List.range hp.length) hp (hp ++ priv) := by
    refine ⟨by simp, List.nodup_range, fun i j o hi ho => ?_, hlo⟩
    have hlt' : i < hp.length := (List.getElem?_eq_some_iff.1 ho).1
    rw [List.getElem?_range hlt'] at hi
    injection hi with hi; subst hi
    rw [IObj.ren_id (ltObjs_get hlo i o ho), List.getElem?_append_left hlt']; exact ho
  have := roundK_frame (K' := fun r hp' => ∃ hp1, hp' = hp1 ++ priv ∧ K r hp1) h (List.range hp.length) hs hid hlt hbare (argsB := args) (by rw [V.renL_id hlt]; exact LeTm.refl _) fun r hp' hK => by
    obtain ⟨q1, q2, b, rfl⟩ := hk r hp' hK
    refine ⟨hp', ?_, hK⟩
    have e1 : renNew (List.range hp.length) (hp ++ priv).length (hp'.length - (List.range hp.length).length) = List.range hp.length := by
      unfold renNew; rw [q1]; simp
    unfold mergeHp
    rw [e1]
    have e2 : hp'.map (IObj.ren (List.range hp.length)) = hp' := by
      conv => rhs; rw [← List.map_id hp']
      refine List.map_congr_left fun o ho => ?_
      obtain ⟨j, hj, rfl⟩ := List.getElem_of_mem ho
      exact IObj.ren_id (ltObjs_get q2 j _ (List.getElem?_eq_getElem hj))
    have e3 : hp'.drop (List.range hp.length).length = [] := by rw [List.drop_eq_nil_iff]; simp [q1]
    rw [e2, e3, List.map_nil, List.append_nil]
    have := setObjs_range hp' hp priv 0 [] q1 rfl
    simpa [List.range_eq_range'] using this
  rwa [show (List.range hp.length).getD id 0 = id by rw [List.getD_eq_getElem?_getD, List.getElem?_range hid]; rfl] at this

/-- A function's yields, in their order. The memory's first objects, as many as there are at the call, are handed from round to round; what the function makes besides is its own. -/
def Yields (P : Program) (f : FuncId) (caps : List V) (Pre : List IObj → Prop) (ys : List (List V)) : Prop :=
  ∀ (id : Nat) (hp : List IObj) (J : Nat → List IObj → Prop) (E : List IObj → Prop), id < hp.length → J 0 hp → (∀ i hp', J i hp' → hp'.length = hp.length ∧ ltObjs hp.length hp' = true ∧ Pre hp') →
    (∀ i hp', J i hp' → ∀ (h : i < ys.length), RoundK P id ys[i] hp' fun r hp'' => ∃ b, r = .d (.bool b) ∧ hp''.length = hp.length ∧ ltObjs hp.length hp'' = true ∧ (b = true → J (i + 1) hp'') ∧ (b = false → E hp'')) →
    (∀ hp', J ys.length hp' → E hp') → CallK P f (.yld id :: caps) hp fun _ hp' => hp.length ≤ hp'.length ∧ E (hp'.take hp.length)

/-- The same of a function that changes objects that it was made with: `step i` is what it makes of the memory ahead of the yield i (or, behind all, at its end). -/
def YieldsS (P : Program) (f : FuncId) (caps : List V) (Pre : Nat → List IObj → Prop) (step : Nat → List IObj → List IObj) (ys : List (List V)) : Prop :=
  ∀ (id : Nat) (hp : List IObj) (J : Nat → List IObj → Prop) (E : List IObj → Prop), id < hp.length → J 0 hp → (∀ i hp', J i hp' → hp'.length = hp.length ∧ ltObjs hp.length hp' = true ∧ Pre i hp') →
    (∀ i hp', J i hp' → ∀ (h : i < ys.length), RoundK P id ys[i] (step i hp') fun r hp'' => ∃ b, r = .d (.bool b) ∧ hp''.length = hp.length ∧ ltObjs hp.length hp'' = true ∧ (b = true → J (i + 1) hp'') ∧ (b = false → E hp'')) →
    (∀ hp', J ys.length hp' → E (step ys.length hp')) → CallK P f (.yld id :: caps) hp fun _ hp' => hp.length ≤ hp'.length ∧ E (hp'.take hp.length)

theorem Yields.toS {P : Program} {f : FuncId} {caps : List V} {Pre : List IObj → Prop} {ys : List (List V)} (h : Yields P f caps Pre ys) : YieldsS P f caps (fun _ => Pre) (fun _ hp => hp) ys :=
  fun id hp J E h1 h2 h3 h5 h6 => h id hp J E h1 h2 h3 h5 h6

theorem RoundK.mono {id : Nat} {args : List V} {hp : List IObj} {K K' : V → List IObj → Prop} (h : RoundK P id args hp K) (hk : ∀ r hp', K r hp' → K' r hp') : RoundK P id args hp K' := fun Φ B au w cargs b hi hb => by
  obtain ⟨fn, tmps, asg, body, h1, h2⟩ := h Φ B au w cargs b hi hb
  exact ⟨fn, tmps, asg, body, h1, RoundIn.mono h2 fun e w' ⟨v, r, hp', q1, q2, q3⟩ => ⟨v, r, hp', q1, hk _ _ q2, q3⟩⟩

/-- a yield out of an iterator with objects of its own -/
theorem yieldA {y n : Nat} {args : List V} {hp1 priv : List IObj} {J E : List IObj → Prop} {K' : V → List IObj → Prop} (hr : RoundK P y args hp1 fun r hp'' => ∃ b, r = .d (.bool b) ∧ hp''.length = n ∧ ltObjs n hp'' = true ∧ (b = true → J hp'') ∧ (b = false → E hp'')) (hn : hp1.length = n) (hlo : ltObjs n hp1 = true) (hy : y < n) (hlt : V.ltL n args = true) (hbare : args.all V.bare = true)
    (hk : ∀ b hp2, hp2.length = n → ltObjs n hp2 = true → (b = true → J hp2) → (b = false → E hp2) → K' (.d (.bool b)) (hp2 ++ priv)) : RoundK P y args (hp1 ++ priv) K' := by
  subst hn
  refine (roundK_append hr hy hlt hlo hbare fun r hp' ⟨b, h1, h2, h3, _⟩ => ⟨h2, h3, b, h1⟩).mono ?_
  rintro r hp' ⟨hp2, rfl, b, rfl, h2, h3, h4, h5⟩
  exact hk b hp2 h2 h3 h4 h5

/-- what is asked at a round's end -/
def roundPost (s0 : St) (L1 : IObj) (n : Nat) (inv' : List IObj → Prop) (Q : Ex → St → Prop) (e : Ex) (s2 : St) : Prop :=
  s2.nb ≤ n + 1 ∧ s2.hp[n]? = some L1 ∧ ltObjs n (s2.hp.take n) = true ∧ (match e with
    | .normal => inv' (s2.hp.take n)
    | e => Q e ⟨s0.tm, s2.hp.take n, s0.nb⟩)
/-- between the loop's variables and its body -/
def roundMid (P : Program) (sb : SC) (L0 L1 : IObj) (n : Nat) (R : Ex → St → Prop) (e : Ex) (s1 : St) : Prop := match e with
  | .normal => s1.hp[n]? = some L0 ∧ eK P sb R ⟨s1.tm, s1.hp.set n L1, s1.nb⟩
  | _ => False

/-- **Ranging over a function whose yields are known.** -/
theorem rangeYS {g : Operand} {ps : List Nat} {sa sb : SC} {Q : Ex → St → Prop} {f : FuncId} {caps : List V} {ys : List (List V)} (hmo : P.follows .mixedOrders = true) {Pre : Nat → List IObj → Prop} {step : Nat → List IObj → List IObj} (hY : YieldsS P f caps Pre step ys) (hg : ev P 0 s g = .fn (.func f) caps) (hb : hasBody P f = true) (hbare : caps.all V.bare = true)
    (hlt : V.ltL s.hp.length s.tm = true) (hnb : s.nb ≤ s.hp.length) (hps : ∀ y ∈ ys, y.length = ps.length ∧ y.all V.bare = true) (inv : Nat → List IObj → Prop) (h0 : inv 0 s.hp) (hinv : ∀ i hp, inv i hp → hp.length = s.hp.length ∧ ltObjs s.hp.length hp = true ∧ (∀ L, Pre i (hp ++ [L]) ∧ step i (hp ++ [L]) = step i hp ++ [L]) ∧ (step i hp).length = s.hp.length ∧ ltObjs s.hp.length (step i hp) = true)
    (round : ∀ i hp, inv i hp → ∀ (h : i < ys.length) (L0 L1 : IObj), eK P sa (roundMid P sb L0 L1 s.hp.length (roundPost s L1 s.hp.length (inv (i + 1)) Q)) ⟨setAll (s.tm.map V.cp) (ps.zip ys[i]), step i hp ++ [L0], s.hp.length + 1⟩)
    (hend : ∀ hp, inv ys.length hp → Q .normal ⟨s.tm, step ys.length hp, s.nb⟩) : SemR P g ps sa sb Q s := by
  rintro H M asg body rfl rfl hda hdb
  let n := s.hp.length
  let L0 : IObj := .loop true none (s.tm.map V.cp) ps asg body
  let L1 : IObj := .loop false none (s.tm.map V.cp) ps asg body
  let Lx : Option Code → IObj := fun p => .loop (p.isNone) p (s.tm.map V.cp) ps asg body
  have hLlt : ∀ m p, n ≤ m → (Lx p).lt m = true := fun m p h => by
    show V.ltL m (s.tm.map V.cp) = true
    exact V.ltL_mono h (V.ltL_cp hlt)
  have hL1lt : L1.lt (n + 1) = true := by
    show V.ltL (n + 1) (s.tm.map V.cp) = true
    exact V.ltL_mono (Nat.le_succ _) (V.ltL_cp hlt)
  let E : List IObj → Prop := fun hp' => ∃ hp2, hp2.length = n ∧ ltObjs n hp2 = true ∧ ((hp' = hp2 ++ [Lx none] ∧ Q .normal ⟨s.tm, hp2, s.nb⟩) ∨ (hp' = hp2 ++ [Lx (some .ret)] ∧ Q .ret ⟨s.tm, hp2, s.nb⟩) ∨ (∃ i, hp' = hp2 ++ [Lx (some (.exit i))] ∧ Q (.exit i) ⟨s.tm, hp2, s.nb⟩) ∨ (∃ i, hp' = hp2 ++ [Lx (some (.goto i))] ∧ Q (.goto i) ⟨s.tm, hp2, s.nb⟩))
  let J : Nat → List IObj → Prop := fun i hp' => ∃ hp2, hp' = hp2 ++ [L0] ∧ inv i hp2
  have hL0 : L0 = Lx none := rfl
  -- the range's post, the objects behind cut
  have hpost : SemC P (.rangeFunc g ps.toArray asg body) (fun e s' => ∃ s'', s'.le s'' ∧ Q e s'') s := by
    refine range_sem (f := f) (caps := caps) hg hb hbare ?_
    have hc := hY n (s.hp ++ [L0]) J E (by simp [n]) ⟨s.hp, rfl, h0⟩ (fun i hp' hj => ?_) (fun i hp' hj hi => ?_) (fun hp' hj => ?_)
    · refine CallK.mono hc fun r hp' hE => ?_
      obtain ⟨hlen, hp2, hl2, hlo2, hE⟩ := hE
      rw [List.length_append] at hlen hE
      change n + 1 ≤ _ at hlen
      change (hp'.take (n + 1) = _ ∧ _) ∨ (hp'.take (n + 1) = _ ∧ _) ∨ (∃ i, hp'.take (n + 1) = _ ∧ _) ∨ (∃ i, hp'.take (n + 1) = _ ∧ _) at hE
      have hcut : ∀ (p : Option Code), hp'.take (n + 1) = hp2 ++ [Lx p] → hp'[n]? = some (Lx p) ∧ ∀ (e : Ex), Q e ⟨s.tm, hp2, s.nb⟩ → ∃ s'', ({ s with hp := hp'.set n .free } : St).le s'' ∧ Q e s'' := by
        intro p ep
        have e1 : hp'[n]? = some (Lx p) := by
          have : (hp'.take (n + 1))[n]? = (hp2 ++ [Lx p])[n]? := by rw [ep]
          rw [List.getElem?_take, if_pos (Nat.lt_succ_self n), List.getElem?_append_right (by omega)] at this
          simpa [hl2] using this
        refine ⟨e1, fun e hq => ⟨⟨s.tm, hp2, s.nb⟩, ?_, hq⟩⟩
        have htake : (hp'.set n .free).take n = hp2 := by
          rw [List.take_set_of_le (Nat.le_refl n)]
          have this : (hp'.take (n + 1)).take n = (hp2 ++ [Lx p]).take n := by rw [ep]
          rw [List.take_take, Nat.min_eq_left (Nat.le_succ n), List.take_append_of_le_length (by omega)] at this
          rw [this, List.take_of_length_le (by omega)]
        have := St.le_cut (s := { s with hp := hp'.set n .free }) (tm := s.tm) n (LeTm.refl _) hlt (by simp only; rw [htake]; exact hlo2) hnb (by rw [List.length_set]; omega)
        simp only [htake] at this
        exact this
      unfold rangeEnd
      rcases hE with ⟨ep, hq⟩ | ⟨ep, hq⟩ | ⟨i, ep, hq⟩ | ⟨i, ep, hq⟩
      · obtain ⟨e1, e2⟩ := hcut _ ep
        rw [show hp'[s.hp.length]? = some (Lx none) from e1]; exact e2 _ hq
      · obtain ⟨e1, e2⟩ := hcut _ ep
        rw [show hp'[s.hp.length]? = some (Lx (some .ret)) from e1]; exact e2 _ hq
      · obtain ⟨e1, e2⟩ := hcut _ ep
        rw [show hp'[s.hp.length]? = some (Lx (some (.exit i))) from e1]; exact e2 _ hq
      · obtain ⟨e1, e2⟩ := hcut _ ep
        rw [show hp'[s.hp.length]? = some (Lx (some (.goto i))) from e1]; exact e2 _ hq
    · obtain ⟨hp2, rfl, hi⟩ := hj
      obtain ⟨q1, q2, q3⟩ := hinv i hp2 hi
      refine ⟨by simp [q1], ?_, (q3.1 _).1⟩
      rw [ltObjs_append, Bool.and_eq_true]
      refine ⟨ltObjs_mono (by simp) q2, ?_⟩
      simp only [ltObjs, Bool.and_true]
      exact hLlt _ none (by simp [n])
    · obtain ⟨hp2, rfl, hi2⟩ := hj
      obtain ⟨_, _, q4, q1, q2⟩ := hinv i hp2 hi2
      obtain ⟨p1, p2⟩ := hps _ (List.getElem_mem hi)
      rw [(q4 L0).2]
      refine roundK_enterC (tm := s.tm.map V.cp) (ps := ps) (asg := asg) (body := body) ?_ p1.symm p2 ?_
      · rw [List.getElem?_append_right (by simp [n, q1])]; simp [n, q1]; rfl
      have hr := round i hp2 hi2 hi L0 L1
      have hlen1 : (step i hp2 ++ [L0]).length = n + 1 := by simp [n, q1]
      rw [hlen1]
      refine SemC.mono (e_sound hmo (H := H) asg _ _ hda hr) fun e s1 h1 => ?_
      cases e with
      | normal =>
        obtain ⟨h1, h2⟩ := h1
        simp only [beginC]
        rw [show s1.hp[n]? = some L0 from h1]
        refine SemC.post (e_sound hmo (H := H) body _ _ hdb h2) fun e s2 h3 => ?_
        obtain ⟨g1, g2, g3, g4⟩ := h3
        have hnlt : n < s2.hp.length := (List.getElem?_eq_some_iff.1 g2).1
        have htk : s2.hp.take (n + 1) = s2.hp.take n ++ [L1] := by
          rw [List.take_add_one, g2]; rfl
        have hlo : ltObjs (n + 1) (s2.hp.take (n + 1)) = true := by
          rw [htk, ltObjs_append, Bool.and_eq_true]
          refine ⟨ltObjs_mono (Nat.le_succ _) g3, ?_⟩
          simp only [ltObjs, Bool.and_true]; exact hL1lt
        refine ⟨⟨List.replicate s2.tm.length .un, s2.hp.take (n + 1), s2.nb⟩, St.le_cut (n + 1) ?_ ?_ hlo g1 hnlt, ?_⟩
        · have : ∀ l : List V, LeTm l (List.replicate l.length .un) := by
            intro l
            induction l with
            | nil => exact .nil
            | cons v l ih => exact .un ih
          exact this _
        · have : ∀ k, V.ltL (n + 1) (List.replicate k .un) = true := by
            intro k
            induction k with
            | zero => rfl
            | succ k ih => rw [List.replicate_succ]; simp only [V.ltL, V.lt, Bool.true_and]; exact ih
          exact this _
        · unfold roundEndK
          have hat : (s2.hp.take (n + 1))[n]? = some L1 := by rw [List.getElem?_take, if_pos (by omega)]; exact g2
          simp only
          rw [hat]
          have hset : ∀ o, (s2.hp.take (n + 1)).set n o = s2.hp.take n ++ [o] := fun o => by
            rw [htk]; simp [List.length_take, Nat.min_eq_left (Nat.le_of_lt hnlt)]
          have htl : (s2.hp.take n).length = n := by simp; omega
          have hlx : ∀ p, ltObjs (s.hp ++ [L0]).length (s2.hp.take n ++ [Lx p]) = true := fun p => by
            rw [ltObjs_append, Bool.and_eq_true]
            refine ⟨ltObjs_mono (by simp [n]) g3, ?_⟩
            simp only [ltObjs, Bool.and_true]; exact hLlt _ p (by simp [n])
          cases e with
          | normal =>
            simp only [L1]
            refine ⟨true, rfl, ?_, ?_, fun _ => ?_, fun h => by cases h⟩
            · rw [hset]; simp [htl, n]
            · rw [hset]; exact hlx none
            · rw [hset]; exact ⟨_, rfl, g4⟩
          | ret =>
            simp only [L1]
            refine ⟨false, rfl, ?_, ?_, fun h => (by cases h), fun _ => ?_⟩
            · rw [hset]; simp [htl, n]
            · rw [hset]; exact hlx (some .ret)
            · rw [hset]; exact ⟨_, htl, g3, .inr (.inl ⟨rfl, g4⟩)⟩
          | exit j =>
            simp only [L1]
            refine ⟨false, rfl, ?_, ?_, fun h => (by cases h), fun _ => ?_⟩
            · rw [hset]; simp [htl, n]
            · rw [hset]; exact hlx (some (.exit j))
            · rw [hset]; exact ⟨_, htl, g3, .inr (.inr (.inl ⟨j, rfl, g4⟩))⟩
          | goto j =>
            simp only [L1]
            refine ⟨false, rfl, ?_, ?_, fun h => (by cases h), fun _ => ?_⟩
            · rw [hset]; simp [htl, n]
            · rw [hset]; exact hlx (some (.goto j))
            · rw [hset]; exact ⟨_, htl, g3, .inr (.inr (.inr ⟨j, rfl, g4⟩))⟩
      | _ => exact h1.elim
    · obtain ⟨hp2, rfl, hi2⟩ := hj
      obtain ⟨_, _, q4, q1, q2⟩ := hinv _ hp2 hi2
      rw [(q4 L0).2]
      exact ⟨step ys.length hp2, q1, q2, .inl ⟨rfl, hend hp2 hi2⟩⟩
  exact SemC.post hpost fun e s' h => h

/-- the same, where the function changes nothing of its own -/
theorem rangeY {g : Operand} {ps : List Nat} {sa sb : SC} {Q : Ex → St → Prop} {f : FuncId} {caps : List V} {ys : List (List V)} (hmo : P.follows .mixedOrders = true) {Pre : List IObj → Prop} (hY : Yields P f caps Pre ys) (hg : ev P 0 s g = .fn (.func f) caps) (hb : hasBody P f = true) (hbare : caps.all V.bare = true)
    (hlt : V.ltL s.hp.length s.tm = true) (hnb : s.nb ≤ s.hp.length) (hps : ∀ y ∈ ys, y.length = ps.length ∧ y.all V.bare = true) (inv : Nat → List IObj → Prop) (h0 : inv 0 s.hp) (hinv : ∀ i hp, inv i hp → hp.length = s.hp.length ∧ ltObjs s.hp.length hp = true ∧ ∀ L, Pre (hp ++ [L]))
    (round : ∀ i hp, inv i hp → ∀ (h : i < ys.length) (L0 L1 : IObj), eK P sa (roundMid P sb L0 L1 s.hp.length (roundPost s L1 s.hp.length (inv (i + 1)) Q)) ⟨setAll (s.tm.map V.cp) (ps.zip ys[i]), hp ++ [L0], s.hp.length + 1⟩)
    (hend : ∀ hp, inv ys.length hp → Q .normal ⟨s.tm, hp, s.nb⟩) : SemR P g ps sa sb Q s :=
  rangeYS hmo hY.toS hg hb hbare hlt hnb hps inv h0 (fun i hp h => by obtain ⟨a, b, c⟩ := hinv i hp h; exact ⟨a, b, fun L => ⟨c L, rfl⟩, a, b⟩) round hend

/-- the same, where the memory stays -/
theorem rangeYc {g : Operand} {ps : List Nat} {sa sb : SC} {Q : Ex → St → Prop} {f : FuncId} {caps : List V} {ys : List (List V)} (hmo : P.follows .mixedOrders = true) {Pre : List IObj → Prop} (hY : Yields P f caps Pre ys) (hg : ev P 0 s g = .fn (.func f) caps) (hb : hasBody P f = true) (hbare : caps.all V.bare = true)
    (hlt : V.ltL s.hp.length s.tm = true) (hnb : s.nb ≤ s.hp.length) (hps : ∀ y ∈ ys, y.length = ps.length ∧ y.all V.bare = true) (hlo : ltObjs s.hp.length s.hp = true) (hpre : ∀ L, Pre (s.hp ++ [L])) (inv : Nat → Prop) (h0 : inv 0)
    (round : ∀ i, inv i → ∀ (h : i < ys.length) (L0 L1 : IObj), eK P sa (roundMid P sb L0 L1 s.hp.length (roundPost s L1 s.hp.length (fun hp => hp = s.hp ∧ inv (i + 1)) Q)) ⟨setAll (s.tm.map V.cp) (ps.zip ys[i]), s.hp ++ [L0], s.hp.length + 1⟩)
    (hend : inv ys.length → Q .normal s) : SemR P g ps sa sb Q s :=
  rangeY hmo hY hg hb hbare hlt hnb hps (fun i hp => hp = s.hp ∧ inv i) ⟨rfl, h0⟩ (by rintro i hp ⟨rfl, _⟩; exact ⟨rfl, hlo, hpre⟩) (by rintro i hp ⟨rfl, h⟩ hi L0 L1; exact round i h hi L0 L1) (by rintro hp ⟨rfl, h⟩; exact hend h)

/-! ### Calls of functions that are given functions -/
/-- A call of a function, of whatever names no objects, in whatever memory. -/
def FCall (P : Program) (f : FuncId) (args : List V) (r : V) : Prop := CallK P f args [] fun r' _ => r' = r

theorem fcall_of_pcall {f : FuncId} {ds : List D} {r : V} (h : PCall P f ds r) : FCall P f (ds.map V.d) r := h

theorem callK_cut {f : FuncId} {args : List V} {hp : List IObj} {K : V → List IObj → Prop} (h : CallK P f args hp fun r hp' => hp.length ≤ hp'.length ∧ ltObjs hp.length (hp'.take hp.length) = true ∧ V.lt hp.length r = true ∧ K r (hp'.take hp.length)) : CallK P f args hp K := by
  intro Φ B au w cargs hi
  refine (h Φ B au w cargs hi).mono ?_
  rintro e w' ⟨v, r, hp', rfl, ⟨h1, h2, h3, h4⟩, hrel⟩
  have := St.le_cut (s := ⟨[r], hp', hp.length⟩) (tm := [r]) hp.length (LeTm.refl _) (by simp only [V.ltL, h3, Bool.and_true]) h2 (Nat.le_refl _) h1
  exact ⟨v, r, _, rfl, h4, this _ _ _ hrel⟩

theorem data_lt {m : Nat} {v : V} (h : v.data = true) : V.lt m v = true := by
  cases v <;> simp only [V.data] at h <;> first | rfl | (cases h; done) | skip
  rename_i vs
  simp only [V.lt]
  induction vs with
  | nil => rfl
  | cons v vs ih =>
    simp only [List.all_cons, Bool.and_eq_true] at h
    simp only [V.ltL, Bool.and_eq_true]
    refine ⟨?_, ih h.2⟩
    have := h.1
    cases v <;> simp at this <;> rfl
theorem data_ren {ρ : List Nat} {v : V} (h : v.data = true) : v.ren ρ = v := by
  cases v <;> simp only [V.data] at h <;> first | rfl | (cases h; done) | skip
  rename_i vs
  simp only [V.ren, V.tup.injEq]
  induction vs with
  | nil => rfl
  | cons v vs ih =>
    simp only [List.all_cons, Bool.and_eq_true] at h
    simp only [V.renL, List.cons.injEq]
    refine ⟨?_, ih h.2⟩
    have := h.1
    cases v <;> simp at this <;> rfl

theorem Sub.nil {hpB : List IObj} : Sub [] [] hpB := ⟨rfl, List.nodup_nil, fun i j o h => by simp at h, rfl⟩

/-- **A call of a function that is given functions.** -/
theorem callK_fcall {f : FuncId} {args args' : List V} {r : V} {hp : List IObj} {K : V → List IObj → Prop} (h : FCall P f args' r) (ha : LeL args args') (hlt : V.ltL 0 args' = true) (hlo : ltObjs hp.length hp = true) (hb : args'.all V.bare = true) (hd : r.data = true) (hk : K r hp) : CallK P f args hp K := by
  have hren : V.renL [] args' = args' := V.renL_id (n := 0) hlt
  refine callK_cut (callK_frame h [] Sub.nil hlt hb (argsB := args) (by rw [hren]; exact ha.le) fun r' hp' e => ?_)
  subst e
  have e1 : mergeHp hp [] hp' = hp ++ hp'.map (IObj.ren (renNew [] hp.length (hp'.length - 0))) := by
    unfold mergeHp
    cases hp' <;> simp [setObjs]
  rw [e1, data_ren hd]
  refine ⟨by simp, ?_, data_lt hd, ?_⟩
  · rw [List.take_left]; exact hlo
  · rw [List.take_left]; exact hk

/-- a call of whatever names no objects: the slots, the code, the results -/
theorem fcallS {f : FuncId} {fn : Func} (H M : List (Nat × Nat)) (hmo : P.follows .mixedOrders = true) (c : Code) (rs : List ResultVar) {args : List V} {rv : V} (hf : P.funcs[f]? = some fn) (hb : fn.body = some c) (hr : fn.results.toList = rs) (hn : (resSlots rs).Nodup)
    (n : Nat) (hnn : fn.ntmps - args.length = n) (hd : drawsOK M c = true) (h : eK P (stripC H M c) (retF P rs rv) ⟨args ++ List.replicate n .un, [], 0⟩) : FCall P f args rv := by
  refine fcall_frz (callK_enterS hf hb (by rw [hr]; exact hn) ?_)
  rw [retK_retH, hr, hnn, ← retF_retH]; exact e_sound hmo _ _ _ hd h

/-! ### Loops, by the slots that they write -/
def blankM : List Bool → List V → List V
  | true :: m, _ :: vs => .un :: blankM m vs
  | false :: m, v :: vs => v :: blankM m vs
  | [], vs => vs
  | _, [] => []

theorem loopA {tm : List V} {hp0 : List IObj} {nb : Nat} {sc : SC} {Q : Ex → St → Prop} {α : Type} (hmo : P.follows .mixedOrders = true) (mask : List Bool) (ovr : α → List (Nat × V)) (hp : α → List IObj) (inv : α → Prop) (μ : α → Nat) (i0 : α) (h0 : inv i0)
    (hle : LeS ⟨tm, hp0, nb⟩ ⟨setAll (blankM mask tm) (ovr i0), hp i0, nb⟩)
    (round : ∀ i, inv i → eK P sc (thenK (fun s' => ∃ j, inv j ∧ μ j < μ i ∧ LeS s' ⟨setAll (blankM mask tm) (ovr j), hp j, nb⟩) Q) ⟨setAll (blankM mask tm) (ovr i), hp i, nb⟩) : SemL P sc Q ⟨tm, hp0, nb⟩ :=
  loopS hmo inv (fun i => ⟨setAll (blankM mask tm) (ovr i), hp i, nb⟩) μ i0 h0 hle round

end

section
variable {P : Program} {Q : Ex → St → Prop} {s : St} {tm : List V} {hp : List IObj} {nb : Nat} {K : St → Prop} {r : List SOp} {o : SOp} {d : Option Nat} {op : Op} {t : TypeId} {k : Bool} {h : Nat}
theorem k_skip : eK P .skip Q s = Q .normal s := rfl
theorem k_ret : eK P .ret Q s = Q .ret s := rfl
theorem k_exit {id : Nat} : eK P (.exit id) Q s = Q (.exit id) s := rfl
theorem k_seq {a b : SC} : eK P (.seq a b) Q ⟨tm, hp, nb⟩ = eK P a (thenK (eK P b Q) Q) ⟨tm, hp, nb⟩ := rfl
theorem k_ops {l : List SOp} : eK P (.ops [] l) Q ⟨tm, hp, nb⟩ = sOps P l ⟨tm, hp, nb⟩ (Q .normal) := rfl
theorem k_free {o : SOp} {f l : List SOp} : eK P (.ops (o :: f) l) Q ⟨tm, hp, nb⟩ = sFree P hp.length (o :: f) ⟨tm, hp, nb⟩ (fun s' => sOps P l s' (Q .normal)) := rfl
theorem k_cond {c : Operand} {a b : SC} : eK P (.cond c a b) Q ⟨tm, hp, nb⟩ = (match ev P 0 ⟨tm, hp, nb⟩ c with
    | .d (.bool t) => gd t true (eK P a Q ⟨tm, hp, nb⟩) (eK P b Q ⟨tm, hp, nb⟩)
    | _ => False) := rfl
theorem k_block {id : Nat} {c : SC} : eK P (.block id c) Q ⟨tm, hp, nb⟩ = eK P c (inBlockK id Q) ⟨tm, hp, nb⟩ := rfl
theorem k_loop {c : SC} : eK P (.loop c) Q s = SemL P c Q s := rfl
theorem k_range {g : Operand} {ps : List Nat} {a b : SC} : eK P (.range g ps a b) Q s = SemR P g ps a b Q s := rfl
theorem k_other {c : Code} : eK P (.other c) Q s = SemC P c Q s := rfl
theorem s_nil : sOps P [] s K = K s := rfl
theorem s_cons : sOps P (⟨d, op, t, none, k, h⟩ :: r) ⟨tm, hp, nb⟩ K = sStep P ⟨d, op, t, none, k, h⟩ ⟨tm, hp, nb⟩ (fun s' => sOps P r s' K) := rfl
theorem sStep_g {g g' : Option (Option Nat × Bool)} : sStep P ⟨d, op, t, g, k, h⟩ s K = sStep P ⟨d, op, t, g', k, h⟩ s K := rfl
theorem s_guard {i : Nat} {want : Bool} : sOps P (⟨d, op, t, some (some i, want), k, h⟩ :: r) ⟨tm, hp, nb⟩ K = (match tm[i]? with
      | some (.d (.bool b)) => gd b want (sStep P ⟨d, op, t, none, k, h⟩ ⟨tm.set i (.d (.bool want)), hp, nb⟩ fun s' => sOps P r s' K) (sOps P r (St.put ⟨tm.set i (.d (.bool !want)), hp, nb⟩ d (.tup [])) K)
      | some (.tup []) => sOps P r (St.put ⟨tm, hp, nb⟩ d (.tup [])) K
      | _ => False) := rfl
theorem s_move {x : Operand} : sStep P ⟨d, .move x, t, none, k, 0⟩ ⟨tm, hp, nb⟩ K = K (mv ⟨tm, hp, nb⟩ x (ev P t ⟨tm, hp, nb⟩ x) d (k || (ev P t ⟨tm, hp, nb⟩ x).isTup)) := rfl
theorem s_load {u : TypeId} {x : Operand} : sStep P ⟨d, .load u x, t, none, k, 0⟩ ⟨tm, hp, nb⟩ K = loadK P u (ev P 0 ⟨tm, hp, nb⟩ x) ⟨tm, hp, nb⟩ d k K := rfl
theorem s_heap {n : Nat} : sStep P ⟨d, op, t, none, k, n + 1⟩ ⟨tm, hp, nb⟩ K = heapK P ⟨d, op, t, none, k, n + 1⟩ ⟨tm, hp, nb⟩ K := rfl
theorem s_assign {x : Operand} : sStep P ⟨d, .assign x, t, none, k, 0⟩ ⟨tm, hp, nb⟩ K = stepK P ⟨d, .assign x, t, "", #[], none⟩ [] ⟨tm, hp, nb⟩ K := rfl
theorem s_pick {c x y : Operand} : sStep P ⟨d, .pick c x y, t, none, k, 0⟩ ⟨tm, hp, nb⟩ K = stepK P ⟨d, .pick c x y, t, "", #[], none⟩ [] ⟨tm, hp, nb⟩ K := rfl
theorem s_alloc {u : TypeId} : sStep P ⟨d, .alloc u, t, none, k, 0⟩ ⟨tm, hp, nb⟩ K = stepK P ⟨d, .alloc u, t, "", #[], none⟩ [] ⟨tm, hp, nb⟩ K := rfl
theorem s_box {u : TypeId} {x : Operand} : sStep P ⟨d, .box u x, t, none, k, 0⟩ ⟨tm, hp, nb⟩ K = stepK P ⟨d, .box u x, t, "", #[], none⟩ [] ⟨tm, hp, nb⟩ K := rfl
theorem s_build {u : TypeId} {ps : Array (Nat × Operand)} : sStep P ⟨d, .build u ps, t, none, k, 0⟩ ⟨tm, hp, nb⟩ K = stepK P ⟨d, .build u ps, t, "", #[], none⟩ [] ⟨tm, hp, nb⟩ K := rfl
theorem s_buildSlice {u : TypeId} {n : Nat} {ps : Array (Nat × Operand)} : sStep P ⟨d, .buildSlice u n ps, t, none, k, 0⟩ ⟨tm, hp, nb⟩ K = stepK P ⟨d, .buildSlice u n ps, t, "", #[], none⟩ [] ⟨tm, hp, nb⟩ K := rfl
theorem s_makeSlice {u : TypeId} {x y : Operand} : sStep P ⟨d, .makeSlice u x y, t, none, k, 0⟩ ⟨tm, hp, nb⟩ K = stepK P ⟨d, .makeSlice u x y, t, "", #[], none⟩ [] ⟨tm, hp, nb⟩ K := rfl
theorem s_store {u : TypeId} {x y : Operand} : sStep P ⟨d, .store u x y, t, none, k, 0⟩ ⟨tm, hp, nb⟩ K = stepK P ⟨d, .store u x y, t, "", #[], none⟩ [] ⟨tm, hp, nb⟩ K := rfl
theorem s_bin {b : BinOp} {u u' : TypeId} {x y : Operand} : sStep P ⟨d, .binOp b u x y u', t, none, k, 0⟩ ⟨tm, hp, nb⟩ K = stepK P ⟨d, .binOp b u x y u', t, "", #[], none⟩ [] ⟨tm, hp, nb⟩ K := rfl
theorem s_un {b : UnOp} {u : TypeId} {x : Operand} : sStep P ⟨d, .unOp b u x, t, none, k, 0⟩ ⟨tm, hp, nb⟩ K = stepK P ⟨d, .unOp b u x, t, "", #[], none⟩ [] ⟨tm, hp, nb⟩ K := rfl
theorem s_makeFunc {f : Fn} {fs cs : Array Operand} : sStep P ⟨d, .makeFunc f fs cs, t, none, k, 0⟩ ⟨tm, hp, nb⟩ K = stepK P ⟨d, .makeFunc f fs cs, t, "", #[], none⟩ [] ⟨tm, hp, nb⟩ K := rfl
theorem s_slice {u : TypeId} {x : Operand} {lo hi mx : Option Operand} : sStep P ⟨d, .slice u x lo hi mx, t, none, k, 0⟩ ⟨tm, hp, nb⟩ K = stepK P ⟨d, .slice u x lo hi mx, t, "", #[], none⟩ [] ⟨tm, hp, nb⟩ K := rfl
theorem s_fieldAddr {u : TypeId} {x : Operand} {f : Nat} : sStep P ⟨d, .fieldAddr u x f, t, none, k, 0⟩ ⟨tm, hp, nb⟩ K = stepK P ⟨d, .fieldAddr u x f, t, "", #[], none⟩ [] ⟨tm, hp, nb⟩ K := rfl
theorem s_field {u : TypeId} {x : Operand} {f : Nat} : sStep P ⟨d, .field u x f, t, none, k, 0⟩ ⟨tm, hp, nb⟩ K = stepK P ⟨d, .field u x f, t, "", #[], none⟩ [] ⟨tm, hp, nb⟩ K := rfl
theorem s_indexAddr {u : TypeId} {x i : Operand} : sStep P ⟨d, .indexAddr u x i, t, none, k, 0⟩ ⟨tm, hp, nb⟩ K = stepK P ⟨d, .indexAddr u x i, t, "", #[], none⟩ [] ⟨tm, hp, nb⟩ K := rfl
theorem s_index {u : TypeId} {x i : Operand} : sStep P ⟨d, .index u x i, t, none, k, 0⟩ ⟨tm, hp, nb⟩ K = stepK P ⟨d, .index u x i, t, "", #[], none⟩ [] ⟨tm, hp, nb⟩ K := rfl
theorem s_extract {x : Operand} {ix : Nat} : sStep P ⟨d, .extract x ix, t, none, k, 0⟩ ⟨tm, hp, nb⟩ K = stepK P ⟨d, .extract x ix, t, "", #[], none⟩ [] ⟨tm, hp, nb⟩ K := rfl
theorem s_call {c : Call} : sStep P ⟨d, .call c, t, none, k, 0⟩ ⟨tm, hp, nb⟩ K = stepK P ⟨d, .call c, t, "", #[], none⟩ [] ⟨tm, hp, nb⟩ K := rfl
theorem s_convert {u u' : TypeId} {x : Operand} : sStep P ⟨d, .convert u u' x, t, none, k, 0⟩ ⟨tm, hp, nb⟩ K = stepK P ⟨d, .convert u u' x, t, "", #[], none⟩ [] ⟨tm, hp, nb⟩ K := rfl
theorem s_makeMap {u : TypeId} : sStep P ⟨d, .makeMap u none, t, none, k, 0⟩ ⟨tm, hp, nb⟩ K = stepK P ⟨d, .makeMap u none, t, "", #[], none⟩ [] ⟨tm, hp, nb⟩ K := rfl
theorem s_lookup {u : TypeId} {x y : Operand} {ok : Bool} : sStep P ⟨d, .lookup u x y ok, t, none, k, 0⟩ ⟨tm, hp, nb⟩ K = stepK P ⟨d, .lookup u x y ok, t, "", #[], none⟩ [] ⟨tm, hp, nb⟩ K := rfl
theorem s_mapUpdate {u : TypeId} {x y z : Operand} : sStep P ⟨d, .mapUpdate u x y z, t, none, k, 0⟩ ⟨tm, hp, nb⟩ K = stepK P ⟨d, .mapUpdate u x y z, t, "", #[], none⟩ [] ⟨tm, hp, nb⟩ K := rfl
theorem s_range {u : TypeId} {x : Operand} : sStep P ⟨d, .range u x, t, none, k, 0⟩ ⟨tm, hp, nb⟩ K = stepK P ⟨d, .range u x, t, "", #[], none⟩ [] ⟨tm, hp, nb⟩ K := rfl
theorem s_next {x : Operand} : sStep P ⟨d, .next x false, t, none, k, 0⟩ ⟨tm, hp, nb⟩ K = stepK P ⟨d, .next x false, t, "", #[], none⟩ [] ⟨tm, hp, nb⟩ K := rfl
theorem g_nil {base : Nat} : sFree P base [] s K = K s := rfl
theorem g_cons {base : Nat} : sFree P base (⟨d, op, t, none, k, h⟩ :: r) ⟨tm, hp, nb⟩ K = freeStep P base ⟨d, op, t, "", #[], none⟩ ⟨tm, hp, nb⟩ (fun s' => sFree P base r s' K) := rfl
theorem g_guard {base i : Nat} {want : Bool} : sFree P base (⟨d, op, t, some (some i, want), k, h⟩ :: r) ⟨tm, hp, nb⟩ K = (match tm[i]? with
      | some (.d (.bool b)) => gd b want (freeStep P base ⟨d, op, t, "", #[], none⟩ ⟨tm.set i (.d (.bool want)), hp, nb⟩ fun s' => sFree P base r s' K) (sFree P base r (St.put ⟨tm.set i (.d (.bool !want)), hp, nb⟩ d (.tup [])) K)
      | some (.tup []) => sFree P base r (St.put ⟨tm, hp, nb⟩ d (.tup [])) K
      | _ => False) := rfl
theorem m_normal {sb : SC} {L0 L1 : IObj} {n : Nat} {R : Ex → St → Prop} : roundMid P sb L0 L1 n R .normal ⟨tm, hp, nb⟩ = (hp[n]? = some L0 ∧ eK P sb R ⟨tm, hp.set n L1, nb⟩) := rfl
variable {s0 : St} {L1 : IObj} {n : Nat} {inv' : List IObj → Prop}
theorem p_normal : roundPost s0 L1 n inv' Q .normal ⟨tm, hp, nb⟩ = (nb ≤ n + 1 ∧ hp[n]? = some L1 ∧ ltObjs n (hp.take n) = true ∧ inv' (hp.take n)) := rfl
theorem p_ret : roundPost s0 L1 n inv' Q .ret ⟨tm, hp, nb⟩ = (nb ≤ n + 1 ∧ hp[n]? = some L1 ∧ ltObjs n (hp.take n) = true ∧ Q .ret ⟨s0.tm, hp.take n, s0.nb⟩) := rfl
theorem p_exit {i : Nat} : roundPost s0 L1 n inv' Q (.exit i) ⟨tm, hp, nb⟩ = (nb ≤ n + 1 ∧ hp[n]? = some L1 ∧ ltObjs n (hp.take n) = true ∧ Q (.exit i) ⟨s0.tm, hp.take n, s0.nb⟩) := rfl
end
theorem bl_t {m : List Bool} {v : V} {vs : List V} : blankM (true :: m) (v :: vs) = .un :: blankM m vs := rfl
theorem bl_f {m : List Bool} {v : V} {vs : List V} : blankM (false :: m) (v :: vs) = v :: blankM m vs := rfl
theorem bl_n {vs : List V} : blankM [] vs = vs := rfl
section
variable {P : Program} {tm : List V} {hp : List IObj} {nb : Nat} {K : St → Prop} {Q : Ex → St → Prop} {d : Option Nat} {t : TypeId} {k : Bool} {g : Option (Option Nat × Bool)}
theorem k_any {f : List (SOp × List Nat)} {l : List SOp} : eK P (.any f l) Q ⟨tm, hp, nb⟩ = anyGo P f (fun s' => sOps P l s' (Q .normal)) f.length [] ⟨tm, hp, nb⟩ := rfl
theorem k_mix {f : List SOp} {o : SOp} {l : List (SOp × List Nat)} {m : Nat} : eK P (.mix f (some o) l m) Q ⟨tm, hp, nb⟩ = (sFree P hp.length f ⟨tm, hp, nb⟩ fun s1 => match o.op with
    | .call c => callX P c s1 o.d fun s2 => anyGo P l (Q .normal) (l.length - m) (upto m) s2
    | _ => False) := rfl
theorem k_alc {f : List SOp} {x y : SOp} {l : List SOp} : eK P (.alc f (some x) (some y) l) Q ⟨tm, hp, nb⟩ = (sFree P hp.length f ⟨tm, hp, nb⟩ fun s1 => sOps P [x, y] s1 (fun s2 => sOps P l s2 (Q .normal)) ∧ sOps P [y, x] s1 (fun s2 => sOps P l s2 (Q .normal))) := rfl
theorem k_alx {f : List SOp} {l : List (SOp × List Nat)} {m : Nat} : eK P (.alx f l m) Q ⟨tm, hp, nb⟩ = sFree P hp.length f ⟨tm, hp, nb⟩ (fun s1 => anyGo P l (Q .normal) (l.length - m) (upto m) s1) := rfl
theorem cx_val {q : Operand} {xs : Array Operand} {ts : Array TypeId} : callX P ⟨.value q, xs, ts⟩ ⟨tm, hp, nb⟩ d K = (match ev P 0 ⟨tm, hp, nb⟩ q with
    | .fn (.func f) caps => hasBody P f = true ∧ (argVs P ⟨tm, hp, nb⟩ ⟨.value q, xs, ts⟩ ++ caps).all V.bare = true ∧ @CallH P f (argVs P ⟨tm, hp, nb⟩ ⟨.value q, xs, ts⟩ ++ caps) hp ⟨fun r hp' => (∃ ext, hp' = hp ++ ext) ∧ K (St.put ⟨tm, hp', nb⟩ d r)⟩
    | _ => False) := rfl
theorem h_build1 {u : TypeId} {n : Nat} {ps : Array (Nat × Operand)} : heapK P ⟨d, .buildSlice u n ps, t, g, k, 1⟩ ⟨tm, hp, nb⟩ K = (match elemTy P u, elI P u with
    | some e, some (z, _) => (match (zeroCs P e).bind (ofCells P e) with
      | some zd => (match fillEl z (List.replicate n zd) (ps.toList.map fun p => (p.1, ev P e ⟨tm, hp, nb⟩ p.2)) with
        | some xs => n * z ≤ 16777216 ∧ zd.flat.length = z ∧ 0 < z ∧ K (St.put ⟨tm, hp ++ [IObj.arr z xs], nb⟩ d (.ref hp.length z 0 n n))
        | none => False)
      | none => False)
    | _, _ => False) := by
  unfold heapK; simp only; cases elemTy P u <;> cases elI P u <;> rfl
theorem h_build2 {u : TypeId} {n : Nat} {ps : Array (Nat × Operand)} : heapK P ⟨d, .buildSlice u n ps, t, g, k, 2⟩ ⟨tm, hp, nb⟩ K = (match elemTy P u, elI P u with
    | some e, some (z, _) => (match zeroVs P e with
      | some zs => (match fillD (fun i => some (i * z, z)) (List.replicate n zs).flatten (ps.toList.map fun p => (p.1, ev P e ⟨tm, hp, nb⟩ p.2)) with
        | some cs => n * z ≤ 16777216 ∧ zs.length = z ∧ 0 < z ∧ heapK.allBare zs = true ∧ K (St.put ⟨tm, hp ++ [IObj.var cs], nb⟩ d (.ref hp.length z 0 n n))
        | none => False)
      | none => False)
    | _, _ => False) := by
  unfold heapK; simp only; cases elemTy P u <;> cases elI P u <;> rfl
theorem h_make1 {u : TypeId} {x y : Operand} : heapK P ⟨d, .makeSlice u x y, t, g, k, 1⟩ ⟨tm, hp, nb⟩ K = (match elemTy P u, elI P u, ev P 0 ⟨tm, hp, nb⟩ x, ev P 0 ⟨tm, hp, nb⟩ y with
    | some e, some (z, by_), .d (.int _ n), .d (.int _ m) => (match (zeroCs P e).bind (ofCells P e) with
      | some zd => n = m ∧ 0 ≤ n ∧ by_ * n ≤ 281474976710656 ∧ n ≤ 9223372036854775807 ∧ d.isSome = true ∧ zd.flat.length = z ∧ 0 < z ∧ K (St.put ⟨tm, hp, nb⟩ d (.own z (List.replicate n.toNat zd)))
      | none => False)
    | _, _, _, _ => False) := by
  unfold heapK; simp only
  rw [if_pos trivial]; rfl
theorem h_make2 {u : TypeId} {x y : Operand} : heapK P ⟨d, .makeSlice u x y, t, g, k, 2⟩ ⟨tm, hp, nb⟩ K = (match elemTy P u, elI P u, ev P 0 ⟨tm, hp, nb⟩ x, ev P 0 ⟨tm, hp, nb⟩ y with
    | some e, some (z, by_), .d (.int _ n), .d (.int _ m) => (match zeroVs P e with
      | some zs => n = m ∧ 0 ≤ n ∧ by_ * n ≤ 281474976710656 ∧ n ≤ 9223372036854775807 ∧ zs.length = z ∧ 0 < z ∧ heapK.allBare zs = true ∧
          K (St.put ⟨tm, hp ++ [IObj.var (List.replicate n.toNat zs).flatten], nb⟩ d (.ref hp.length z 0 n.toNat n.toNat))
      | none => False)
    | _, _, _, _ => False) := by
  unfold heapK; simp only
  rw [if_neg (by decide)]
  cases elemTy P u with
  | none => rfl
  | some e => cases elI P u with
    | none => rfl
    | some p =>
      obtain ⟨z, b⟩ := p
      generalize ev P 0 ⟨tm, hp, nb⟩ x = X
      generalize ev P 0 ⟨tm, hp, nb⟩ y = Y
      cases X with
      | d X => cases X with
        | int k a => cases Y with
          | d Y => cases Y <;> rfl
          | _ => rfl
        | _ => rfl
      | _ => rfl
theorem h_append1 {x y : Operand} {t0 t1 : TypeId} : heapK P ⟨d, .call ⟨.builtin .append, #[x, y], #[t0, t1]⟩, t, g, k, 1⟩ ⟨tm, hp, nb⟩ K = (match ev P t0 ⟨tm, hp, nb⟩ x with
    | .nil z => appendNewK P t0 t1 (.nil z) (ev P t1 ⟨tm, hp, nb⟩ y) ⟨tm, hp, nb⟩ d K
    | _ => callK P ⟨.builtin .append, #[x, y], #[t0, t1]⟩ ⟨tm, hp, nb⟩ d K) := rfl
end
attribute [simp] k_mix k_alc k_alx cx_val upto k_any h_build1 h_build2 h_make1 h_make2 h_append1 heapK.allBare
attribute [simp] bl_t bl_f bl_n
attribute [simp] k_skip k_ret k_exit k_seq k_ops k_free k_cond k_block k_loop k_range k_other s_nil s_cons s_guard s_move s_load s_heap g_nil g_cons g_guard m_normal p_normal p_ret p_exit setAll
attribute [simp] s_assign s_pick s_alloc s_box s_build s_buildSlice s_makeSlice s_store s_bin s_un s_makeFunc s_slice s_fieldAddr s_field s_indexAddr s_index s_extract s_call s_convert s_makeMap s_lookup s_mapUpdate s_range s_next
end Go.Idl
end
