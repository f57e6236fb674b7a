/- Calls in a larger memory: the frame; slices that are lent; results that are frozen. -/
import Derived.Test.YtkfpaffcglijeaaQueueApartPart07
set_option linter.all false
namespace Go.Idl

mutual
/-- other numbers for the objects -/
def V.ren (ρ : List Nat) : V → V
  | .ptr id off => .ptr (ρ.getD id 0) off
  | .aptr id z i j => .aptr (ρ.getD id 0) z i j
  | .ref id z off len cap => .ref (ρ.getD id 0) z off len cap
  | .fn f caps => .fn f (V.renL ρ caps)
  | .yld id => .yld (ρ.getD id 0)
  | .map id => .map (ρ.getD id 0)
  | .tup vs => .tup (V.renL ρ vs)
  | .st vs => .st (V.renL ρ vs)
  | .un => .un
  | .d x => .d x
  | .nil z => .nil z
  | .own z xs => .own z xs
  | .hold z xs => .hold z xs
  | .lptr l z xs i j => .lptr l z xs i j
def V.renL (ρ : List Nat) : List V → List V
  | [] => []
  | v :: vs => V.ren ρ v :: V.renL ρ vs
end

def IObj.ren (ρ : List Nat) : IObj → IObj
  | .free => .free
  | .var cs => .var (V.renL ρ cs)
  | .arr z xs => .arr z xs
  | .map c es => .map c (es.map fun e => (e.1, e.2.1, V.ren ρ e.2.2))
  | .iter m since seen last => .iter (ρ.getD m 0) since seen last
  | .loop r p tm ps a b => .loop r p (V.renL ρ tm) ps a b

theorem renL_map {ρ : List Nat} : ∀ vs : List V, V.renL ρ vs = vs.map (V.ren ρ)
  | [] => rfl
  | v :: vs => by rw [V.renL, renL_map vs]; rfl

theorem V.ren_cp {ρ : List Nat} (v : V) : (v.ren ρ).cp = v.cp.ren ρ := by
  cases v with
  | tup vs =>
    simp only [V.ren, V.cp, renL_map, List.map_map]
    congr 1
    refine List.map_congr_left fun v _ => ?_
    cases v <;> rfl
  | _ => rfl
theorem V.ren_known {ρ : List Nat} (v : V) : (v.ren ρ).known = v.known := by cases v <;> rfl
theorem V.ren_isTup {ρ : List Nat} (v : V) : (v.ren ρ).isTup = v.isTup := by cases v <;> rfl

section
variable {Φ : CM}
mutual
/-- what stands for a value stands for it under other numbers -/
theorem RepS.ren {B B' : List Nat} {ρ : List Nat} (h : ∀ (i b : Nat), B[i]? = some b → B'[ρ.getD i 0]? = some b) : ∀ {V : V} {v : Value}, RepS Φ B V v → RepS Φ B' (V.ren ρ) v
  | _, _, .un v => .un v
  | _, _, .d x => .d x
  | _, _, .nil => .nil
  | _, _, .own x => .own x
  | _, _, .hold a b => .hold a b
  | _, _, .st e ok q => by
    refine .st (RepSL.ren h e) ok fun V hV => ?_
    rw [renL_map] at hV
    obtain ⟨V', hV', rfl⟩ := List.mem_map.1 hV
    obtain ⟨q1, q2⟩ := q V' hV'
    exact ⟨by rw [Idl.V.ren_cp, q1], by rw [Idl.V.ren_known]; exact q2⟩
  | _, _, .ptr e => .ptr (h _ _ e)
  | _, _, .aptr e => .aptr (h _ _ e)
  | _, _, .lptr e => .lptr e
  | _, _, .ref e l q => .ref (h _ _ e) l q
  | _, _, .ref0 => .ref0
  | _, _, .fn e => .fn (RepSL.ren h e)
  | _, _, .yld e => .yld (h _ _ e)
  | _, _, .tup e => .tup (RepSL.ren h e)
  | _, _, .map e => .map (h _ _ e)
theorem RepSL.ren {B B' : List Nat} {ρ : List Nat} (h : ∀ (i b : Nat), B[i]? = some b → B'[ρ.getD i 0]? = some b) : ∀ {V : List V} {v : List Value}, RepSL Φ B V v → RepSL Φ B' (Idl.V.renL ρ V) v
  | _, _, .nil => .nil
  | _, _, .cons a b => .cons (RepS.ren h a) (RepSL.ren h b)
end

mutual
/-- and back -/
theorem RepS.unren {B B' : List Nat} {ρ : List Nat} {m : Nat} (h : ∀ (i b : Nat), i < m → B'[ρ.getD i 0]? = some b → B[i]? = some b) : ∀ {V : V} {v : Value}, V.lt m = true → RepS Φ B' (V.ren ρ) v → RepS Φ B V v
  | .un, _, _, _ => .un _
  | .d x, _, _, hr => by cases hr with | d x => exact .d x
  | .nil z, _, _, hr => by cases hr with | nil => exact .nil
  | .own z xs, _, _, hr => by cases hr with | own x => exact .own x
  | .hold z xs, _, _, hr => by cases hr with | hold a b => exact .hold a b
  | .lptr .., _, _, hr => by cases hr with | lptr x => exact .lptr x
  | .ptr id off, _, hl, hr => by
    simp only [V.ren] at hr
    cases hr with | ptr e => exact .ptr (h _ _ (by simpa [V.lt] using hl) e)
  | .aptr .., _, hl, hr => by
    simp only [V.ren] at hr
    cases hr with | aptr e => exact .aptr (h _ _ (by simpa [V.lt] using hl) e)
  | .ref id z off len cap, _, hl, hr => by
    simp only [V.ren] at hr
    cases hr with
    | ref e a b => exact .ref (h _ _ (by simpa [V.lt] using hl) e) a b
    | ref0 => exact .ref0
  | .yld id, _, hl, hr => by
    simp only [V.ren] at hr
    cases hr with | yld e => exact .yld (h _ _ (by simpa [V.lt] using hl) e)
  | .map id, _, hl, hr => by
    simp only [V.ren] at hr
    cases hr with | map e => exact .map (h _ _ (by simpa [V.lt] using hl) e)
  | .fn f caps, _, hl, hr => by
    simp only [V.ren] at hr
    cases hr with | fn e => exact .fn (RepSL.unren h (by simpa [V.lt] using hl) e)
  | .tup vs, _, hl, hr => by
    simp only [V.ren] at hr
    cases hr with | tup e => exact .tup (RepSL.unren h (by simpa [V.lt] using hl) e)
  | .st vs, _, hl, hr => by
    simp only [V.ren] at hr
    cases hr with
    | st e ok q =>
      refine .st (RepSL.unren h (by simpa [V.lt] using hl) e) ok fun V hV => ?_
      obtain ⟨q1, q2⟩ := q (V.ren ρ) (by rw [renL_map]; exact List.mem_map.2 ⟨V, hV, rfl⟩)
      rw [Idl.V.ren_known] at q2
      refine ⟨?_, q2⟩
      cases V with
      | own z xs => simp [V.ren, V.cp] at q1
      | hold z xs => simp [V.ren, V.cp] at q1
      | tup vs => simp [V.known] at q2
      | _ => rfl
theorem RepSL.unren {B B' : List Nat} {ρ : List Nat} {m : Nat} (h : ∀ (i b : Nat), i < m → B'[ρ.getD i 0]? = some b → B[i]? = some b) : ∀ {V : List V} {v : List Value}, Idl.V.ltL m V = true → RepSL Φ B' (Idl.V.renL ρ V) v → RepSL Φ B V v
  | [], _, _, hr => by
    simp only [Idl.V.renL] at hr
    cases hr; exact .nil
  | V :: Vs, _, hl, hr => by
    simp only [Idl.V.renL] at hr
    simp only [Idl.V.ltL, Bool.and_eq_true] at hl
    cases hr with | cons a b => exact .cons (RepS.unren h hl.1 a) (RepSL.unren h hl.2 b)
end
end

/-- the holder's other number -/
def Holder.ren (ρ : List Nat) : Holder → Holder
  | .slot i j => .slot i j
  | .cell id j => .cell (ρ.getD id 0) j
  | .obj id => .obj (ρ.getD id 0)

theorem OwnV.ren {au au' : Auth} {w w' : World} {h h' : Nat → Holder} {ρ : List Nat} {V : V} {v : Value} (ho : OwnV au w h V v) (ha : ∀ j b st, au b = some (h j, st) → au' b = some (h' j, st) ∧ w'.heap[b]? = w.heap[b]?) : OwnV au' w' h' (V.ren ρ) v := by
  cases V with
  | own z xs => exact OwnV.mono (V := .own z xs) ho ha
  | hold z xs => exact OwnV.mono (V := .hold z xs) ho ha
  | tup vs =>
    constructor
    · rintro j z xs cs c e hj hc
      simp only [renL_map, List.getElem?_map, Option.map_eq_some_iff] at hj
      obtain ⟨V', hV', e'⟩ := hj
      cases V' <;> simp [V.ren] at e'
      obtain ⟨rfl, rfl⟩ := e'
      exact (ho.1 j _ _ cs c e hV' hc).mono (ha j)
    · rintro j z xs cs c e hj hc
      simp only [renL_map, List.getElem?_map, Option.map_eq_some_iff] at hj
      obtain ⟨V', hV', e'⟩ := hj
      cases V' <;> simp [V.ren] at e'
      obtain ⟨rfl, rfl⟩ := e'
      exact (ho.2 j _ _ cs c e hV' hc).mono (ha j)
  | _ => trivial

theorem OwnV.unren {au au' : Auth} {w w' : World} {h h' : Nat → Holder} {ρ : List Nat} {V : V} {v : Value} (ho : OwnV au w h (V.ren ρ) v) (ha : ∀ j b st, au b = some (h j, st) → au' b = some (h' j, st) ∧ w'.heap[b]? = w.heap[b]?) : OwnV au' w' h' V v := by
  cases V with
  | own z xs => exact OwnV.mono (V := .own z xs) ho ha
  | hold z xs => exact OwnV.mono (V := .hold z xs) ho ha
  | tup vs =>
    constructor
    · rintro j z xs cs c e hj hc
      exact (ho.1 j z xs cs c e (by simp only [renL_map, List.getElem?_map, hj]; rfl) hc).mono (ha j)
    · rintro j z xs cs c e hj hc
      exact (ho.2 j z xs cs c e (by simp only [renL_map, List.getElem?_map, hj]; rfl) hc).mono (ha j)
  | _ => trivial

/-- an object's reading under other numbers -/
theorem RepO.ren {Φ Φ' : CM} {B B' : List Nat} {au au' : Auth} {w w' : World} {ρ : List Nat} {id id' b : Nat} {o : IObj} (h : RepO Φ B au w id b o) (hΦ : Φ.le Φ')
    (hB : ∀ (i b : Nat), B[i]? = some b → B'[ρ.getD i 0]? = some b) (hb : au b = some (.obj id, 0) → au' b = some (.obj id', 0) ∧ w'.heap[b]? = w.heap[b]?)
    (hc : ∀ j b st, au b = some (.cell id j, st) → au' b = some (.cell id' j, st) ∧ w'.heap[b]? = w.heap[b]?) : RepO Φ' B' au' w' id' b (o.ren ρ) := by
  cases o with
  | free => trivial
  | var cs =>
    obtain ⟨h1, c, el, h2, h3, h4⟩ := h
    obtain ⟨e1, e2⟩ := hb h1
    refine ⟨e1, c, el, e2.trans h2, by rw [renL_map]; simpa using h3, fun j V hj => ?_⟩
    rw [renL_map, List.getElem?_map, Option.map_eq_some_iff] at hj
    obtain ⟨V', hj, rfl⟩ := hj
    obtain ⟨v, g1, g2, g3, g4⟩ := h4 j V' hj
    exact ⟨v, g1, by rw [Idl.V.ren_known]; exact g2, (g3.mono hΦ (fun _ _ h => h)).ren hB, g4.ren fun _ => hc j⟩
  | arr z xs =>
    intro hne
    obtain ⟨h1, c, el, h2, h3, h4⟩ := h hne
    obtain ⟨e1, e2⟩ := hb h1
    refine ⟨e1, c, el, e2.trans h2, h3, fun i x hx => ?_⟩
    obtain ⟨g1, g2⟩ := h4 i x hx
    refine ⟨g1, fun j d hd => ?_⟩
    obtain ⟨v, k1, k2, k3⟩ := g2 j d hd
    exact ⟨v, k1, k2, k3.mono hΦ⟩
  | map clock es =>
    obtain ⟨h1, ms, h2, h3, h4⟩ := h
    obtain ⟨e1, e2⟩ := hb h1
    refine ⟨e1, ms, e2.trans h2, by simpa using h3, fun i n k V hi => ?_⟩
    simp only [List.getElem?_map, Option.map_eq_some_iff, Prod.mk.injEq] at hi
    obtain ⟨⟨n', k', V'⟩, hi, rfl, rfl, rfl⟩ := hi
    obtain ⟨e, g1, g2, g3, g4⟩ := h4 i _ _ _ hi
    exact ⟨e, g1, g2, g3.mono hΦ, (g4.mono hΦ (fun _ _ h => h)).ren hB⟩
  | iter m since seen last =>
    obtain ⟨h1, bm, h2, h3⟩ := h
    obtain ⟨e1, e2⟩ := hb h1
    exact ⟨e1, bm, hB _ _ h2, e2.trans h3⟩
  | loop r p tm ps a bd =>
    obtain ⟨h1, fn, tmps, dr, h2, h3, h4⟩ := h
    obtain ⟨e1, e2⟩ := hb h1
    refine ⟨e1, fn, tmps, dr, e2.trans h2, (h3.mono hΦ (fun _ _ h => h)).ren hB, fun V hV => ?_⟩
    rw [renL_map] at hV
    obtain ⟨V', hV', rfl⟩ := List.mem_map.1 hV
    rw [Idl.V.ren_cp, h4 V' hV']

theorem RepO.unren {Φ : CM} {B B' : List Nat} {au au' : Auth} {w : World} {ρ : List Nat} {m id id' b : Nat} {o : IObj} (h : RepO Φ B' au w id' b (o.ren ρ)) (hl : o.lt m = true)
    (hB : ∀ (i b : Nat), i < m → B'[ρ.getD i 0]? = some b → B[i]? = some b) (hb : au b = some (.obj id', 0) → au' b = some (.obj id, 0))
    (hc : ∀ j b st, au b = some (.cell id' j, st) → au' b = some (.cell id j, st)) : RepO Φ B au' w id b o := by
  cases o with
  | free => trivial
  | var cs =>
    obtain ⟨h1, c, el, h2, h3, h4⟩ := h
    refine ⟨hb h1, c, el, h2, by rw [renL_map] at h3; simpa using h3, fun j V hj => ?_⟩
    obtain ⟨v, g1, g2, g3, g4⟩ := h4 j (V.ren ρ) (by rw [renL_map, List.getElem?_map, hj]; rfl)
    exact ⟨v, g1, by rw [Idl.V.ren_known] at g2; exact g2, g3.unren hB (ltL_get (by simpa [IObj.lt] using hl) j V hj), g4.unren fun _ b st e => ⟨hc j b st e, rfl⟩⟩
  | arr z xs =>
    intro hne
    obtain ⟨h1, c, el, h2, h3, h4⟩ := h hne
    exact ⟨hb h1, c, el, h2, h3, h4⟩
  | map clock es =>
    obtain ⟨h1, ms, h2, h3, h4⟩ := h
    refine ⟨hb h1, ms, h2, by simpa using h3, fun i n k V hi => ?_⟩
    obtain ⟨e, g1, g2, g3, g4⟩ := h4 i n k (V.ren ρ) (by simp only [List.getElem?_map, hi]; rfl)
    exact ⟨e, g1, g2, g3, g4.unren hB (ltL_get (vs := es.map (·.2.2)) (by simpa [IObj.lt] using hl) i V (by rw [List.getElem?_map, hi]; rfl))⟩
  | iter mm since seen last =>
    obtain ⟨h1, bm, h2, h3⟩ := h
    exact ⟨hb h1, bm, hB _ _ (by simpa [IObj.lt] using hl) h2, h3⟩
  | loop r p tm ps a bd =>
    obtain ⟨h1, fn, tmps, dr, h2, h3, h4⟩ := h
    refine ⟨hb h1, fn, tmps, dr, h2, h3.unren hB (by simpa [IObj.lt] using hl), fun V hV => ?_⟩
    have := h4 (V.ren ρ) (by rw [renL_map]; exact List.mem_map.2 ⟨V, hV, rfl⟩)
    rw [Idl.V.ren_cp] at this
    cases V with
    | own z xs => simp [V.ren, V.cp] at this
    | hold z xs => simp [V.ren, V.cp] at this
    | tup vs =>
      simp only [V.cp, V.ren, renL_map, V.tup.injEq, List.map_map] at this ⊢
      have hv := this
      rw [List.map_inj_left] at hv
      conv => rhs; rw [← List.map_id vs]
      rw [List.map_inj_left]
      intro v hv'
      have := hv v hv'
      cases v <;> simp_all [V.ren]
    | _ => rfl

/-- the owners that a callee of few objects sees -/
def shrinkAu (ρ : List Nat) (au : Auth) : Auth := fun b => match au b with
  | some (.obj j, st) => (ρ.idxOf? j).map fun i => (.obj i, st)
  | some (.cell j c, st) => (ρ.idxOf? j).map fun i => (.cell i c, st)
  | _ => none

theorem idxOf_of_get {ρ : List Nat} (hnd : ρ.Nodup) {i j : Nat} (h : ρ[i]? = some j) : ρ.idxOf? j = some i := by
  rw [List.idxOf?_eq_some_iff]
  obtain ⟨hi, rfl⟩ := List.getElem?_eq_some_iff.1 h
  refine ⟨hi, by simp, fun k hk => ?_⟩
  simpa using List.pairwise_iff_getElem.1 hnd k i (by omega) hi hk

theorem get_of_idxOf {ρ : List Nat} {i j : Nat} (h : ρ.idxOf? j = some i) : ρ[i]? = some j := by
  rw [List.idxOf?_eq_some_iff] at h
  obtain ⟨hi, h1, _⟩ := h
  rw [List.getElem?_eq_getElem hi]
  simpa using h1

theorem shrink_some {ρ : List Nat} {au : Auth} {b st : Nat} {h : Holder} (e : shrinkAu ρ au b = some (h, st)) : ∃ h', au b = some (h', st) := by
  unfold shrinkAu at e
  split at e
  · rename_i e'
    rw [Option.map_eq_some_iff] at e
    obtain ⟨_, _, e⟩ := e
    injection e with _ e; subst e; exact ⟨_, e'⟩
  · rename_i e'
    rw [Option.map_eq_some_iff] at e
    obtain ⟨_, _, e⟩ := e
    injection e with _ e; subst e; exact ⟨_, e'⟩
  · cases e

theorem shrink_obj {ρ : List Nat} (hnd : ρ.Nodup) {au : Auth} {i j b st : Nat} (h : ρ[i]? = some j) (e : au b = some (.obj j, st)) : shrinkAu ρ au b = some (.obj i, st) := by
  unfold shrinkAu; rw [e]; simp [idxOf_of_get hnd h]
theorem shrink_cell {ρ : List Nat} (hnd : ρ.Nodup) {au : Auth} {i j b st c : Nat} (h : ρ[i]? = some j) (e : au b = some (.cell j c, st)) : shrinkAu ρ au b = some (.cell i c, st) := by
  unfold shrinkAu; rw [e]; simp [idxOf_of_get hnd h]
theorem shrink_obj_none {ρ : List Nat} {au : Auth} {j b st : Nat} (h : j ∉ ρ) (e : au b = some (.obj j, st)) : shrinkAu ρ au b = none := by
  unfold shrinkAu; rw [e]
  simp [List.idxOf?_eq_none_iff, h]
theorem shrink_cell_none {ρ : List Nat} {au : Auth} {j b st c : Nat} (h : j ∉ ρ) (e : au b = some (.cell j c, st)) : shrinkAu ρ au b = none := by
  unfold shrinkAu; rw [e]
  simp [List.idxOf?_eq_none_iff, h]

/-- the objects of a larger memory, some of them named -/
structure Sub (ρ : List Nat) (hp hpB : List IObj) : Prop where
  len : ρ.length = hp.length
  nd : ρ.Nodup
  ob : ∀ (i j : Nat) o, ρ[i]? = some j → hp[i]? = some o → hpB[j]? = some (o.ren ρ)
  lt : ltObjs hp.length hp = true

section
variable {P : Program} {Φ : CM} {B : List Nat} {au : Auth} {w : World} {args argsB : List V} {hp hpB : List IObj} {cargs : Array Value} {ρ : List Nat}

theorem Sub.get (hs : Sub ρ hp hpB) {i : Nat} (hi : i < ρ.length) : ρ[i]? = some (ρ.getD i 0) := by simp [hi]
theorem Sub.bound (hs : Sub ρ hp hpB) {i j : Nat} (h : ρ[i]? = some j) : j < hpB.length := by
  have hi : i < hp.length := by rw [← hs.len]; exact (List.getElem?_eq_some_iff.1 h).1
  exact (List.getElem?_eq_some_iff.1 (hs.ob i j _ h (List.getElem?_eq_getElem hi))).1

theorem Inv.shrink (h : Inv (Ctx.at_ Φ B au w) Φ B au ⟨argsB, hpB, hpB.length⟩ ⟨cargs, []⟩ w) (hs : Sub ρ hp hpB) (hlt : V.ltL hp.length args = true) (hbare : args.all V.bare = true) (ha : LeTm argsB (V.renL ρ args)) :
    Inv (Ctx.at_ Φ (ρ.map fun j => B.getD j 0) (shrinkAu ρ au) w) Φ (ρ.map fun j => B.getD j 0) (shrinkAu ρ au) ⟨args, hp, hp.length⟩ ⟨cargs, []⟩ w := by
  obtain ⟨l1, l2⟩ := ha.get
  have hB : ∀ (i b : Nat), i < hp.length → B[ρ.getD i 0]? = some b → (ρ.map fun j => B.getD j 0)[i]? = some b := fun i b hi e => by
    rw [List.getElem?_map, hs.get (by rw [hs.len]; exact hi)]
    simp only [Option.map_some, Option.some.injEq]
    rw [List.getD_eq_getElem?_getD (l := B), e]; rfl
  refine { phi := h.phi, phia := fun lb b o v h0 st hp ha => ?_, auw := fun b h0 st e => ⟨?_, .inl (by simp only [Ctx.at_]; rw [e]; simp)⟩, size := Nat.le_refl _, keep := fun _ _ _ => rfl, pre := List.prefix_refl _, lePhi := CM.le_refl _, tl := ?_, tm := fun i V v hV hv => ?_, hl := by simp [hs.len], nb := ⟨by simp [Ctx.at_, hs.len], Nat.le_refl _⟩, hp := fun id o b ho hb => ?_, df := ⟨[], rfl, List.nodup_nil, by simp⟩, rd := fun l hl => (by cases hl), lp := fun l r e => ⟨r, e⟩, src := fun lb b o v e => .inl e, wo := ⟨rfl, rfl, rfl⟩ }
  · obtain ⟨h', e⟩ := shrink_some ha; exact h.phia _ b o v _ _ hp e
  · obtain ⟨h', e⟩ := shrink_some e; exact (h.auw b _ _ e).1
  · have := h.tl
    simp only at this
    rw [← this, l1, renL_map, List.length_map]
  · have hV' : args[i]? = some V := hV
    obtain ⟨V', e1, e2⟩ := l2 i (V.ren ρ) (by rw [renL_map, List.getElem?_map, hV']; rfl)
    obtain ⟨g1, g2⟩ := h.tm i V' v e1 hv
    have hr : RepS Φ B (V.ren ρ) v := by
      rcases e2 with e2 | e2 | e2 | e2
      · rw [e2]; exact g1
      · rw [e2]; exact .un _
      · rw [e2]; exact g1.cp
      · exact (e2.rep (au := au) (w := w) (hd := fun _ => .obj 0) g1).1
    obtain ⟨q1, q2⟩ := bare_of (List.all_eq_true.1 hbare V (List.mem_of_getElem? hV'))
    exact ⟨hr.unren hB (ltL_get hlt i V hV'), OwnV_of_cp q1 q2 _ _ _ _⟩
  · have hid : id < hp.length := (List.getElem?_eq_some_iff.1 ho).1
    have hρ := hs.get (i := id) (by rw [hs.len]; exact hid)
    have hbig := hs.ob id _ o hρ ho
    have hjB : ρ.getD id 0 < B.length := by
      have := h.hl; simp only at this
      rw [← this]; exact hs.bound hρ
    rw [List.getElem?_map, hρ] at hb
    simp only [Option.map_some, Option.some.injEq] at hb
    have hb' : B[ρ.getD id 0]? = some b := by
      rw [List.getElem?_eq_getElem hjB]
      rw [List.getD_eq_getElem?_getD (l := B), List.getElem?_eq_getElem hjB] at hb
      simpa using hb
    have hr := h.hp _ _ b hbig hb'
    exact hr.unren (ltObjs_get hs.lt id o ho) hB (fun e => shrink_obj hs.nd hρ e) (fun j b st e => shrink_cell hs.nd hρ e)

/-- the numbers behind a call -/
def renNew (ρ : List Nat) (n m : Nat) : List Nat := ρ ++ List.range' n m

def setObjs : List IObj → List Nat → List IObj → List IObj
  | h, j :: js, o :: os => setObjs (h.set j o) js os
  | h, _, _ => h

/-- the larger memory behind a call -/
def mergeHp (hpB : List IObj) (ρ : List Nat) (hp' : List IObj) : List IObj :=
  setObjs hpB ρ (hp'.map (IObj.ren (renNew ρ hpB.length (hp'.length - ρ.length)))) ++ (hp'.drop ρ.length).map (IObj.ren (renNew ρ hpB.length (hp'.length - ρ.length)))

theorem setObjs_length : ∀ (js : List Nat) (os : List IObj) (h : List IObj), (setObjs h js os).length = h.length
  | [], _, h => by simp [setObjs]
  | j :: js, [], h => rfl
  | j :: js, o :: os, h => by rw [setObjs, setObjs_length js os, List.length_set]

theorem setObjs_not : ∀ (js : List Nat) (os : List IObj) (h : List IObj) (k : Nat), k ∉ js → (setObjs h js os)[k]? = h[k]?
  | [], os, h, k, _ => by cases os <;> rfl
  | j :: js, [], h, k, _ => rfl
  | j :: js, o :: os, h, k, hk => by
    simp only [List.mem_cons, not_or] at hk
    rw [setObjs, setObjs_not js os _ k hk.2, List.getElem?_set, if_neg (Ne.symm hk.1)]

theorem setObjs_get : ∀ (js : List Nat) (os : List IObj) (h : List IObj) (i j : Nat) (o : IObj), js.Nodup → js[i]? = some j → os[i]? = some o → j < h.length → (setObjs h js os)[j]? = some o
  | [], os, h, i, j, o, _, hj, _, _ => by simp at hj
  | j0 :: js, [], h, i, j, o, _, _, ho, _ => by simp at ho
  | j0 :: js, o0 :: os, h, i, j, o, hnd, hj, ho, hlt => by
    rw [List.nodup_cons] at hnd
    cases i with
    | zero =>
      simp at hj ho; subst hj; subst ho
      rw [setObjs, setObjs_not js os _ _ hnd.1, List.getElem?_set, if_pos rfl, if_pos hlt]
    | succ i =>
      rw [setObjs]
      exact setObjs_get js os _ i j o hnd.2 (by simpa using hj) (by simpa using ho) (by simpa using hlt)

theorem Inv.unshrink {Φ' : CM} {B' : List Nat} {au' : Auth} {r : V} {v : Value} {hp' : List IObj} {n : Nat} {w' : World} (h : Inv (Ctx.at_ Φ B au w) Φ B au ⟨argsB, hpB, hpB.length⟩ ⟨cargs, []⟩ w) (hs : Sub ρ hp hpB)
    (g : Inv (Ctx.at_ Φ (ρ.map fun j => B.getD j 0) (shrinkAu ρ au) w) Φ' B' au' ⟨[r], hp', n⟩ ⟨#[v], []⟩ w') :
    Rel (Ctx.at_ Φ B au w) ⟨[r.ren (renNew ρ hpB.length (hp'.length - ρ.length))], mergeHp hpB ρ hp', hpB.length⟩ ⟨#[v], []⟩ w' := by
  have hBl : hpB.length = B.length := h.hl
  have hkl : ρ.length ≤ hp'.length := by
    have h1 := g.pre.length_le
    have h2 := g.hl
    simp only [Ctx.at_, List.length_map] at h1 h2
    rw [h2]; exact h1
  have hB'l : hp'.length = B'.length := g.hl
  generalize hρ' : renNew ρ hpB.length (hp'.length - ρ.length) = ρ' at *
  have hmine : ∀ b, (Ctx.at_ Φ (ρ.map fun j => B.getD j 0) (shrinkAu ρ au) w).mine b ↔ shrinkAu ρ au b ≠ none := fun b => Iff.rfl
  -- the blocks under the new numbers
  have hBB : ∀ (i b : Nat), B'[i]? = some b → (B ++ B'.drop ρ.length)[ρ'.getD i 0]? = some b := by
    intro i b e
    have hi : i < B'.length := (List.getElem?_eq_some_iff.1 e).1
    by_cases hik : i < ρ.length
    · have e1 : ρ'.getD i 0 = ρ.getD i 0 := by
        rw [← hρ', renNew, List.getD_eq_getElem?_getD, List.getElem?_append_left hik, ← List.getD_eq_getElem?_getD]
      have hj := hs.bound (hs.get hik)
      rw [e1, List.getElem?_append_left (by rw [← hBl]; exact hj)]
      obtain ⟨t, ht⟩ := g.pre
      simp only [Ctx.at_] at ht
      rw [← ht, List.getElem?_append_left (by simpa using hik), List.getElem?_map, hs.get hik] at e
      simp only [Option.map_some, Option.some.injEq] at e
      rw [List.getElem?_eq_getElem (by rw [← hBl]; exact hj)]
      rw [List.getD_eq_getElem?_getD (l := B), List.getElem?_eq_getElem (by rw [← hBl]; exact hj)] at e
      simpa using e
    · have e1 : ρ'.getD i 0 = hpB.length + (i - ρ.length) := by
        rw [← hρ', renNew, List.getD_eq_getElem?_getD, List.getElem?_append_right (by omega), List.getElem?_range' (by omega)]
        simp
      rw [e1, List.getElem?_append_right (by omega), List.getElem?_drop, hBl]
      rw [show ρ.length + (B.length + (i - ρ.length) - B.length) = i by omega]; exact e
  have hrid : ∀ (i : Nat), i < hp'.length → (mergeHp hpB ρ hp')[ρ'.getD i 0]? = (hp'[i]?).map (IObj.ren ρ') := by
    intro i hi
    unfold mergeHp
    rw [hρ']
    by_cases hik : i < ρ.length
    · have e1 : ρ'.getD i 0 = ρ.getD i 0 := by
        rw [← hρ', renNew, List.getD_eq_getElem?_getD, List.getElem?_append_left hik, ← List.getD_eq_getElem?_getD]
      have hj := hs.bound (hs.get hik)
      rw [e1, List.getElem?_append_left (by rw [setObjs_length]; exact hj), List.getElem?_eq_getElem hi]
      exact setObjs_get ρ _ _ i _ _ hs.nd (hs.get hik) (by rw [List.getElem?_map, List.getElem?_eq_getElem hi]; rfl) hj
    · have e1 : ρ'.getD i 0 = hpB.length + (i - ρ.length) := by
        rw [← hρ', renNew, List.getD_eq_getElem?_getD, List.getElem?_append_right (by omega), List.getElem?_range' (by omega)]
        simp
      rw [e1, List.getElem?_append_right (by rw [setObjs_length]; omega), setObjs_length, List.getElem?_map, List.getElem?_drop]
      rw [show ρ.length + (hpB.length + (i - ρ.length) - hpB.length) = i by omega]
  have hml : (mergeHp hpB ρ hp').length = hpB.length + (hp'.length - ρ.length) := by
    unfold mergeHp
    rw [List.length_append, setObjs_length, List.length_map, List.length_drop]
  let au2 : Auth := fun b => if b < w.heap.size ∧ shrinkAu ρ au b = none then au b else (au' b).map fun x => (x.1.ren ρ', x.2)
  have anew : ∀ b h0 st, au' b = some (h0, st) → au2 b = some (h0.ren ρ', st) := by
    intro b h0 st e
    have : ¬ (b < w.heap.size ∧ shrinkAu ρ au b = none) := by
      rintro ⟨h1, h2⟩
      rcases (g.auw b _ _ e).2 with x | x
      · exact x h2
      · exact absurd h1 (Nat.not_lt.2 x)
    simp only [au2]; rw [if_neg this, e]; rfl
  have aold : ∀ b h0 st, au b = some (h0, st) → shrinkAu ρ au b = none → au2 b = some (h0, st) ∧ w'.heap[b]? = w.heap[b]? := by
    intro b h0 st e hn
    have hlt := (h.auw b _ _ e).1
    refine ⟨by simp only [au2]; rw [if_pos ⟨hlt, hn⟩]; exact e, g.keep b hlt fun hm => hm hn⟩
  have ainv : ∀ b h0 st, au2 b = some (h0, st) → (b < w.heap.size ∧ shrinkAu ρ au b = none ∧ au b = some (h0, st)) ∨ ∃ h1, au' b = some (h1, st) := by
    intro b h0 st e
    simp only [au2] at e
    split at e
    · rename_i hc; exact .inl ⟨hc.1, hc.2, e⟩
    · rw [Option.map_eq_some_iff] at e
      obtain ⟨⟨h1, st1⟩, e1, e2⟩ := e
      injection e2 with _ e2; simp only at e2; subst e2; exact .inr ⟨_, e1⟩
  have hsome : ∀ b, shrinkAu ρ au b ≠ none → au b ≠ none := by
    intro b hb e
    apply hb; unfold shrinkAu; rw [e]
  refine ⟨Φ', B ++ B'.drop ρ.length, au2, { phi := g.phi, phia := fun lb b o v h0 st hp e => ?_, auw := fun b h0 st e => ?_, size := g.size, keep := fun b hb hm => g.keep b hb fun hm' => hm (hsome b hm'), pre := List.prefix_append _ _, lePhi := g.lePhi, tl := rfl, tm := fun i V u hV hu => ?_, hl := ?_, nb := ⟨by simp only [Ctx.at_]; rw [hBl]; exact Nat.le_refl _, by show hpB.length ≤ (mergeHp hpB ρ hp').length; rw [hml]; omega⟩, hp := fun id o b ho hb => ?_, df := ⟨[], rfl, List.nodup_nil, by simp⟩, rd := fun l hl => (by cases hl), lp := g.lp, src := fun lb b o v e => ?_, wo := g.wo }⟩
  · rcases ainv b h0 st e with ⟨h1, h2, h3⟩ | ⟨h1, e'⟩
    · rcases g.src _ b o v hp with x | x | x
      · exact h.phia _ b o v _ _ x h3
      · exact absurd h2 x
      · exact absurd h1 (Nat.not_lt.2 x)
    · exact g.phia _ b o v _ _ hp e'
  · rcases ainv b h0 st e with ⟨h1, h2, h3⟩ | ⟨h1, e'⟩
    · exact ⟨Nat.lt_of_lt_of_le h1 g.size, .inl (by simp only [Ctx.at_]; rw [h3]; simp)⟩
    · refine ⟨(g.auw b _ _ e').1, ?_⟩
      rcases (g.auw b _ _ e').2 with x | x
      · exact .inl (hsome b x)
      · exact .inr x
  · cases i with
    | succ i => simp at hV
    | zero =>
      simp at hV hu; subst hV; subst hu
      obtain ⟨k1, k2⟩ := g.tm 0 r v rfl rfl
      refine ⟨k1.ren hBB, k2.ren fun j b st e => ⟨?_, rfl⟩⟩
      exact anew b _ _ e
  · show (mergeHp hpB ρ hp').length = _
    rw [hml, List.length_append, List.length_drop, hBl, hB'l]
  · -- an object
    have ho' : (mergeHp hpB ρ hp')[id]? = some o := ho
    have small : ∀ i, i < hp'.length → id = ρ'.getD i 0 → RepO Φ' (B ++ B'.drop ρ.length) au2 w' id b o := by
      rintro i hi rfl
      rw [hrid i hi, List.getElem?_eq_getElem hi] at ho'
      simp only [Option.map_some, Option.some.injEq] at ho'
      subst ho'
      have hiB : i < B'.length := by rw [← hB'l]; exact hi
      have hbi := hBB i _ (List.getElem?_eq_getElem hiB)
      rw [hb] at hbi; injection hbi with hbi
      have hr := g.hp i _ b (List.getElem?_eq_getElem hi) (by rw [hbi]; exact List.getElem?_eq_getElem hiB)
      exact hr.ren (CM.le_refl _) hBB (fun e => ⟨anew b _ _ e, rfl⟩) (fun j b st e => ⟨anew b _ _ e, rfl⟩)
    by_cases hid : id < hpB.length
    · by_cases hmem : id ∈ ρ
      · obtain ⟨i, hi, rfl⟩ := List.getElem_of_mem hmem
        refine small i (by omega) ?_
        rw [← hρ', renNew, List.getD_eq_getElem?_getD, List.getElem?_append_left hi, List.getElem?_eq_getElem hi]; rfl
      · unfold mergeHp at ho'
        rw [List.getElem?_append_left (by rw [setObjs_length]; exact hid), setObjs_not _ _ _ _ hmem] at ho'
        rw [List.getElem?_append_left (by rw [← hBl]; exact hid)] at hb
        have hr := h.hp id o b ho' hb
        refine hr.mono g.lePhi (fun i b e => by rw [List.getElem?_append_left (List.getElem?_eq_some_iff.1 e).1]; exact e) (fun e => aold b _ _ e (shrink_obj_none hmem e)) (fun j b st e => aold b _ _ e (shrink_cell_none hmem e))
    · have hidl : id < hpB.length + (hp'.length - ρ.length) := by rw [← hml]; exact (List.getElem?_eq_some_iff.1 ho').1
      refine small (ρ.length + (id - hpB.length)) (by omega) ?_
      rw [← hρ', renNew, List.getD_eq_getElem?_getD, List.getElem?_append_right (by omega), List.getElem?_range' (by omega)]
      simp; omega
  · rcases g.src _ b o v e with x | x | x
    · exact .inl x
    · exact .inr (.inl (hsome b x))
    · exact .inr (.inr x)

/-- **A call in a larger memory.** -/
theorem callK_frame {f : FuncId} {K K' : V → List IObj → Prop} (h : CallK P f args hp K) (ρ : List Nat) (hs : Sub ρ hp hpB) (hlt : V.ltL hp.length args = true) (hbare : args.all V.bare = true) (ha : LeTm argsB (V.renL ρ args))
    (hk : ∀ r hp', K r hp' → K' (r.ren (renNew ρ hpB.length (hp'.length - ρ.length))) (mergeHp hpB ρ hp')) : CallK P f argsB hpB K' := by
  intro Φ B au w cargs hi
  refine (h Φ _ _ w cargs (hi.shrink hs hlt hbare ha)).mono ?_
  rintro e w' ⟨v, r, hp', rfl, hK, Φ', B', au', g⟩
  exact ⟨v, _, _, rfl, hk r hp' hK, hi.unshrink hs g⟩

/-- **A round in a larger memory.** -/
theorem roundK_frame {id : Nat} {K K' : V → List IObj → Prop} (h : RoundK P id args hp K) (ρ : List Nat) (hs : Sub ρ hp hpB) (hid : id < hp.length) (hlt : V.ltL hp.length args = true) (hbare : args.all V.bare = true) (ha : LeTm argsB (V.renL ρ args))
    (hk : ∀ r hp', K r hp' → K' (r.ren (renNew ρ hpB.length (hp'.length - ρ.length))) (mergeHp hpB ρ hp')) : RoundK P (ρ.getD id 0) argsB hpB K' := by
  intro Φ B au w cargs b hi hb
  have hρ := hs.get (i := id) (by rw [hs.len]; exact hid)
  obtain ⟨fn, tmps, asg, body, q1, q2⟩ := h Φ _ _ w cargs b (hi.shrink hs hlt hbare ha) (by
    rw [List.getElem?_map, hρ]; simp only [Option.map_some]
    rw [List.getD_eq_getElem?_getD (l := B), hb]; rfl)
  refine ⟨fn, tmps, asg, body, q1, RoundIn.mono q2 ?_⟩
  rintro e w' ⟨v, r, hp', rfl, hK, Φ', B', au', g⟩
  exact ⟨v, _, _, rfl, hk r hp' hK, hi.unshrink hs g⟩
end

/-! ### Slices that are lent -/
mutual
/-- nothing in it is lent -/
def D.permP : D → Prop
  | .sl l _ xs => l = false ∧ D.permL xs
  | .agg cs => D.permL cs
  | _ => True
def D.permL : List D → Prop
  | [] => True
  | d :: ds => D.permP d ∧ D.permL ds
end

theorem permL_mem : ∀ {ds : List D}, D.permL ds → ∀ d ∈ ds, d.permP
  | d :: ds, h, x, hx => by
    simp only [D.permL] at h
    rcases List.mem_cons.1 hx with rfl | hx
    · exact h.1
    · exact permL_mem h.2 x hx
theorem permL_of : ∀ {ds : List D}, (∀ d ∈ ds, d.permP) → D.permL ds
  | [], _ => by simp [D.permL]
  | d :: ds, h => by
    simp only [D.permL]
    exact ⟨h d (by simp), permL_of fun x hx => h x (by simp [hx])⟩
theorem permL_map {α : Type} {f : α → D} {l : List α} (h : ∀ x ∈ l, (f x).permP) : D.permL (l.map f) := permL_of fun d hd => by
  obtain ⟨x, hx, rfl⟩ := List.mem_map.1 hd; exact h x hx
theorem permP_flat {d : D} (h : d.permP) : D.permL d.flat := by
  cases d <;> simp_all [D.flat, D.permL, D.permP]

section
variable {Φ Ψ : CM}
mutual
theorem RepD.perm (h : ∀ b o v, Φ false b o = some v → Ψ false b o = some v) : ∀ {d : D} {v : Value}, d.permP → RepD Φ d v → RepD Ψ d v
  | _, _, _, .int k n => .int k n
  | _, _, _, .bool b => .bool b
  | _, _, _, .str b => .str b
  | _, _, _, .con v hv => .con v hv
  | _, _, hp, .agg hl => .agg (RepL.perm h (by simpa [D.permP] using hp) hl)
  | _, _, _, .sl0 => .sl0
  | .sl _ _ _, _, hp, .sl a b e => .sl a b (ElemsAt.perm h (by simp only [D.permP] at hp; exact hp.1) (by simp only [D.permP] at hp; exact hp.2) e)
theorem RepL.perm (h : ∀ b o v, Φ false b o = some v → Ψ false b o = some v) : ∀ {d : List D} {v : List Value}, D.permL d → RepL Φ d v → RepL Ψ d v
  | _, _, _, .nil => .nil
  | _, _, hp, .cons o a b => by
    simp only [D.permL] at hp
    exact .cons o (RepD.perm h hp.1 a) (RepL.perm h hp.2 b)
theorem ElemsAt.perm (h : ∀ b o v, Φ false b o = some v → Ψ false b o = some v) : ∀ {l : Bool} {z b o : Nat} {xs : List D}, l = false → D.permL xs → ElemsAt Φ l z b o xs → ElemsAt Ψ l z b o xs
  | _, _, _, _, _, _, _, .nil => .nil
  | _, _, _, _, _, hl, hp, .cons e c t => by
    simp only [D.permL] at hp
    exact .cons e (CellsAt.perm h hl (permP_flat hp.1) c) (ElemsAt.perm h hl hp.2 t)
theorem CellsAt.perm (h : ∀ b o v, Φ false b o = some v → Ψ false b o = some v) : ∀ {l : Bool} {b o : Nat} {ds : List D}, l = false → D.permL ds → CellsAt Φ l b o ds → CellsAt Ψ l b o ds
  | _, _, _, _, _, _, .nil => .nil
  | _, _, _, _, hl, hp, .cons e ok d t => by
    simp only [D.permL] at hp
    exact .cons (by subst hl; exact h _ _ _ e) ok (RepD.perm h hp.1 d) (CellsAt.perm h hl hp.2 t)
end
end

/-- nothing in it is lent -/
def V.permP : V → Prop
  | .d x => x.permP
  | .own _ xs => D.permL xs
  | .hold _ _ => True
  | .nil _ => True
  | .tup vs => ∀ v ∈ vs, (match v with | .d x => x.permP | .own _ xs => D.permL xs | .hold _ _ => True | .nil _ => True | _ => False)
  | _ => False

/-- a value, lent -/
def lend1 (hp : List IObj) : V → Option D
  | .ref id z off len cap => match hp[id]? with
    | some (.arr z' xs) => if z' = z ∧ 0 < z ∧ len ≤ cap ∧ off + cap ≤ xs.length then some (.sl true z ((xs.drop off).take len)) else none
    | _ => none
  | v => v.d?
def lendL1 (hp : List IObj) : List V → Option (List D)
  | [] => some []
  | v :: vs => match lend1 hp v, lendL1 hp vs with
    | some d, some ds => some (d :: ds)
    | _, _ => none
def lendV (hp : List IObj) : V → Option D
  | .st cs => (lendL1 hp cs).map .agg
  | v => lend1 hp v
def lendL (hp : List IObj) : List V → Option (List D)
  | [] => some []
  | v :: vs => match lendV hp v, lendL hp vs with
    | some d, some ds => some (d :: ds)
    | _, _ => none

theorem lendL1_get {hp : List IObj} : ∀ {vs : List V} {ds : List D}, lendL1 hp vs = some ds → vs.length = ds.length ∧ ∀ (j : Nat) d, ds[j]? = some d → ∃ v, vs[j]? = some v ∧ lend1 hp v = some d
  | [], _, h => by simp [lendL1] at h; subst h; simp
  | v :: vs, ds, h => by
    simp only [lendL1] at h
    split at h
    · rename_i x y e1 e2
      injection h with h; subst h
      obtain ⟨h1, h2⟩ := lendL1_get e2
      refine ⟨by simp [h1], fun j d hj => ?_⟩
      cases j with
      | zero => simp at hj; subst hj; exact ⟨v, rfl, e1⟩
      | succ j => simpa using h2 j d (by simpa using hj)
    · cases h
theorem lendL_get {hp : List IObj} : ∀ {vs : List V} {ds : List D}, lendL hp vs = some ds → vs.length = ds.length ∧ ∀ (j : Nat) d, ds[j]? = some d → ∃ v, vs[j]? = some v ∧ lendV hp v = some d
  | [], _, h => by simp [lendL] at h; subst h; simp
  | v :: vs, ds, h => by
    simp only [lendL] at h
    split at h
    · rename_i x y e1 e2
      injection h with h; subst h
      obtain ⟨h1, h2⟩ := lendL_get e2
      refine ⟨by simp [h1], fun j d hj => ?_⟩
      cases j with
      | zero => simp at hj; subst hj; exact ⟨v, rfl, e1⟩
      | succ j => simpa using h2 j d (by simpa using hj)
    · cases h

/-- a block of an array's -/
def ArrBlock (hp : List IObj) (au : Auth) (b : Nat) : Prop := ∃ id z xs, au b = some (.obj id, 0) ∧ hp[id]? = some (.arr z xs)

section
variable {P : Program} {κ : Ctx} {Φ Ψ : CM} {B : List Nat} {au : Auth} {s : St} {a : Act} {w : World} {hp : List IObj}

/-- what lies in an array, where its cells are known -/
theorem arr_elems (h : Inv κ Φ B au s a w) {l : Bool} {id z off len cap b : Nat} {xs : List D} {ad : Option Addr} (e : s.hp[id]? = some (.arr z xs)) (hz0 : 0 < z) (hlc : len ≤ cap) (hoc : off + len ≤ xs.length) (hr : RepS Φ B (.ref id z off len cap) (.slice ad len cap))
    (hle : Φ.le Ψ) (hΨ : ∀ b o v, ArrBlock s.hp au b → w.cell? ⟨b, o, none⟩ = some v → Ψ l b o = some v) : RepD Ψ (.sl l z ((xs.drop off).take len)) (.slice ad len cap) := by
  by_cases hl0 : len = 0
  · subst hl0; rw [List.take_zero]; exact .sl0
  · have hne : xs ≠ [] := by rintro rfl; simp at hoc; omega
    obtain ⟨b, c, el, hb, h1, h2, h3, h4⟩ := h.arrAt e hne
    cases hr with
    | ref0 => omega
    | ref hb' hle' had =>
      rw [hb] at hb'; injection hb' with hb'; subst hb'
      obtain rfl := had (by omega)
      have hlen : ((xs.drop off).take len).length = len := by simp; omega
      have hel : ElemsAt Ψ l z b (off * z) ((xs.drop off).take len) := by
        refine .of fun i x hi => ?_
        rw [List.getElem?_take] at hi
        split at hi
        · rw [List.getElem?_drop] at hi
          obtain ⟨g1, g2⟩ := h4 _ x hi
          refine ⟨g1, .of fun j d hj => ?_⟩
          obtain ⟨v, k1, k2, k3⟩ := g2 j d hj
          refine ⟨v, hΨ _ _ _ ⟨id, z, xs, h1, e⟩ ?_, k2, k3.mono hle⟩
          rw [cell_of h2, ← k1]; congr 1; rw [Nat.add_mul]
        · cases hi
      have := RepD.sl (Φ := Ψ) (cap := cap) (xs := (xs.drop off).take len) (by intro h0; rw [h0] at hlen; simp at hlen; omega) (by omega) hel
      rw [hlen] at this; exact this

/-- **A call of a function of data, to which slices are lent.** -/
theorem callK_lend {f : FuncId} {ds : List D} {args : List V} {r : V} {K : V → List IObj → Prop} (h : PCall P f ds r) (ha : lendL hp args = some ds) (hd : r.data = true) (hpm : r.permP) (hk : K r hp) : CallK P f args hp K := by
  obtain ⟨al, ag⟩ := lendL_get ha
  intro Φ B au w cargs hi
  classical
  let Ψ : CM := fun l b o => match Φ l b o with
    | some v => some v
    | none => if l = true ∧ ArrBlock hp au b then w.cell? ⟨b, o, none⟩ else none
  have hle : Φ.le Ψ := fun l b o v e => by simp only [Ψ, e]
  have hfalse : ∀ b o v, Ψ false b o = some v → Φ false b o = some v := fun b o v e => by
    simp only [Ψ] at e
    split at e
    · rename_i e'; rw [e']; exact e
    · simp at e
  have htrue : ∀ b o v, ArrBlock hp au b → w.cell? ⟨b, o, none⟩ = some v → Ψ true b o = some v := fun b o v hb e => by
    simp only [Ψ]
    split
    · rename_i e'
      have := hi.phi _ _ _ _ e'
      rw [this] at e; exact e
    · rw [if_pos (by simpa using hb)]; exact e
  have one : ∀ (V : V) (d : D) (v : Value), lend1 hp V = some d → RepS Φ B V v → RepD Ψ d v := by
    intro V d v e hr
    unfold lend1 at e
    split at e
    · rename_i id z off len cap
      split at e
      · rename_i z' xs ehp
        split at e
        · rename_i hc
          obtain ⟨rfl, hz0, hlc, hoc⟩ := hc
          injection e with e; subst e
          obtain ⟨ad, rfl⟩ : ∃ ad, v = .slice ad len cap := by cases hr <;> exact ⟨_, rfl⟩
          exact arr_elems (b := 0) hi ehp hz0 hlc (by omega) hr hle htrue
        · cases e
      · cases e
    · exact (rep_d? hr e).mono hle
  have h0 : Inv (Ctx.at_ Ψ [] (fun _ => none) w) Ψ [] (fun _ => none) ⟨ds.map V.d, [], ([] : List IObj).length⟩ ⟨cargs, []⟩ w := by
    refine { phi := fun lb b o v e => ?_, phia := fun _ _ _ _ _ _ _ e => (by cases e), auw := fun _ _ _ e => (by cases e), size := Nat.le_refl _, keep := fun _ _ _ => rfl, pre := List.prefix_refl _, lePhi := CM.le_refl _, tl := by have := hi.tl; simpa [al] using this, tm := fun i V v hV hv => ?_, hl := rfl, nb := ⟨Nat.le_refl _, Nat.le_refl _⟩, hp := fun id o b ho => (by simp at ho), df := ⟨[], rfl, List.nodup_nil, by simp⟩, rd := fun l hl => (by cases hl), lp := fun l r e => ⟨r, e⟩, src := fun lb b o v e => .inl e, wo := ⟨rfl, rfl, rfl⟩ }
    · simp only [Ψ] at e
      split at e
      · rename_i e'; injection e with e; subst e; exact hi.phi _ _ _ _ e'
      · split at e
        · exact e
        · cases e
    · have hV' : (ds.map Idl.V.d)[i]? = some V := hV
      simp only [List.getElem?_map, Option.map_eq_some_iff] at hV'
      obtain ⟨d, hd', rfl⟩ := hV'
      obtain ⟨V', e1, e2⟩ := ag i d hd'
      have hr := (hi.tm i V' v e1 hv).1
      refine ⟨.d ?_, trivial⟩
      unfold lendV at e2
      split at e2
      · rename_i cs
        rw [Option.map_eq_some_iff] at e2
        obtain ⟨es, e3, rfl⟩ := e2
        obtain ⟨q1, q2⟩ := lendL1_get e3
        cases hr with
        | st hl ok q =>
          obtain ⟨p1, p2⟩ := hl.get
          refine .agg (RepL.of (by omega) fun j d c hd hc => ?_)
          obtain ⟨U, u1, u2⟩ := q2 j d hd
          exact ⟨ok c (List.mem_of_getElem? hc), one U d c u2 (p2 j U c u1 hc)⟩
      · exact one _ d v e2 hr
  refine (h Ψ [] (fun _ => none) w cargs h0).mono ?_
  rintro e w' ⟨v, r', hp', rfl, rfl, Φ', B', au', g⟩
  let Φ2 : CM := fun l b o => if b < w.heap.size then Φ l b o else Φ' l b o
  have hlt : ∀ l b o v, Φ l b o = some v → b < w.heap.size := fun l b o v e => by
    have := hi.phi _ _ _ _ e
    unfold World.cell? at this
    cases e' : w.heap[b]? with
    | none => simp [e'] at this
    | some x => exact lt_of_heap e'
  have hle2 : Φ.le Φ2 := fun l b o v e => by simp only [Φ2]; rw [if_pos (hlt l b o v e)]; exact e
  have hf2 : ∀ b o v, Φ' false b o = some v → Φ2 false b o = some v := fun b o v e => by
    rcases g.src _ b o v e with x | x | x
    · exact hle2 _ _ _ _ (hfalse b o v x)
    · simp [Ctx.at_] at x
    · have x' : w.heap.size ≤ b := x
      simp only [Φ2]; rw [if_neg (Nat.not_lt.2 x')]; exact e
  refine ⟨v, r', hp, rfl, hk, Φ2, B, fun b => if b < w.heap.size then au b else match au' b with | some (.slot i j, st) => some (.slot i j, st) | _ => none, ?_⟩
  have hkeep : ∀ b, b < w.heap.size → w'.heap[b]? = w.heap[b]? := fun b hb => g.keep b hb (by simp [Ctx.at_])
  have hnew : ∀ b h0 st, au' b = some (h0, st) → ¬ b < w.heap.size := by
    intro b h0 st e
    rcases (g.auw b h0 st e).2 with x | x
    · simp [Ctx.at_] at x
    · exact Nat.not_lt.2 x
  have hau : ∀ b h0 st, au b = some (h0, st) → (if b < w.heap.size then au b else match au' b with | some (.slot i j, st) => some (.slot i j, st) | _ => none) = some (h0, st) := fun b h0 st e => by
    rw [if_pos (hi.auw b h0 st e).1]; exact e
  refine { phi := fun lb b o v e => ?_, phia := fun lb b o v h0 st hp e => ?_, auw := fun b h0 st e => ?_, size := g.size, keep := fun b hb _ => hkeep b hb, pre := List.prefix_refl _, lePhi := hle2, tl := rfl, tm := fun i V u hV hu => ?_, hl := hi.hl, nb := ⟨by have := hi.hl; simp only [Ctx.at_]; simp only at this; omega, Nat.le_refl _⟩, hp := fun id o b ho hb => ?_, df := ⟨[], rfl, List.nodup_nil, by simp⟩, rd := fun l hl => (by cases hl), lp := g.lp, src := fun lb b o v e => ?_, wo := g.wo }
  · simp only [Φ2] at e
    split at e
    · exact g.phi _ b o v (g.lePhi _ _ _ _ (hle _ _ _ _ e))
    · exact g.phi _ b o v e
  · simp only [Φ2] at hp
    split at e
    · rename_i hb; rw [if_pos hb] at hp; exact hi.phia _ b o v h0 st hp e
    · rename_i hb; rw [if_neg hb] at hp
      split at e
      · rename_i e'; injection e with e; injection e with e1 e2; subst e1; subst e2; exact g.phia _ b o v _ _ hp e'
      · cases e
  · split at e
    · rename_i hb; exact ⟨Nat.lt_of_lt_of_le hb g.size, .inl (by simp only [Ctx.at_]; rw [e]; simp)⟩
    · rename_i hb
      split at e
      · rename_i e'; exact ⟨(g.auw b _ _ e').1, .inr (Nat.le_of_not_lt hb)⟩
      · cases e
  · cases i with
    | succ i => simp at hV
    | zero =>
      simp at hV hu; subst hV; subst hu
      obtain ⟨k1, k2⟩ := g.tm 0 r' v rfl rfl
      refine ⟨?_, k2.mono fun j b st e => ⟨?_, rfl⟩⟩
      · cases k1 with
        | d x => exact .d (x.perm hf2 hpm)
        | own x => exact .own (x.perm hf2 (by simp only [D.permP]; exact ⟨trivial, hpm⟩))
        | hold a b => exact .hold a b
        | nil => exact .nil
        | tup hl =>
          obtain ⟨p1, p2⟩ := hl.get
          simp only [V.permP] at hpm
          refine .tup (RepSL.of p1 fun j V c hV hc => ?_)
          have hm := hpm V (List.mem_of_getElem? hV)
          have hr := p2 j V c hV hc
          cases hr with
          | d x => exact .d (x.perm hf2 hm)
          | own x => exact .own (x.perm hf2 (by simp only [D.permP]; exact ⟨trivial, hm⟩))
          | hold a b => exact .hold a b
          | nil => exact .nil
          | _ => exact hm.elim
        | _ => exact hpm.elim
      · rw [if_neg (hnew b _ _ e), e]
  · exact (hi.hp id o b ho hb).mono hle2 (fun _ _ h => h) (fun e => ⟨hau b _ _ e, hkeep b (hi.auw b _ _ e).1⟩) (fun j b st e => ⟨hau b _ _ e, hkeep b (hi.auw b _ _ e).1⟩)
  · simp only [Φ2] at e
    split at e
    · exact .inl e
    · rename_i hb; exact .inr (.inr (Nat.le_of_not_lt hb))

/-! ### Results that are frozen -/
/-- an array's slice, as data -/
def frz1 (hp : List IObj) : V → V
  | .ref id z off len cap => match hp[id]? with
    | some (.arr z' xs) => if z' = z ∧ 0 < z ∧ len ≤ cap ∧ off + len ≤ xs.length then .d (.sl false z ((xs.drop off).take len)) else .ref id z off len cap
    | _ => .ref id z off len cap
  | v => v
def frz2 (hp : List IObj) : V → V
  | .st cs => mkAgg (cs.map (frz1 hp))
  | v => frz1 hp v
def frzV (hp : List IObj) : V → V
  | .tup vs => .tup (vs.map (frz2 hp))
  | v => frz2 hp v

/-- data alone -/
def V.data1 : V → Bool
  | .d _ | .own _ _ | .nil _ => true
  | _ => false

/-- a result that says no more -/
inductive LeR : V → V → Prop
  | one {v u} : v.data1 = true → (u = v ∨ u = v.cp ∨ NilLe v u) → LeR v u
  | tup {vs us} : vs.length = us.length → (∀ (i : Nat) v u, vs[i]? = some v → us[i]? = some u → v.data1 = true ∧ (u = v ∨ u = v.cp ∨ NilLe v u)) → LeR (.tup vs) (.tup us)

/-- **A function of data, that makes what it answers.** -/
theorem fcall_frz {f : FuncId} {args : List V} {r : V} (h : CallK P f args [] fun r' hp' => LeR (frzV hp' r') r) : CallK P f args [] fun r' _ => r' = r := by
  intro Φ B au w cargs hi
  refine (h Φ B au w cargs hi).mono ?_
  rintro e w' ⟨v, r', hp', rfl, hle, Φ', B', au', g⟩
  classical
  let Ψ : CM := fun l b o => match Φ' l b o with
    | some v => some v
    | none => if ArrBlock hp' au' b then w'.cell? ⟨b, o, none⟩ else none
  have hleΨ : Φ'.le Ψ := fun l b o v e => by simp only [Ψ, e]
  have hΨ : ∀ l b o v, ArrBlock hp' au' b → w'.cell? ⟨b, o, none⟩ = some v → Ψ l b o = some v := fun l b o v hb e => by
    simp only [Ψ]
    split
    · rename_i e'
      have := g.phi _ _ _ _ e'
      rw [this] at e; exact e
    · rw [if_pos hb]; exact e
  let au2 : Auth := fun b => match au' b with | some (.slot i j, st) => some (.slot i j, st) | _ => none
  have hau2 : ∀ b h0 st, au2 b = some (h0, st) → au' b = some (h0, st) ∧ ∃ i j, h0 = .slot i j := fun b h0 st e => by
    simp only [au2] at e
    split at e
    · rename_i e'; injection e with e; injection e with e1 e2; subst e1; subst e2; exact ⟨e', _, _, rfl⟩
    · cases e
  have hslot : ∀ b i j st, au' b = some (.slot i j, st) → au2 b = some (.slot i j, st) := fun b i j st e => by simp only [au2, e]
  have c1 : ∀ (V : V) (v : Value) (hd : Nat → Nat), RepS Φ' B' V v → OwnV au' w' (fun j => .slot 0 (hd j)) V v → (frz1 hp' V).data1 = true → RepS Ψ B (frz1 hp' V) v ∧ OwnV au2 w' (fun j => .slot 0 (hd j)) (frz1 hp' V) v := by
    intro V v hd hr ho hdat
    cases V with
    | d x => cases hr with | d x => exact ⟨.d (x.mono hleΨ), trivial⟩
    | own z xs => cases hr with | own x => exact ⟨.own (x.mono hleΨ), OwnV.mono (V := .own z xs) ho fun j b st e => ⟨hslot b _ _ _ e, rfl⟩⟩
    | nil z => cases hr with | nil => exact ⟨.nil, trivial⟩
    | ref id z off len cap =>
      simp only [frz1] at hdat ⊢
      split at hdat
      · rename_i z' xs ehp
        split at hdat
        · rename_i hc
          rw [if_pos hc]
          obtain ⟨rfl, hz0, hlc, hoc⟩ := hc
          obtain ⟨ad, rfl⟩ : ∃ ad, v = .slice ad len cap := by cases hr <;> exact ⟨_, rfl⟩
          exact ⟨.d (arr_elems (b := 0) g ehp hz0 hlc hoc hr hleΨ (hΨ false)), trivial⟩
        · simp [V.data1] at hdat
      · simp [V.data1] at hdat
    | _ => simp [frz1, V.data1] at hdat
  have c2 : ∀ (V : V) (v : Value) (hd : Nat → Nat), RepS Φ' B' V v → OwnV au' w' (fun j => .slot 0 (hd j)) V v → (frz2 hp' V).data1 = true → RepS Ψ B (frz2 hp' V) v ∧ OwnV au2 w' (fun j => .slot 0 (hd j)) (frz2 hp' V) v := by
    intro V v hd hr ho hdat
    by_cases hst : ∃ cs, V = .st cs
    · obtain ⟨cs, rfl⟩ := hst
      simp only [frz2] at hdat ⊢
      unfold mkAgg at hdat ⊢
      cases e : allD (cs.map (frz1 hp')) with
      | none => rw [e] at hdat; simp [V.data1] at hdat
      | some es =>
        simp only
        obtain ⟨q1, q2⟩ := allD_get e
        cases hr with
        | st hl ok q =>
          obtain ⟨p1, p2⟩ := hl.get
          refine ⟨.d (.agg (RepL.of (by rw [← q1, List.length_map]; exact p1) fun j d c hd' hc => ⟨ok c (List.mem_of_getElem? hc), ?_⟩)), trivial⟩
          obtain ⟨U, u1, u2⟩ := q2 j d hd'
          rw [List.getElem?_map, Option.map_eq_some_iff] at u1
          obtain ⟨U', u1, rfl⟩ := u1
          have hcp := (q U' (List.mem_of_getElem? u1))
          have hU' : ∀ au w h, OwnV au w h U' c := OwnV_of_cp hcp.1 (by cases U' <;> simp_all [V.known, V.isTup]) |> fun f au w h => f au w h c
          have hdd : (frz1 hp' U').data1 = true := by
            generalize frz1 hp' U' = X at u2
            cases X <;> simp [V.d?] at u2 <;> rfl
          exact rep_d? (c1 U' c (fun j => j) (p2 j U' c u1 hc) (hU' _ _ _) hdd).1 u2
    · have e : frz2 hp' V = frz1 hp' V := by cases V <;> first | rfl | exact absurd ⟨_, rfl⟩ hst
      rw [e] at hdat ⊢
      exact c1 V v hd hr ho hdat
  have up : ∀ (X U : Idl.V) (v : Value) (hd : Nat → Nat), RepS Ψ B X v ∧ OwnV au2 w' (fun j => .slot 0 (hd j)) X v → (U = X ∨ U = X.cp ∨ NilLe X U) → RepS Ψ B U v ∧ OwnV au2 w' (fun j => .slot 0 (hd j)) U v := by
    rintro X U v hd ⟨h1, h2⟩ h
    rcases h with rfl | rfl | h
    · exact ⟨h1, h2⟩
    · exact ⟨h1.cp, OwnV_cp⟩
    · exact h.rep h1
  have hres : RepS Ψ B r v ∧ OwnV au2 w' (.slot 0) r v := by
    obtain ⟨k1, k2⟩ := g.tm 0 r' v rfl rfl
    generalize hq : frzV hp' r' = q at hle
    cases hle with
    | one hdat hu =>
      have e : frz2 hp' r' = q := by
        rw [← hq]
        cases r' <;> first | rfl | (simp [frzV] at hq; subst hq; simp [V.data1] at hdat)
      rw [← e] at hdat hu
      exact up _ _ _ (fun j => j) (c2 r' v (fun j => j) k1 k2 hdat) hu
    | tup hl hu =>
      rename_i vs us
      cases r' with
      | tup ws =>
        simp only [frzV, V.tup.injEq] at hq
        subst hq
        cases k1 with
        | tup hll =>
          rename_i cs
          obtain ⟨p1, p2⟩ := hll.get
          have comp : ∀ (j : Nat) U c, us[j]? = some U → cs[j]? = some c → RepS Ψ B U c ∧ OwnV au2 w' (fun _ => .slot 0 j) U c := by
            intro j U c hU hc
            have hj : j < ws.length := by
              have := (List.getElem?_eq_some_iff.1 hU).1
              simp at hl; omega
            have hW := List.getElem?_eq_getElem hj
            obtain ⟨d1, d2⟩ := hu j (frz2 hp' ws[j]) U (by rw [List.getElem?_map, hW]; rfl) hU
            refine up _ _ _ (fun _ => j) (c2 ws[j] c (fun _ => j) (p2 j _ c hW hc) ?_ d1) d2
            cases hWj : ws[j] with
            | own z xs => exact k2.1 j z xs cs.toArray c rfl (by rw [hW, hWj]) (by simpa using hc)
            | hold z xs => exact k2.2 j z xs cs.toArray c rfl (by rw [hW, hWj]) (by simpa using hc)
            | tup _ => rw [hWj] at d1; simp [frz2, frz1, V.data1] at d1
            | _ => trivial
          refine ⟨.tup (RepSL.of (by simp at hl; omega) fun j U c hU hc => (comp j U c hU hc).1), ?_⟩
          constructor <;>
          · rintro j z xs cs' c e hU hc
            injection e with e; subst e
            exact (comp j _ c hU (by simpa using hc)).2
      | st cs =>
        exfalso
        simp only [frzV, frz2] at hq
        unfold mkAgg at hq
        split at hq <;> cases hq
      | ref id z off len cap =>
        exfalso
        simp only [frzV, frz2, frz1] at hq
        split at hq
        · split at hq <;> cases hq
        · cases hq
      | _ => exfalso; simp [frzV, frz2, frz1] at hq
  have hB : B = [] := by
    have := hi.hl; simpa using this.symm
  subst hB
  refine ⟨v, r, [], rfl, rfl, Ψ, [], au2, { phi := fun lb b o v e => ?_, phia := fun lb b o v h0 st hp e => ?_, auw := fun b h0 st e => ?_, size := g.size, keep := g.keep, pre := List.prefix_refl _, lePhi := g.lePhi.trans hleΨ, tl := rfl, tm := fun i V u hV hu => ?_, hl := rfl, nb := ⟨Nat.le_refl _, Nat.le_refl _⟩, hp := fun id o b ho => (by simp at ho), df := ⟨[], rfl, List.nodup_nil, by simp⟩, rd := fun l hl => (by cases hl), lp := g.lp, src := fun lb b o v e => ?_, wo := g.wo }⟩
  · simp only [Ψ] at e
    split at e
    · rename_i e'; injection e with e; subst e; exact g.phi _ _ _ _ e'
    · split at e
      · exact e
      · cases e
  · obtain ⟨e1, i, j, rfl⟩ := hau2 b h0 st e
    simp only [Ψ] at hp
    split at hp
    · rename_i e'; injection hp with hp; subst hp; exact g.phia _ b o _ _ _ e' e1
    · split at hp
      · rename_i hA
        obtain ⟨id, z, xs, q1, _⟩ := hA
        rw [e1] at q1; cases q1
      · cases hp
  · exact g.auw b h0 st (hau2 b h0 st e).1
  · cases i with
    | succ i => simp at hV
    | zero => simp at hV hu; subst hV; subst hu; exact hres
  · simp only [Ψ] at e
    split at e
    · rename_i e'; injection e with e; subst e; exact g.src _ _ _ _ e'
    · split at e
      · rename_i hA
        obtain ⟨id, z, xs, q1, _⟩ := hA
        exact .inr (g.auw b _ _ q1).2
      · cases e
theorem pcall_frz {f : FuncId} {ds : List D} {r : V} (h : CallK P f (ds.map V.d) [] fun r' hp' => LeR (frzV hp' r') r) : PCall P f ds r := fcall_frz h
end

end Go.Idl
