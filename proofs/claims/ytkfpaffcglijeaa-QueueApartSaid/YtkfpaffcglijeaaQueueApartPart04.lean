/- One operation. Part 6: slices: slicing, literals, make, append.; One operation. Part 7: slicing, literals, make.; One operation. Part 8: literals of structs and slices, make, a string's byte. -/
import Derived.Laws.Append
import Derived.Test.YtkfpaffcglijeaaQueueApartPart03
set_option linter.all false
section
namespace Go.Idl

theorem flat_length {z : Nat} {xs : List D} (h : ∀ x ∈ xs, x.flat.length = z) : (xs.flatMap D.flat).length = xs.length * z := by
  induction xs with
  | nil => simp
  | cons x xs ih =>
    simp only [List.flatMap_cons, List.length_append, List.length_cons]
    rw [ih (fun y hy => h y (by simp [hy])), h x (by simp), Nat.add_mul]; omega

theorem CellsAt.append {Φ : CM} {lb : Bool} {b o : Nat} {ds es : List D} (h : CellsAt Φ lb b o ds) (h' : CellsAt Φ lb b (o + ds.length) es) : CellsAt Φ lb b o (ds ++ es) := by
  induction ds generalizing o with
  | nil => simpa using h'
  | cons d ds ih =>
    cases h with
    | cons e ok hd ht => exact .cons e ok hd (ih ht (by rw [show o + 1 + ds.length = o + (d :: ds).length by simp; omega]; exact h'))

theorem ElemsAt.flat {Φ : CM} {lb : Bool} {z b o : Nat} {xs : List D} (h : ElemsAt Φ lb z b o xs) : CellsAt Φ lb b o (xs.flatMap D.flat) ∧ ∀ x ∈ xs, x.flat.length = z := by
  induction xs generalizing o with
  | nil => exact ⟨.nil, by simp⟩
  | cons x xs ih =>
    cases h with
    | cons e c t =>
      obtain ⟨h1, h2⟩ := ih t
      refine ⟨?_, by simpa using ⟨e, h2⟩⟩
      rw [List.flatMap_cons]
      exact c.append (by rw [e]; exact h1)

theorem ElemsAt.ofFlat {Φ : CM} {lb : Bool} {z b o : Nat} {xs : List D} (h : CellsAt Φ lb b o (xs.flatMap D.flat)) (hz : ∀ x ∈ xs, x.flat.length = z) : ElemsAt Φ lb z b o xs := by
  induction xs generalizing o with
  | nil => exact .nil
  | cons x xs ih =>
    rw [List.flatMap_cons] at h
    have hx := hz x (by simp)
    refine .cons hx (CellsAt.of fun j d hj => ?_) (ih ?_ fun y hy => hz y (by simp [hy]))
    · exact h.get j d (by rw [List.getElem?_append_left (List.getElem?_eq_some_iff.1 hj).1]; exact hj)
    · refine CellsAt.of fun j d hj => ?_
      obtain ⟨c, h1, h2, h3⟩ := h.get (x.flat.length + j) d (by rw [List.getElem?_append_right (by omega)]; simpa using hj)
      exact ⟨c, by rw [← h1, hx]; congr 1; omega, h2, h3⟩

theorem ElemsAt.append {Φ : CM} {lb : Bool} {z b o : Nat} {xs ys : List D} (h : ElemsAt Φ lb z b o xs) (h' : ElemsAt Φ lb z b (o + xs.length * z) ys) : ElemsAt Φ lb z b o (xs ++ ys) := by
  obtain ⟨a1, a2⟩ := h.flat
  obtain ⟨b1, b2⟩ := h'.flat
  refine .ofFlat ?_ (fun x hx => by rcases List.mem_append.1 hx with e | e; exact a2 x e; exact b2 x e)
  rw [List.flatMap_append]
  exact a1.append (by rw [flat_length a2]; exact b1)

theorem ElemsAt.sub {Φ : CM} {lb : Bool} {z b o : Nat} {xs : List D} (h : ElemsAt Φ lb z b o xs) (l n : Nat) : ElemsAt Φ lb z b (o + l * z) ((xs.take n).drop l) := by
  refine .of fun i x hi => ?_
  rw [List.getElem?_drop, List.getElem?_take] at hi
  split at hi
  · obtain ⟨h1, h2⟩ := h.get _ x hi
    refine ⟨h1, ?_⟩
    rw [Nat.add_mul] at h2
    rw [Nat.add_assoc]; exact h2
  · cases hi

/-- A slice's elements, as cells. -/
theorem RepD.sl_inv {Φ : CM} {lb : Bool} {z : Nat} {xs : List D} {v : Value} (h : RepD Φ (.sl lb z xs) v) : ∃ a cap, v = .slice a xs.length cap ∧ xs.length ≤ cap ∧
    (xs ≠ [] → ∃ b o, a = some ⟨b, o, none⟩ ∧ ElemsAt Φ lb z b o xs) := by
  cases h with
  | sl0 => exact ⟨_, _, rfl, Nat.zero_le _, fun h => absurd rfl h⟩
  | sl h1 h2 h3 => exact ⟨_, _, rfl, h2, fun _ => ⟨_, _, rfl, h3⟩⟩

/-- cells, as a row of values -/
theorem RepL.cellsAt {Φ : CM} {lb : Bool} {b o : Nat} {ds : List D} {vs : List Value} (h : RepL Φ ds vs) (hc : ∀ (j : Nat) v, vs[j]? = some v → Φ lb b (o + j) = some v) : CellsAt Φ lb b o ds := by
  obtain ⟨h1, h2⟩ := h.get
  refine CellsAt.of fun j d hj => ?_
  have hj' : j < vs.length := by rw [← h1]; exact (List.getElem?_eq_some_iff.1 hj).1
  obtain ⟨a, b⟩ := h2 j d _ hj (List.getElem?_eq_getElem hj')
  exact ⟨_, hc j _ (List.getElem?_eq_getElem hj'), a, b⟩

section
variable {P : Program} {κ : Ctx} {Φ : CM} {B : List Nat} {au : Auth} {s : St} {a : Act} {w : World} {K : St → Prop} {o : Oper}

/-- The cells of a slice's elements are loaded. -/
theorem run_firstCells (h : Inv κ Φ B au s a w) {lb : Bool} {z : Nat} {xs : List D} {v : Value} (hr : RepD Φ (.sl lb z xs) v) :
    ∃ vs : List Value, (∀ w', Grows w w' → (Builtin.firstCells z xs.length v).run P w' = .ok vs.toArray w') ∧ RepL Φ (xs.flatMap D.flat) vs ∧ vs.length = xs.length * z ∧ ∀ v ∈ vs, okCell v := by
  obtain ⟨ad, cap, rfl, _, he⟩ := hr.sl_inv
  by_cases hne : xs = []
  · subst hne
    refine ⟨[], fun w' _ => ?_, .nil, by simp, by simp⟩
    cases ad with
    | none => rfl
    | some ad =>
      show (loadCells ad (0 * z)).run P w' = _
      rw [Nat.zero_mul]; rfl
  · obtain ⟨b, off, rfl, he'⟩ := he hne
    obtain ⟨hc, hz⟩ := ElemsAt.flat he'
    obtain ⟨vs, h1, h2, h3⟩ := hc.cells
    have hl : vs.length = xs.length * z := by rw [h1, flat_length hz]
    refine ⟨vs, fun w' g => ?_, h3, hl, fun v hv => ?_⟩
    · show (loadCells ⟨b, off, none⟩ (xs.length * z)).run P w' = _
      rw [← hl]; exact run_loadCells fun j v hj => g.cell (h.phi _ _ _ _ (h2 j v hj))
    · obtain ⟨j, hj, rfl⟩ := List.getElem_of_mem hv
      obtain ⟨q1, q2⟩ := h3.get
      have hj' : j < (xs.flatMap D.flat).length := by rw [q1]; exact hj
      exact (q2 j _ _ (List.getElem?_eq_getElem hj') (List.getElem?_eq_getElem hj)).1

/-- a map of cells with a row more -/
def CM.add (Φ : CM) (b o : Nat) (vs : List Value) : CM := fun lb b' o' => if b' = b ∧ o ≤ o' ∧ o' < o + vs.length then vs[o' - o]? else Φ lb b' o'

theorem CM.le_add {Φ : CM} {b o : Nat} {vs : List Value} (h : ∀ lb o' v, o ≤ o' → o' < o + vs.length → Φ lb b o' ≠ some v) : Φ.le (Φ.add b o vs) := by
  intro lb b' o' v e
  unfold CM.add
  rw [if_neg]; exact e
  rintro ⟨rfl, h1, h2⟩
  exact h lb o' v h1 h2 e

theorem CM.add_get {Φ : CM} {lb : Bool} {b o : Nat} {vs : List Value} (j : Nat) (v : Value) (h : vs[j]? = some v) : Φ.add b o vs lb b (o + j) = some v := by
  unfold CM.add
  have := (List.getElem?_eq_some_iff.1 h).1
  rw [if_pos ⟨rfl, by omega, by omega⟩, show o + j - o = j by omega]; exact h

/-- A block is laid whose first cells are immutable from now on and whose others are a slot's. -/
theorem Inv.lay (h : Inv κ Φ B au s a w) {el : TypeId} {vs rest : List Value} {z : Nat} {xs : List D} (hr : RepL Φ (xs.flatMap D.flat) vs) (hz : ∀ x ∈ xs, x.flat.length = z) (d cap : Nat) (hcap : xs.length ≤ cap) (hsz : vs.length + rest.length = cap * z) :
    ∃ Φ' au', Inv κ Φ' B au' (s.put (some d) (.own z xs)) (a.put (some d) (.slice (some ⟨w.heap.size, 0, none⟩) xs.length cap)) { w with heap := w.heap.push (.cells (vs ++ rest).toArray el (0, 0)) } := by
  have g := h.grow (Grows.push w (.cells (vs ++ rest).toArray el (0, 0)))
  have hnew : au w.heap.size = none := by
    cases e : au w.heap.size with
    | none => rfl
    | some x => exact absurd (h.auw _ _ _ e).1 (Nat.lt_irrefl _)
  have hΦ : ∀ lb o' v, Φ lb w.heap.size o' ≠ some v := by
    intro lb o' v e
    have := h.phi _ _ _ _ e
    unfold World.cell? at this
    simp at this
  have hlen : vs.length = xs.length * z := by rw [← hr.get.1, flat_length hz]
  have hle : Φ.le (Φ.add w.heap.size 0 vs) := CM.le_add fun lb o' v _ _ => hΦ lb o' v
  let au' : Auth := fun b => if b = w.heap.size then some (.slot d 0, vs.length) else au b
  have hau : ∀ b h0 st, au b = some (h0, st) → au' b = some (h0, st) := fun b h0 st e => by
    simp only [au']; rw [if_neg]; exact e
    rintro rfl; rw [hnew] at e; cases e
  have hrep : RepD (Φ.add w.heap.size 0 vs) (.sl false z xs) (.slice (some ⟨w.heap.size, 0, none⟩) xs.length cap) := by
    by_cases hne : xs = []
    · subst hne; exact .sl0
    · refine .sl hne hcap (.ofFlat ?_ hz)
      exact (hr.mono hle).cellsAt fun j v hj => CM.add_get j v hj
  have hnewb : ({ w with heap := w.heap.push (.cells (vs ++ rest).toArray el (0, 0)) } : World).heap[w.heap.size]? = some (.cells (vs ++ rest).toArray el (0, 0)) := by simp
  have i1 : Inv κ (Φ.add w.heap.size 0 vs) B au' s a { w with heap := w.heap.push (.cells (vs ++ rest).toArray el (0, 0)) } := by
    refine { g with phi := fun lb b o v e => ?_, phia := fun lb b o v h0 st hp e => ?_, auw := fun b h0 st e => ?_, lePhi := h.lePhi.trans hle, tm := fun i V v hV hv => ?_, hp := fun id o b ho hb => ?_, df := ?_, src := fun lb b o v e => ?_ }
    · unfold CM.add at e
      split at e
      · rename_i hc
        obtain ⟨rfl, _, h2⟩ := hc
        rw [cell_of hnewb]
        simp only [Nat.sub_zero] at e
        rw [List.getElem?_toArray, List.getElem?_append_left (List.getElem?_eq_some_iff.1 e).1]; exact e
      · exact g.phi _ b o v e
    · simp only [au'] at e
      split at e
      · rename_i eb; subst eb
        injection e with e; injection e with _ e; subst e
        unfold CM.add at hp
        split at hp
        · rename_i hc; omega
        · exact absurd hp (hΦ _ _ _)
      · rename_i eb
        unfold CM.add at hp
        rw [if_neg (fun hc => eb hc.1)] at hp
        exact h.phia _ b o v h0 st hp e
    · simp only [au'] at e
      split at e
      · rename_i eb; subst eb; exact ⟨by simp, .inr h.size⟩
      · exact g.auw b h0 st e
    · obtain ⟨k1, k2⟩ := g.tm i V v hV hv
      exact ⟨k1.mono hle (fun _ _ h => h), k2.mono fun j b st e => ⟨hau b _ st e, rfl⟩⟩
    · exact (g.hp id o b ho hb).mono hle (fun _ _ h => h) (fun e => ⟨hau b _ _ e, rfl⟩) (fun j b st e => ⟨hau b _ st e, rfl⟩)
    · obtain ⟨rs, h1, h2, h3⟩ := h.df
      refine ⟨rs, h1, h2, fun r hr => ?_⟩
      obtain ⟨x, y, z⟩ := h3 r hr
      have hlt := lt_of_heap x
      refine ⟨(Grows.push w _).same r hlt ▸ x, ?_, z⟩
      simp only [au']; rw [if_neg (by omega)]; exact y
    · unfold CM.add at e
      split at e
      · rename_i hc; right; right; rw [hc.1]; exact h.size
      · exact h.src _ b o v e
  refine ⟨_, au', i1.put (some d) (.own hrep) fun d' hd' => ?_⟩
  injection hd' with hd'; subst hd'
  refine ⟨_, _, _, rfl, .inr ⟨w.heap.size, 0, _, el, rfl, by simp only [au']; simp [hlen], hnewb, by simp; omega⟩⟩

theorem growsDrew {w : World} : Grows w { w with drawn := w.drawn + 1 } := Grows.drew w _

theorem zeroCells_size {zc : Array Value} {n : Nat} : (Builtin.zeroCells zc n).size = n * zc.size := by simp [Builtin.zeroCells]

/-- What was a slot's is another's, or begins later. -/
theorem Inv.reauth (h : Inv κ Φ B au s a w) {au' : Auth} {i : Nat} (h1 : ∀ b h st, au b = some (h, st) → h ≠ .slot i 0 → au' b = some (h, st))
    (h2 : ∀ b h st, au' b = some (h, st) → ∃ h0 st0, au b = some (h0, st0) ∧ st0 ≤ st) (hs : ∀ V, s.tm[i]? = some V → V.cp = V ∧ V.isTup = false) : Inv κ Φ B au' s a w := by
  have h3 : ∀ b, au b = none → au' b = none := fun b e => by
    cases e' : au' b with
    | none => rfl
    | some x => obtain ⟨h0, st0, e0, _⟩ := h2 b _ _ e'; rw [e] at e0; cases e0
  refine { h with phia := fun lb b o v h0 st hp ha => ?_, auw := fun b h0 st ha => ?_, tm := fun k V' v' hV hv => ?_, hp := fun id o b ho hb => ?_, df := ?_ }
  · obtain ⟨q, st0, e, hle⟩ := h2 b _ _ ha; exact Nat.lt_of_lt_of_le (h.phia _ b o v _ st0 hp e) hle
  · obtain ⟨q, st0, e, hle⟩ := h2 b _ _ ha; exact h.auw b _ st0 e
  · obtain ⟨k1, k2⟩ := h.tm k V' v' hV hv
    refine ⟨k1, ?_⟩
    by_cases ek : k = i
    · subst ek; exact OwnV_of_cp (hs V' hV).1 (hs V' hV).2 _ _ _ _
    · exact k2.mono fun j b st hh => ⟨h1 b _ st hh (by intro hh'; injection hh' with hh' _; exact ek hh'), rfl⟩
  · exact (h.hp id o b ho hb).mono (CM.le_refl _) (fun _ _ h => h) (fun hh => ⟨h1 b _ _ hh (by simp), rfl⟩) (fun j b st hh => ⟨h1 b _ _ hh (by simp), rfl⟩)
  · obtain ⟨rs, g1, g2, g3⟩ := h.df
    exact ⟨rs, g1, g2, fun r hr => let ⟨x, y, z⟩ := g3 r hr; ⟨x, h3 _ y, z⟩⟩

/-- A row of cells is written into a block behind what is immutable there, and is immutable from now on. -/
theorem Inv.extend (h : Inv κ Φ B au s a w) {b st0 : Nat} {hd : Holder} {c : Array Value} {el : TypeId} {vs : List Value} {w' : World} (ha : au b = some (hd, st0 + vs.length)) (hhd : ∀ id, hd ≠ .obj id)
    (hΦ : ∀ lb o' v, Φ lb b o' = some v → o' < st0) (hw : w.heap[b]? = some (.cells c el (0, 0))) (g : Writes w w' b c el st0 vs) (hfit : st0 + vs.length ≤ c.size)
    (htm : ∀ (i : Nat) V v, s.tm[i]? = some V → a.tmps[i]? = some v → OwnV au w' (.slot i) V v)
    (hcell : ∀ id j, hd ≠ .cell id j) : Inv κ (Φ.add b st0 vs) B au s a w' := by
  have hle : Φ.le (Φ.add b st0 vs) := CM.le_add fun lb o' v h1 h2 e => absurd (hΦ lb o' v e) (by omega)
  have hne : ∀ b' h0 st, au b' = some (h0, st) → h0 ≠ hd → w'.heap[b']? = w.heap[b']? := fun b' h0 st e hn => g.there b' (by rintro rfl; rw [ha] at e; injection e with e; injection e with e _; exact hn e.symm)
  obtain ⟨c', q1, q2, q3, q4⟩ := g.here
  refine { h with phi := fun lb b' o v e => ?_, phia := fun lb b' o v h0 st hp e => ?_, auw := fun b' h0 st e => ?_, size := by rw [g.size]; exact h.size, keep := fun b' hb' hm => ?_, lePhi := h.lePhi.trans hle, tm := fun i V v hV hv => ?_, hp := fun id' o b' ho hb' => ?_, df := ?_, rd := fun l hl' => ?_, lp := fun l r hl' => ?_, src := fun lb b' o v e => ?_, wo := ⟨g.tape.trans h.wo.1, g.os.trans h.wo.2.1, g.out.trans h.wo.2.2⟩ }
  · unfold CM.add at e
    split at e
    · rename_i hc
      obtain ⟨rfl, h1, h2⟩ := hc
      rw [cell_of q1, q3 o h1 h2]; exact e
    · by_cases eb : b' = b
      · subst eb
        have := hΦ lb o v e
        rw [cell_of q1, q4 o (.inl this), ← cell_of hw]; exact h.phi _ _ _ _ e
      · have hc := h.phi _ b' o v e
        unfold World.cell? at *
        simp only at hc ⊢
        rw [g.there b' eb]; exact hc
  · unfold CM.add at hp
    split at hp
    · rename_i hc
      obtain ⟨rfl, _, h2⟩ := hc
      rw [ha] at e; injection e with e; injection e with _ e; omega
    · exact h.phia _ b' o v h0 st hp e
  · rw [g.size]; exact h.auw b' h0 st e
  · rw [g.there b' ?_]; exact h.keep b' hb' hm
    rintro rfl
    rcases (h.auw _ _ _ ha).2 with x | x
    · exact hm x
    · omega
  · exact ⟨(h.tm i V v hV hv).1.mono hle (fun _ _ h => h), htm i V v hV hv⟩
  · exact (h.hp id' o b' ho hb').mono hle (fun _ _ h => h) (fun hh => ⟨hh, hne b' _ _ hh (Ne.symm (hhd _))⟩) (fun j b st hh => ⟨hh, hne b _ st hh (Ne.symm (hcell _ _))⟩)
  · obtain ⟨rs, k1, k2, k3⟩ := h.df
    refine ⟨rs, k1, k2, fun r hr => ?_⟩
    obtain ⟨x, y, z⟩ := k3 r hr
    exact ⟨(g.there r (by rintro rfl; rw [y] at ha; cases ha)).trans x, y, z⟩
  · obtain ⟨r, hr⟩ := h.rd l hl'
    have : l ≠ b := by rintro rfl; rw [hw] at hr; cases hr
    exact ⟨r, (g.there l this).trans hr⟩
  · obtain ⟨r, hr⟩ := h.lp l r hl'
    have : l ≠ b := by rintro rfl; rw [hw] at hr; cases hr
    exact ⟨r, (g.there l this).trans hr⟩
  · unfold CM.add at e
    split at e
    · rename_i hc; right; rw [hc.1]; exact (h.auw _ _ _ ha).2
    · exact h.src _ b' o v e

/-- append, where the first slice's spare room is a slot's own. -/
theorem run_append (h : Inv κ Φ B au s a w) {st xt : TypeId} {z y : Nat} {xs ys : List D} {v u : Value} {i0 : Nat} (hel : elI P st = some (z, y)) (hxt : (elemTy P xt).isSome = true) (hz0 : 0 < z) (hy0 : 0 < y)
    (hb : (xs.length + ys.length) * y ≤ 140737488355328) {lu : Bool} (hv : RepD Φ (.sl false z xs) v) (hu : RepD Φ (.sl lu z ys) u) (ht : TailOK au w (.slot i0 0) z v) (hs : ∀ V, s.tm[i0]? = some V → V.cp = V ∧ V.isTup = false) (d : Nat) {rt : TypeId} :
    ∃ r w', (Builtin.append_ #[st, xt] rt #[v, u]).run P w = .ok r w' ∧ ∃ Φ' au', Inv κ Φ' B au' (s.put (some d) (.own z (xs ++ ys))) (a.put (some d) r) w' := by
  obtain ⟨el, i, zv, hu1, hi, hzv, hsz, hby, hzs⟩ := elI_inv hel
  obtain ⟨ad, cap, rfl, hcap, hxs⟩ := hv.sl_inv
  obtain ⟨ad2, cap2, rfl, hcap2, hys⟩ := hu.sl_inv
  obtain ⟨vs, g1, g2, g3, g4⟩ := run_firstCells (P := P) h hu
  have hxu : ∃ e2, P.underlying xt = some (.slice e2) := by
    unfold elemTy at hxt
    cases hq : P.underlying xt with
    | none => simp [hq] at hxt
    | some d => cases d <;> simp [hq] at hxt; exact ⟨_, rfl⟩
  obtain ⟨e2, hxu⟩ := hxu
  have hysz : ∀ x ∈ ys, x.flat.length = z := by
    by_cases hne : ys = []
    · subst hne; simp
    · obtain ⟨_, _, _, he⟩ := hys hne; exact he.flat.2
  have hxsz : ∀ x ∈ xs, x.flat.length = z := by
    by_cases hne : xs = []
    · subst hne; simp
    · obtain ⟨_, _, _, he⟩ := hxs hne; exact he.flat.2
  obtain ⟨us, k1, k2, k3, k4⟩ := run_firstCells (P := P) h hv
  subst hsz; subst hby
  by_cases hfit : xs.length + ys.length ≤ cap
  · -- there is room
    have hrun : ∀ w', (match ad with | some a => storeCells (a.add (xs.length * i.size)) vs | none => pure () : Sem Unit).run P w = .ok () w' →
        (Builtin.append_ #[st, xt] rt #[.slice ad xs.length cap, .slice ad2 ys.length cap2]).run P w = .ok (.slice ad (xs.length + ys.length) cap) w' := by
      intro w' hw'
      have hf := g1 w (Grows.refl w)
      cases ad <;> simp [Builtin.append_, run_underlying hu1, run_underlying hxu, run_sizeOf hi, Builtin.lenOf, hfit, hf] at hw' ⊢
      · exact hw'
      · rw [hw']; rfl
    obtain ⟨_, _, _, e, ht⟩ := ht
    injection e with e1 e2 e3
    subst e1; subst e2; subst e3
    by_cases hn : ys = []
    · subst hn
      have hvs : vs = [] := by
        have := g3; simp at this; exact this
      subst hvs
      let au' : Auth := fun b => match au b with
        | some (h, st) => if h = .slot i0 0 then some (.slot d 0, st) else some (h, st)
        | none => none
      have hi1 : Inv κ Φ B au' s a w := by
        refine h.reauth (i := i0) (fun b h st e hn => ?_) (fun b h st e => ?_) hs
        · simp only [au', e]; rw [if_neg hn]
        · simp only [au'] at e
          split at e
          · rename_i h' st' e'
            split at e <;> (injection e with e; injection e with e1 e2; subst e2; exact ⟨_, _, e', Nat.le_refl _⟩)
          · cases e
      refine ⟨_, w, hrun w (by cases ad <;> rfl), Φ, au', ?_⟩
      simp only [List.append_nil, List.length_nil, Nat.add_zero]
      refine hi1.slot d (.own hv) ⟨_, _, _, rfl, ht.imp id ?_⟩
      rintro ⟨b, off, c, elx, rfl, t1, t2, t3⟩
      exact ⟨b, off, c, elx, rfl, by simp only [au', t1]; simp, t2, t3⟩
    · have hpos : 0 < ys.length := List.length_pos_iff.2 hn
      rcases ht with ht | ⟨b, off, c, elx, rfl, t1, t2, t3⟩
      · omega
      have hmul : (xs.length + ys.length) * i.size ≤ cap * i.size := Nat.mul_le_mul_right _ hfit
      rw [Nat.add_mul] at hmul
      obtain ⟨w', m1, m2⟩ := run_storeCells (P := P) (off := off + xs.length * i.size) vs 0 w c t2 (by rw [g3]; omega) g4
      have m2' : Writes w w' b c elx (off + xs.length * i.size) vs := m2
      let au' : Auth := fun b' => if b' = b then some (.slot d 0, off + (xs.length + ys.length) * i.size) else au b'
      have hst : off + xs.length * i.size + vs.length = off + (xs.length + ys.length) * i.size := by rw [g3, Nat.add_mul]; omega
      have hi1 : Inv κ Φ B au' s a w := by
        refine h.reauth (i := i0) (fun b' h' st' e hn => ?_) (fun b' h' st' e => ?_) hs
        · simp only [au']; rw [if_neg]; exact e
          rintro rfl; rw [t1] at e; injection e with e; injection e with e _; exact hn e.symm
        · simp only [au'] at e
          split at e
          · rename_i eb; subst eb
            injection e with e; injection e with _ e; subst e
            exact ⟨_, _, t1, by rw [Nat.add_mul]; omega⟩
          · exact ⟨_, _, e, Nat.le_refl _⟩
      have hab : au' b = some (.slot d 0, off + xs.length * i.size + vs.length) := by simp [au', hst]
      have hΦ : ∀ lb o' v, Φ lb b o' = some v → o' < off + xs.length * i.size := fun lb o' v e => h.phia _ b o' v _ _ e t1
      -- the new value first, so that the place holds it when the block is written
      have hle : Φ.le (Φ.add b (off + xs.length * i.size) vs) := CM.le_add fun lb o' v h1 h2 e => absurd (hΦ lb o' v e) (by omega)
      have hi2 : Inv κ (Φ.add b (off + xs.length * i.size) vs) B au' { s with tm := s.tm.set d .un } { a with tmps := a.tmps.setIfInBounds d (.slice (some ⟨b, off, none⟩) (xs.length + ys.length) cap) } w' := by
        refine (hi1.slot d (.un _) trivial).extend hab (by simp) hΦ t2 m2' (by rw [hst, Nat.add_mul]; omega) (fun k V v hV hv => ?_) (by simp)
        obtain ⟨q1, q2⟩ := (hi1.slot d (.un (.slice (some ⟨b, off, none⟩) (xs.length + ys.length) cap)) trivial).tm k V v hV hv
        by_cases ek : k = d
        · subst ek
          have : V = .un := by
            have hV' : (s.tm.set k .un)[k]? = some V := hV
            rw [List.getElem?_set, if_pos rfl] at hV'
            split at hV'
            · injection hV' with hV'; exact hV'.symm
            · cases hV'
          subst this; trivial
        · refine q2.mono fun j b' st' e => ⟨e, m2'.there b' ?_⟩
          rintro rfl
          rw [hab] at e; injection e with e; injection e with e _; injection e with e _; exact ek e.symm
      have hnew : ElemsAt (Φ.add b (off + xs.length * i.size) vs) false i.size b (off + xs.length * i.size) ys :=
        .ofFlat ((g2.mono hle).cellsAt fun j v hj => CM.add_get j v hj) hysz
      have hxe : xs ≠ [] → ElemsAt (Φ.add b (off + xs.length * i.size) vs) false i.size b off xs := fun hne => by
        obtain ⟨b', o', e, he⟩ := hxs hne
        injection e with e; injection e with e1 e2 _; subst e1; subst e2
        exact he.mono hle
      have hrep : RepD (Φ.add b (off + xs.length * i.size) vs) (.sl false i.size (xs ++ ys)) (.slice (some ⟨b, off, none⟩) (xs.length + ys.length) cap) := by
        have : xs.length + ys.length = (xs ++ ys).length := by simp
        rw [this]
        refine .sl (by simp [hn]) (by simpa using hfit) ?_
        by_cases hne : xs = []
        · subst hne; simpa using hnew
        · exact (hxe hne).append hnew
      obtain ⟨c', q1, q2, q3, q4⟩ := m2'.here
      refine ⟨_, w', hrun w' (by simpa [addr_add] using m1), Φ.add b (off + xs.length * i.size) vs, au', ?_⟩
      have := hi2.slot d (V := .own i.size (xs ++ ys)) (v := .slice (some ⟨b, off, none⟩) (xs.length + ys.length) cap) (.own hrep) ⟨_, _, _, rfl, .inr ⟨b, off, c', elx, rfl, by simp only [au']; simp, q1, by rw [q2]; exact t3⟩⟩
      simpa [St.put, Act.put] using this
  · -- there is none
    have hgrow : cap < xs.length + ys.length := by omega
    have h48 := growslice_fits (need := xs.length + ys.length) (old := cap) (bytes := i.bytes) hgrow hb
    have h48' : ¬ (281474976710656 < Builtin.nextslicecap (xs.length + ys.length) cap * i.bytes) := by omega
    have hby0 : i.bytes ≠ 0 := by omega
    have hnc : xs.length + ys.length ≤ grownCap w (xs.length + ys.length) cap el := by unfold grownCap Question.cut; exact Nat.le_add_right _ _
    have hrun : (Builtin.append_ #[st, xt] rt #[.slice ad xs.length cap, .slice ad2 ys.length cap2]).run P w =
        .ok (.slice (some ⟨w.heap.size, 0, none⟩) (xs.length + ys.length) (grownCap w (xs.length + ys.length) cap el)) { w.drew with heap := w.heap.push (.cells (us ++ vs ++ (Builtin.zeroCells zv.cells (grownCap w (xs.length + ys.length) cap el - (xs.length + ys.length))).toList).toArray el (0, 0)) } := by
      have hf := g1 w.drew (Grows.drew w _)
      have hfo := k1 w.drew (Grows.drew w _)
      simp [Builtin.append_, run_underlying hu1, run_underlying hxu, run_typeInfo hi, run_sizeOf hi, run_zeroValue hi hzv, Builtin.lenOf, hfit, hby0, h48', Question.forced, hf, hfo, newRow]
      refine ⟨rfl, ?_⟩
      unfold World.alloc World.drew grownCap
      congr 2
      congr 1
      apply Array.ext'
      simp
    generalize hN : grownCap w (xs.length + ys.length) cap el = N at hnc hrun
    obtain ⟨Φ', au', hfin⟩ := (h.grow (Grows.drew w (w.drawn + 1))).lay (el := el) (vs := us ++ vs) (rest := (Builtin.zeroCells zv.cells (N - (xs.length + ys.length))).toList) (z := i.size) (xs := xs ++ ys)
      (by
        rw [List.flatMap_append]
        obtain ⟨a1, a2⟩ := k2.get
        obtain ⟨b1, b2⟩ := g2.get
        refine RepL.of (by simp [a1, b1]) fun j dd c hj hc => ?_
        by_cases hlt : j < us.length
        · rw [List.getElem?_append_left (by rw [a1]; exact hlt)] at hj
          rw [List.getElem?_append_left hlt] at hc
          exact a2 j dd c hj hc
        · rw [List.getElem?_append_right (by rw [a1]; omega)] at hj
          rw [List.getElem?_append_right (by omega)] at hc
          exact b2 _ dd c (by rw [← a1]; exact hj) hc)
      (fun x hx => by rcases List.mem_append.1 hx with e | e; exact hxsz x e; exact hysz x e) d N (by simpa using hnc)
      (by
        simp only [List.length_append, Array.length_toList, zeroCells_size, hzs, k3, g3]
        rw [← Nat.add_mul, ← Nat.add_mul]; congr 1; omega)
    rw [List.length_append] at hfin
    exact ⟨_, _, hrun, Φ', au', hfin⟩

end
end Go.Idl
end
section
namespace Go.Idl

section
variable {P : Program} {κ : Ctx} {Φ : CM} {B : List Nat} {au : Auth} {s : St} {a : Act} {w : World} {K : St → Prop} {o : Oper}

theorem sliceIx_run (h : Inv κ Φ B au s a w) {d n : Int} {x : Option Operand} (e : sliceIx P s d x = some n) : (∃ k y, x = some y ∧ a.eval y = .int k n) ∨ (x = none ∧ n = d) := by
  cases x with
  | none => simp [sliceIx] at e; exact .inr ⟨rfl, e.symm⟩
  | some y =>
    simp only [sliceIx] at e
    split at e
    · rename_i k m e2
      injection e with e; subst e
      exact .inl ⟨k, y, rfl, repD_int (ev_d h e2)⟩
    · cases e

theorem run_sliceBound {k : IntKind} {n : Int} {y : Nat} {c : BoundsCode} (h0 : 0 ≤ n) (h1 : n ≤ y) : (Instr.sliceBound (.int k n) y c).run P w = .ok n.toNat w := by
  unfold Instr.sliceBound
  simp only [asIntOf, pure_bind]
  rw [if_pos ⟨h0, h1⟩]; rfl

/-- the bounds of a slice expression -/
theorem run_sliceBounds (h : Inv κ Φ B au s a w) {b : Bool} {len cap : Nat} {lo hi mx : Option Operand} {l u m : Int} (hl : sliceIx P s 0 lo = some l) (hu : sliceIx P s len hi = some u)
    (hm : (mx = none ∧ m = cap) ∨ (sliceIx P s 0 mx = some m ∧ mx.isSome = true ∧ hi.isSome = true)) (h0 : 0 ≤ l) (h1 : l ≤ u) (h2 : u ≤ m) (h3 : m ≤ cap) :
    (Instr.sliceBounds b len cap (lo.map a.eval) (hi.map a.eval) (mx.map a.eval)).run P w = .ok (l.toNat, u.toNat, m.toNat) w := by
  unfold Instr.sliceBounds
  rcases hm with ⟨rfl, rfl⟩ | ⟨hm, hms, his⟩
  · rcases sliceIx_run h hu with ⟨k, y, rfl, ey⟩ | ⟨rfl, rfl⟩
    · rcases sliceIx_run h hl with ⟨kl, yl, rfl, eyl⟩ | ⟨rfl, rfl⟩
      · simp only [Option.map_some, Option.map_none, pure_bind, ey, eyl]
        rw [Sem.run_bind, run_sliceBound (by omega) (by omega)]; simp only [Result.andThen_ok]
        rw [Sem.run_bind, run_sliceBound (by omega) (by omega)]; simp only [Result.andThen_ok, Int.toNat_natCast]; rfl
      · simp only [Option.map_some, Option.map_none, pure_bind, ey]
        rw [Sem.run_bind, run_sliceBound (by omega) (by omega)]; simp only [Result.andThen_ok, Int.toNat_natCast]; rfl
    · rcases sliceIx_run h hl with ⟨kl, yl, rfl, eyl⟩ | ⟨rfl, rfl⟩
      · simp only [Option.map_some, Option.map_none, pure_bind, eyl]
        rw [Sem.run_bind, run_sliceBound (by omega) (by omega)]; simp only [Result.andThen_ok, Int.toNat_natCast]; rfl
      · simp only [Option.map_none, pure_bind, Int.toNat_natCast]; rfl
  · rcases sliceIx_run h hm with ⟨k, y, rfl, ey⟩ | ⟨rfl, rfl⟩
    · rcases sliceIx_run h hu with ⟨k', y', rfl, ey'⟩ | ⟨rfl, rfl⟩
      · rcases sliceIx_run h hl with ⟨kl, yl, rfl, eyl⟩ | ⟨rfl, rfl⟩
        · simp only [Option.map_some, ey, ey', eyl]
          rw [Sem.run_bind, run_sliceBound (by omega) h3]; simp only [Result.andThen_ok]
          rw [Sem.run_bind, run_sliceBound (by omega) (by omega)]; simp only [Result.andThen_ok]
          rw [Sem.run_bind, run_sliceBound (by omega) (by omega)]; rfl
        · simp only [Option.map_some, Option.map_none, ey, ey', pure_bind]
          rw [Sem.run_bind, run_sliceBound (by omega) h3]; simp only [Result.andThen_ok]
          rw [Sem.run_bind, run_sliceBound (by omega) (by omega)]; rfl
      · simp at his
    · simp at hms

theorem ElemsAt.addr {z b off l n : Nat} : ((some ⟨b, off, none⟩ : Option Addr).map (·.add (l * z))) = some ⟨b, off + l * z, none⟩ := by simp [addr_add]

/-- a bound that is 0 -/
theorem isZero_some {mx : Option Operand} (h : isZero mx = true) : ∃ k, mx = some (.const (.int k 0)) := by
  unfold isZero at h
  split at h
  · exact ⟨_, rfl⟩
  · cases h

/-- the slice expression, run -/
theorem run_sliceOp {t : TypeId} {x : Operand} {lo hi mx : Option Operand} {ty : TypeId} {i : TypeInfo} {ad : Option Addr} {len cap l u m : Nat} (ho : o.op = .slice t x lo hi mx) (hut : P.underlying t = some (.slice ty)) (hi' : P.info? ty = some i) (hv : a.eval x = .slice ad len cap)
    (hb : (Instr.sliceBounds true len cap (lo.map a.eval) (hi.map a.eval) (mx.map a.eval)).run P w = .ok (l, u, m) w) :
    (execOp a.eval o).run P w = .ok (.value (.slice (if m = l then ad else ad.map (·.add (l * i.size))) (u - l) (m - l))) w := by
  unfold execOp; rw [ho]; refine run_v ?_
  unfold Instr.sliceAt
  rw [Sem.run_bind, run_underlying hut]; simp only [Result.andThen_ok]
  unfold Instr.slice
  rw [Sem.run_bind, run_underlying hut]; simp only [Result.andThen_ok, hv]
  rw [Sem.run_bind, hb]; simp only [Result.andThen_ok]
  rw [Sem.run_bind, run_sizeOf hi']; rfl

theorem does_slice {t : TypeId} {x : Operand} {lo hi mx : Option Operand} {r : List Oper} (h : Inv κ Φ B au s a w) (ho : o.op = .slice t x lo hi mx) (hk : stepK P o r s K) : Does P κ o a w K := by
  simp only [stepK, ho] at hk
  unfold sliceK at hk
  split at hk
  · rename_i m0 z xs e
    split at hk
    · rename_i l u m el eu em
      obtain ⟨hz, hhi, h0, h1, h2, h3, hk⟩ := hk
      obtain ⟨ty, i, zv, hut, hi', _, hsz⟩ := elI_map hz
      have hr := ev_cp_d h e
      obtain ⟨ad, cap, hv, hcap, hxs⟩ := hr.sl_inv
      -- what comes
      have hlen : ((xs.take u.toNat).drop l.toNat).length = u.toNat - l.toNat := by simp; omega
      have main : ∀ (m' : Int) (hb : (Instr.sliceBounds true xs.length cap (lo.map a.eval) (hi.map a.eval) (mx.map a.eval)).run P w = .ok (l.toNat, u.toNat, m'.toNat) w) (hm : u ≤ m') (hmc : m' ≤ cap),
          ∃ v, (execOp a.eval o).run P w = .ok (.value v) w ∧ RepD Φ (.sl m0 z ((xs.take u.toNat).drop l.toNat)) v ∧ (u = m' → ∀ hd, TailOK au w hd z v) ∧ (m' = 0 → ∃ ad, v = .slice ad 0 0) := by
        intro m' hb hm hmc
        refine ⟨.slice (if m'.toNat = l.toNat then ad else ad.map (·.add (l.toNat * z))) (u.toNat - l.toNat) (m'.toNat - l.toNat), ?_, ?_, fun e hd => ⟨_, _, _, rfl, .inl (by rw [e])⟩, fun e => ?_⟩
        · have := run_sliceOp ho hut hi' hv hb
          rw [hsz] at this; exact this
        · by_cases hne : (xs.take u.toNat).drop l.toNat = []
          · rw [hne]
            rw [hne] at hlen
            simp at hlen
            rw [← hlen]; exact .sl0
          · have hpos : 0 < u.toNat - l.toNat := by rw [← hlen]; exact List.length_pos_iff.2 hne
            have hxne : xs ≠ [] := by rintro rfl; simp at hne
            obtain ⟨b, off, rfl, he⟩ := hxs hxne
            rw [if_neg (by omega), ElemsAt.addr (n := 0), ← hlen]
            refine .sl hne ?_ (he.sub _ _)
            rw [hlen]; omega
        · have e1 : u.toNat - l.toNat = 0 := by omega
          have e2 : m'.toNat - l.toNat = 0 := by omega
          rw [e1, e2]; exact ⟨_, rfl⟩
      cases mx with
      | none =>
        simp [sliceIx] at em; subst em
        obtain ⟨v, g1, g2, g3, _⟩ := main cap (run_sliceBounds h (m := cap) el eu (.inl ⟨rfl, rfl⟩) h0 h1 (by omega) (Int.le_refl _)) (by omega) (Int.le_refl _)
        simp only [isZero, Option.isSome_none, Bool.false_and, Bool.false_eq_true, if_false] at hk
        exact does_plain h g1 (.d g2) (fun _ => trivial) hk
      | some mo =>
        cases hi with
        | none => simp at hhi
        | some ho' =>
        obtain ⟨v, g1, g2, g3, g4⟩ := main m (run_sliceBounds h (m := m) el eu (.inr ⟨em, rfl, rfl⟩) h0 h1 h2 (by omega)) h2 (by omega)
        split at hk
        · rename_i hzr
          obtain ⟨k, hk'⟩ := isZero_some hzr
          injection hk' with hk'; subst hk'
          have hm0 : m = 0 := by simp [sliceIx, ev, constV, constD] at em; omega
          obtain ⟨ad', rfl⟩ := g4 hm0
          exact does_plain h g1 .nil (fun _ => trivial) hk
        · split at hk
          · rename_i hm0
            simp only [Option.isSome_some, Bool.true_and, Bool.not_eq_true'] at hm0
            subst hm0
            split at hk
            · rename_i heq
              exact does_plain h g1 (.own g2) (fun hd => g3 heq _) hk
            · exact does_plain h g1 (.d g2) (fun _ => trivial) hk
          · exact does_plain h g1 (.d g2) (fun _ => trivial) hk
    · exact hk.elim
  · rename_i z e
    split at hk
    · rename_i l u m el eu em
      obtain ⟨hz, hhi, rfl, rfl, rfl, hk⟩ := hk
      obtain ⟨ty, i, zv, hut, hi', _, hsz⟩ := elI_map hz
      have hr := (ev_rep (P := P) h t x).cp
      rw [e] at hr
      generalize hv : a.eval x = v at hr
      cases hr with
      | nil =>
        rename_i ad
        have hbnd := run_sliceBounds (P := P) h (b := true) (len := 0) (cap := 0) (m := 0) (lo := lo) (hi := hi) (mx := mx) el eu (by
          cases mx with
          | none => exact .inl ⟨rfl, rfl⟩
          | some mo => exact .inr ⟨em, rfl, by simpa using hhi⟩) (Int.le_refl _) (Int.le_refl _) (Int.le_refl _) (Int.le_refl _)
        exact does_plain h (run_sliceOp ho hut hi' hv hbnd) .nil (fun _ => trivial) hk
    · exact hk.elim
  · rename_i bs e
    split at hk
    · rename_i l u el eu
      obtain ⟨hut, h0, h1, h2, hk⟩ := hk
      have hr := repD_str (ev_cp_d h e)
      refine does_plain h ?_ (.d (.str _)) (fun _ => trivial) hk
      unfold execOp; rw [ho]; refine run_v ?_
      unfold Instr.sliceAt
      rw [Sem.run_bind, run_underlying hut]; simp only [Result.andThen_ok]
      unfold Instr.slice
      rw [Sem.run_bind, run_underlying hut]; simp only [Result.andThen_ok, hr, Option.map_none, Option.isSome_none, Bool.false_eq_true, if_false]
      have := run_sliceBounds (P := P) h (b := false) (len := bs.size) (cap := bs.size) (m := bs.size) (lo := lo) (hi := hi) (mx := none) el eu (.inl ⟨rfl, rfl⟩) h0 h1 (by omega) (Int.le_refl _)
      simp only [Option.map_none] at this
      rw [Sem.run_bind, this]; rfl
    · exact hk.elim
  · rename_i id z off len cap e
    split at hk
    · rename_i l u m el eu em
      obtain ⟨hz, hhi, h0, h1, h2, h3, hk⟩ := hk
      obtain ⟨ty, i, zv, hut, hi', _, hsz⟩ := elI_map hz
      have hr := (ev_rep (P := P) h t x).cp
      rw [e] at hr
      generalize hv : a.eval x = v at hr
      have hbnds : (mx = none ∧ m = cap) ∨ (sliceIx P s 0 mx = some m ∧ mx.isSome = true ∧ hi.isSome = true) := by
        cases mx with
        | none => simp [sliceIx] at em; exact .inl ⟨rfl, em.symm⟩
        | some mo => exact .inr ⟨em, rfl, by simpa using hhi⟩
      have hzero : isZero mx = true → m = 0 := fun hzr => by
        obtain ⟨k, hk'⟩ := isZero_some hzr
        subst hk'
        simp [sliceIx, ev, constV, constD] at em; omega
      cases hr with
      | ref0 =>
        have hl0 : l = 0 := by omega
        have hu0 : u = 0 := by omega
        have hm0 : m = 0 := by omega
        subst hl0; subst hu0; subst hm0
        rename_i ad
        have hbnd := run_sliceBounds (P := P) h (b := true) (len := 0) (cap := 0) (m := 0) (lo := lo) (hi := hi) (mx := mx) el eu hbnds h0 h1 (by omega) (Int.le_refl _)
        split at hk
        · exact does_plain h (run_sliceOp ho hut hi' hv hbnd) .nil (fun _ => trivial) hk
        · exact does_plain h (run_sliceOp ho hut hi' hv hbnd) .ref0 (fun _ => trivial) hk
      | ref hb hcap had =>
        rename_i b ad
        have hbnd := run_sliceBounds (P := P) h (b := true) (len := len) (cap := cap) (m := m) (lo := lo) (hi := hi) (mx := mx) el eu hbnds h0 h1 h2 h3
        split at hk
        · rename_i hzr
          have hm0 := hzero hzr
          have e1 : u.toNat - l.toNat = 0 := by omega
          have e2 : m.toNat - l.toNat = 0 := by omega
          have := run_sliceOp ho hut hi' hv hbnd
          rw [e1, e2] at this
          exact does_plain h this .nil (fun _ => trivial) hk
        · refine does_plain h (run_sliceOp ho hut hi' hv hbnd) (.ref hb (by omega) fun hpos => ?_) (fun _ => trivial) hk
          obtain rfl := had (by omega)
          rw [if_neg (by omega), ElemsAt.addr (n := 0), Nat.add_mul, hsz]
    · exact hk.elim
  · exact hk.elim

end
end Go.Idl
end
section
namespace Go.Idl

theorem flat_get {z : Nat} {xs : List D} (hz : ∀ x ∈ xs, x.flat.length = z) : ∀ (i j : Nat), j < z → (xs.flatMap D.flat)[i * z + j]? = (xs[i]?).bind (·.flat[j]?) := by
  induction xs with
  | nil => intro i j _; simp
  | cons x xs ih =>
    intro i j hj
    have hx := hz x (by simp)
    cases i with
    | zero => simp only [Nat.zero_mul, Nat.zero_add, List.flatMap_cons, List.getElem?_cons_zero, Option.bind_some]; rw [List.getElem?_append_left (by omega)]
    | succ i =>
      have := ih (fun y hy => hz y (by simp [hy])) i j hj
      rw [List.flatMap_cons, List.getElem?_append_right (by rw [Nat.add_mul]; omega), List.getElem?_cons_succ, ← this]
      congr 1; rw [Nat.add_mul]; omega

theorem fold_set (cs : List Value) (off : Nat) : ∀ (n : Nat) (arr : Array Value), ((cs.zipIdx n).foldl (fun (acc : Array Value) (p : Value × Nat) => acc.setIfInBounds (off + p.2) p.1) arr).size = arr.size ∧
    ∀ k, k < arr.size → ((cs.zipIdx n).foldl (fun (acc : Array Value) (p : Value × Nat) => acc.setIfInBounds (off + p.2) p.1) arr)[k]? = if off + n ≤ k ∧ k < off + n + cs.length then cs[k - (off + n)]? else arr[k]? := by
  induction cs with
  | nil => intro n arr; simp; intro k h1 h2 h3; omega
  | cons c cs ih =>
    intro n arr
    simp only [List.zipIdx_cons, List.foldl_cons]
    obtain ⟨h1, h2⟩ := ih (n + 1) (arr.setIfInBounds (off + n) c)
    refine ⟨by simpa using h1, fun k hk => ?_⟩
    rw [h2 k (by simpa using hk)]
    by_cases e : k = off + n
    · subst e
      rw [if_neg (by omega), if_pos (by simp)]
      simp [hk]
    · by_cases hr : off + (n + 1) ≤ k ∧ k < off + (n + 1) + cs.length
      · rw [if_pos hr, if_pos (by simp; omega)]
        obtain ⟨m, rfl⟩ : ∃ m, k = off + n + (m + 1) := ⟨k - (off + n) - 1, by omega⟩
        rw [show off + n + (m + 1) - (off + (n + 1)) = m by omega, show off + n + (m + 1) - (off + n) = m + 1 by omega]; simp
      · rw [if_neg hr, if_neg (by simp; omega), Array.getElem?_setIfInBounds, if_neg (Ne.symm e)]

theorem wrap_i64 {n : Int} (h0 : -9223372036854775808 ≤ n) (h1 : n ≤ 9223372036854775807) : IntKind.i64.wrap n = n := by
  have e : IntKind.i64.wrap n = (if (true && decide (n % 18446744073709551616 ≥ 9223372036854775808)) = true then n % 18446744073709551616 - 18446744073709551616 else n % 18446744073709551616) := rfl
  rw [e]; simp only [Bool.true_and, decide_eq_true_eq]
  split <;> omega

/-- the parts of a literal -/
inductive PartsRep (Φ : CM) (B : List Nat) : List (Nat × V) → List (Nat × Value) → Prop
  | nil : PartsRep Φ B [] []
  | cons {i v u ps us} : RepS Φ B v u → PartsRep Φ B ps us → PartsRep Φ B ((i, v) :: ps) ((i, u) :: us)

section
variable {P : Program} {κ : Ctx} {Φ : CM} {B : List Nat} {au : Auth} {s : St} {a : Act} {w : World} {K : St → Prop} {o : Oper}

/-- a part is laid into a row of cells -/
theorem fill_step {ds es : List D} {arr : Array Value} {u : Value} {d : D} {off : Nat} (hr : RepL Φ ds arr.toList) (hd : RepD Φ d u) (hl : off + d.flat.length ≤ ds.length) :
    RepL Φ (ds.take off ++ d.flat ++ ds.drop (off + d.flat.length)) (u.cells.zipIdx.foldl (fun (cs : Array Value) (c, j) => cs.setIfInBounds (off + j) c) arr).toList := by
  obtain ⟨h1, h2⟩ := hr.get
  obtain ⟨f1, f2⟩ := hd.flat.get
  have e : (u.cells.zipIdx.foldl (fun (cs : Array Value) (c, j) => cs.setIfInBounds (off + j) c) arr) = (u.cells.toList.zipIdx 0).foldl (fun (acc : Array Value) (p : Value × Nat) => acc.setIfInBounds (off + p.2) p.1) arr := by
    rw [← Array.foldl_toList, Array.toList_zipIdx]
  obtain ⟨g1, g2⟩ := fold_set u.cells.toList off 0 arr
  rw [e]
  refine RepL.of (by have := h1; simp [g1] at this ⊢; omega) fun k x c hx hc => ?_
  have hk : k < arr.size := by
    have := (List.getElem?_eq_some_iff.1 hc).1; simpa [g1] using this
  rw [Array.getElem?_toList, g2 k hk] at hc
  simp only [Nat.add_zero] at hc
  have hlen : u.cells.toList.length = d.flat.length := f1.symm
  by_cases ha : k < off
  · rw [List.append_assoc, List.getElem?_append_left (by simp; omega), List.getElem?_take, if_pos ha] at hx
    rw [if_neg (by omega)] at hc
    exact h2 k x c hx (by rw [Array.getElem?_toList]; exact hc)
  · by_cases hb : k < off + d.flat.length
    · rw [List.append_assoc, List.getElem?_append_right (by simp; omega), show (ds.take off).length = off by simp; omega, List.getElem?_append_left (by omega)] at hx
      rw [if_pos (by rw [hlen]; omega)] at hc
      exact f2 _ x c hx hc
    · rw [List.getElem?_append_right (by simp; omega), show (ds.take off ++ d.flat).length = off + d.flat.length by simp; omega, List.getElem?_drop, show off + d.flat.length + (k - (off + d.flat.length)) = k by omega] at hx
      rw [if_neg (by rw [hlen]; omega)] at hc
      exact h2 k x c hx (by rw [Array.getElem?_toList]; exact hc)

/-- cells, ideal and real, that own nothing -/
def CellsV (Φ : CM) (B : List Nat) (Vs : List V) (cs : List Value) : Prop := Vs.length = cs.length ∧ ∀ (j : Nat) V c, Vs[j]? = some V → cs[j]? = some c → okCell c ∧ V.known = true ∧ V.cp = V ∧ RepS Φ B V c

theorem flat_cells {V : V} {v : Value} (h : RepS Φ B V v) (hk : V.known = true) : CellsV Φ B V.cp.flat v.cells.toList := by
  have hc := h.cp
  have hcc := Idl.V.cp_cp V
  have hkk : V.cp.known = true := by rw [Idl.V.known_cp]; exact hk
  generalize V.cp = U at hc hcc hkk
  obtain ⟨f1, f2⟩ := flat_rep hc hkk
  refine ⟨by simpa using f1, fun j V' c hV hc' => ?_⟩
  obtain ⟨q1, q2, q3, _⟩ := f2 j V' c hV (by rw [← Array.getElem?_toList]; exact hc')
  refine ⟨q1, q2, ?_, q3⟩
  cases U with
  | d x =>
    have e : (Idl.V.d x).flat = x.flat.map .d := by cases x <;> rfl
    rw [e, List.getElem?_map, Option.map_eq_some_iff] at hV
    obtain ⟨_, _, rfl⟩ := hV; rfl
  | st vs =>
    cases hc with
    | st e ok q => exact (q V' (List.mem_of_getElem? hV)).1
  | _ =>
    cases j with
    | zero => simp [Idl.V.flat] at hV; subst hV; exact hcc
    | succ j => simp [Idl.V.flat] at hV

theorem fillV_step {ds es : List V} {arr : Array Value} {u : Value} {off : Nat} (hr : CellsV Φ B ds arr.toList) (hd : CellsV Φ B es u.cells.toList) (hl : off + es.length ≤ ds.length) :
    CellsV Φ B (ds.take off ++ es ++ ds.drop (off + es.length)) (u.cells.zipIdx.foldl (fun (cs : Array Value) (c, j) => cs.setIfInBounds (off + j) c) arr).toList := by
  obtain ⟨h1, h2⟩ := hr
  obtain ⟨f1, f2⟩ := hd
  have e : (u.cells.zipIdx.foldl (fun (cs : Array Value) (c, j) => cs.setIfInBounds (off + j) c) arr) = (u.cells.toList.zipIdx 0).foldl (fun (acc : Array Value) (p : Value × Nat) => acc.setIfInBounds (off + p.2) p.1) arr := by
    rw [← Array.foldl_toList, Array.toList_zipIdx]
  obtain ⟨g1, g2⟩ := fold_set u.cells.toList off 0 arr
  rw [e]
  refine ⟨by have := h1; simp [g1] at this ⊢; omega, fun k x c hx hc => ?_⟩
  have hk : k < arr.size := by
    have := (List.getElem?_eq_some_iff.1 hc).1; simpa [g1] using this
  rw [Array.getElem?_toList, g2 k hk] at hc
  simp only [Nat.add_zero] at hc
  have hlen : u.cells.toList.length = es.length := f1.symm
  by_cases ha : k < off
  · rw [List.append_assoc, List.getElem?_append_left (by simp; omega), List.getElem?_take, if_pos ha] at hx
    rw [if_neg (by omega)] at hc
    exact h2 k x c hx (by rw [Array.getElem?_toList]; exact hc)
  · by_cases hb : k < off + es.length
    · rw [List.append_assoc, List.getElem?_append_right (by simp; omega), show (ds.take off).length = off by simp; omega, List.getElem?_append_left (by omega)] at hx
      rw [if_pos (by rw [hlen]; omega)] at hc
      exact f2 _ x c hx hc
    · rw [List.getElem?_append_right (by simp; omega), show (ds.take off ++ es).length = off + es.length by simp; omega, List.getElem?_drop, show off + es.length + (k - (off + es.length)) = k by omega] at hx
      rw [if_neg (by rw [hlen]; omega)] at hc
      exact h2 k x c hx (by rw [Array.getElem?_toList]; exact hc)

theorem fill_rep {place : Nat → Option (Nat × Nat)} : ∀ {ps : List (Nat × V)} {us : List (Nat × Value)} {ds ds' : List V} {arr : Array Value}, fillD place ds ps = some ds' → CellsV Φ B ds arr.toList →
    PartsRep Φ B ps us → ∃ arr', Instr.fill place arr us = some arr' ∧ CellsV Φ B ds' arr'.toList
  | [], us, ds, ds', arr, h, hr, hf => by
    cases hf; simp [fillD] at h; subst h
    exact ⟨arr, rfl, hr⟩
  | (i, v) :: ps, us, ds, ds', arr, h, hr, hf => by
    cases hf with
    | cons hu hf =>
      rename_i u us
      simp only [fillD] at h
      split at h
      · rename_i off size e1
        split at h
        · rename_i hc
          obtain ⟨hkn, hc1, hc2⟩ := hc
          have hd := flat_cells hu hkn
          have hstep := fillV_step hr hd (by rw [hc1]; exact hc2)
          rw [hc1] at hstep
          obtain ⟨arr', k1, k2⟩ := fill_rep h hstep hf
          refine ⟨arr', ?_, k2⟩
          unfold Instr.fill
          simp only [e1]
          have hcs : u.cells.size = size := by
            have := hd.1; rw [hc1] at this; simpa using this.symm
          have hds : ds.length = arr.size := by simpa using hr.1
          rw [if_neg (by simp [hcs]; omega)]
          exact k1
        · cases h
      · cases h

theorem CellsV.known {Vs : List V} {cs : List Value} (h : CellsV Φ B Vs cs) : allKnown Vs = true := by
  have aux : ∀ l : List Idl.V, (∀ (j : Nat) V, l[j]? = some V → V.known = true) → allKnown l = true := by
    intro l
    induction l with
    | nil => intro _; rfl
    | cons x l ih => intro h; simp only [allKnown, Bool.and_eq_true]; exact ⟨h 0 x rfl, ih fun j V hV => h (j + 1) V (by simpa using hV)⟩
  refine aux _ fun j V hV => ?_
  have hj : j < cs.length := by rw [← h.1]; exact (List.getElem?_eq_some_iff.1 hV).1
  exact (h.2 j V _ hV (List.getElem?_eq_getElem hj)).2.1

theorem fillEl_rep {z : Nat} (hz0 : 0 < z) : ∀ {ps : List (Nat × V)} {us : List (Nat × Value)} {xs xs' : List D} {arr : Array Value}, fillEl z xs ps = some xs' → RepL Φ (xs.flatMap D.flat) arr.toList → (∀ x ∈ xs, x.flat.length = z) →
    PartsRep Φ B ps us → ∃ arr', Instr.fill (fun i => some (i * z, z)) arr us = some arr' ∧ RepL Φ (xs'.flatMap D.flat) arr'.toList ∧ (∀ x ∈ xs', x.flat.length = z)
  | [], us, xs, xs', arr, h, hr, hx, hf => by
    cases hf; simp [fillEl] at h; subst h
    exact ⟨arr, rfl, hr, hx⟩
  | (i, v) :: ps, us, xs, xs', arr, h, hr, hx, hf => by
    cases hf with
    | cons hu hf =>
      rename_i u us
      simp only [fillEl] at h
      split at h
      · rename_i d e2
        split at h
        · rename_i hc
          obtain ⟨hc1, hc2⟩ := hc
          have hd := rep_d? hu e2
          have hmul : i * z + z ≤ xs.length * z := by
            have : (i + 1) * z ≤ xs.length * z := Nat.mul_le_mul_right z hc2
            rw [Nat.add_mul] at this; omega
          have hlen := flat_length hx
          have hstep := fill_step (es := []) (off := i * z) hr hd (by rw [hc1, hlen]; exact hmul)
          rw [hc1] at hstep
          have hx' : ∀ x ∈ xs.set i d, x.flat.length = z := fun x hxm => by
            rcases List.mem_or_eq_of_mem_set hxm with e | e
            · exact hx x e
            · subst e; exact hc1
          have e3 : (xs.flatMap D.flat).take (i * z) ++ d.flat ++ (xs.flatMap D.flat).drop (i * z + z) = (xs.set i d).flatMap D.flat := by
            have hget := flat_get hx
            apply List.ext_getElem?
            intro k
            obtain ⟨q, r, hr', rfl⟩ : ∃ q r, r < z ∧ k = q * z + r := ⟨k / z, k % z, Nat.mod_lt _ hz0, by rw [Nat.mul_comm]; exact (Nat.div_add_mod k z).symm⟩
            rw [flat_get hx' q r hr', List.getElem?_set]
            clear hr hstep
            generalize xs.flatMap D.flat = F at hlen hget
            by_cases ha : q < i
            · have : (q + 1) * z ≤ i * z := Nat.mul_le_mul_right z ha
              rw [Nat.add_mul] at this
              rw [List.append_assoc, List.getElem?_append_left (by simp; omega), List.getElem?_take, if_pos (by omega), hget q r hr', if_neg (by omega)]
            · by_cases hb : q = i
              · subst hb
                rw [List.append_assoc, List.getElem?_append_right (by simp; omega), show (F.take (q * z)).length = q * z by simp; omega, List.getElem?_append_left (by rw [hc1]; omega), if_pos rfl, if_pos hc2]
                simp only [Option.bind_some]
                congr 1; omega
              · have : (i + 1) * z ≤ q * z := Nat.mul_le_mul_right z (by omega)
                rw [Nat.add_mul] at this
                rw [List.getElem?_append_right (by simp; omega), show (F.take (i * z) ++ d.flat).length = i * z + z by simp [hc1]; omega, List.getElem?_drop, show i * z + z + (q * z + r - (i * z + z)) = q * z + r by omega, hget q r hr', if_neg (Ne.symm hb)]
          rw [e3] at hstep
          obtain ⟨arr', k1, k2, k3⟩ := fillEl_rep hz0 h hstep hx' hf
          refine ⟨arr', ?_, k2, k3⟩
          unfold Instr.fill
          simp only
          have hcs : u.cells.size = z := by
            have := hd.flat.get.1; rw [hc1] at this; simpa using this.symm
          have hds : (xs.flatMap D.flat).length = arr.size := by simpa using hr.get.1
          rw [if_neg (by simp [hcs]; omega)]
          exact k1
        · cases h
      · cases h

theorem mapM_get {α β : Type} {f : α → Option β} : ∀ {l : List α} {m : List β}, l.mapM f = some m → l.length = m.length ∧ ∀ (j : Nat) y, m[j]? = some y → ∃ x, l[j]? = some x ∧ f x = some y
  | [], m, h => by simp at h; subst h; simp
  | x :: l, m, h => by
    rw [List.mapM_cons] at h
    cases e : f x with
    | none => simp [e] at h
    | some y =>
      cases e2 : l.mapM f with
      | none => simp [e, e2] at h
      | some m' =>
        simp [e, e2] at h; subst h
        obtain ⟨h1, h2⟩ := mapM_get e2
        refine ⟨by simp [h1], fun j y' hj => ?_⟩
        cases j with
        | zero => simp at hj; subst hj; exact ⟨x, rfl, e⟩
        | succ j => simpa using h2 j y' (by simpa using hj)

theorem zeroCs_rep {t : TypeId} {cs : List D} {i : TypeInfo} {zv : Value} (e : zeroCs P t = some cs) (hi : P.info? t = some i) (hz : i.zero = some zv) :
    ∀ (j : Nat) d, cs[j]? = some d → ∃ v, zv.cells[j]? = some v ∧ okCell v ∧ RepD Φ d v ∧ ∀ ds, d ≠ .agg ds := by
  unfold zeroCs at e
  simp only [hi, Option.bind_some, hz] at e
  intro j d hj
  obtain ⟨h1, h2⟩ := mapM_get e
  obtain ⟨⟨t', v⟩, h3, h4⟩ := h2 j d hj
  rw [List.getElem?_zip_eq_some] at h3
  refine ⟨v, by rw [← Array.getElem?_toList]; exact h3.2, (constD_rep (Φ := Φ) h4).2, (constD_rep h4).1, fun ds => ?_⟩
  rintro rfl
  simp only at h4
  unfold constD at h4
  split at h4 <;> simp at h4

theorem zero_rep {t : TypeId} {zd : D} {i : TypeInfo} {zv : Value} (e : (zeroCs P t).bind (ofCells P t) = some zd) (hi : P.info? t = some i) (hz : i.zero = some zv) (hl : zd.flat.length = zv.cells.size) : RepL Φ zd.flat zv.cells.toList := by
  cases e1 : zeroCs P t with
  | none => simp [e1] at e
  | some cs =>
    simp only [e1, Option.bind_some, ofCells] at e
    have hr := zeroCs_rep (Φ := Φ) e1 hi hz
    refine RepL.of (by simpa using hl) fun j d c hd hc => ?_
    have key : cs[j]? = some d := by
      split at e
      · injection e with e; subst e; exact hd
      · cases cs with
        | nil => simp at e
        | cons x cs =>
          simp at e; subst e
          obtain ⟨v, _, _, _, hna⟩ := hr 0 x rfl
          have : x.flat = [x] := by cases x <;> first | rfl | exact absurd rfl (hna _)
          rw [this] at hd
          cases j with
          | zero => simpa using hd
          | succ j => simp at hd
      · cases e
    obtain ⟨v, q1, q2, q3, _⟩ := hr j d key
    rw [Array.getElem?_toList, q1] at hc; injection hc with hc; subst hc
    exact ⟨q2, q3⟩

/-- so many zero values in a row -/
theorem zeros_rep {zd : D} {zc : Array Value} {n z : Nat} (hr : RepL Φ zd.flat zc.toList) (hz : zd.flat.length = z) (hz0 : 0 < z) :
    RepL Φ ((List.replicate n zd).flatMap D.flat) ((Array.range (n * z)).map (zc[· % zc.size]!)).toList := by
  obtain ⟨h1, h2⟩ := hr.get
  have hall : ∀ x ∈ List.replicate n zd, x.flat.length = z := fun x hx => by rw [(List.mem_replicate.1 hx).2]; exact hz
  have hzc : zc.size = z := by rw [← hz, h1]; simp
  refine RepL.of (by rw [flat_length hall]; simp) fun k d c hd hc => ?_
  obtain ⟨q, r, hr', rfl⟩ : ∃ q r, r < z ∧ k = q * z + r := ⟨k / z, k % z, Nat.mod_lt _ hz0, by rw [Nat.mul_comm]; exact (Nat.div_add_mod k z).symm⟩
  rw [flat_get hall q r hr', List.getElem?_replicate] at hd
  split at hd
  · simp only [Option.bind_some] at hd
    have hrz : r < zc.toList.length := by simp; omega
    simp at hc
    obtain ⟨m, hm, hc⟩ := hc
    have hm : q * z + r = m := by
      have := List.getElem?_eq_some_iff.1 hm; obtain ⟨_, h3⟩ := this; simpa using h3
    subst hm
    have e : (q * z + r) % zc.size = r := by rw [hzc, Nat.mul_comm, Nat.mul_add_mod, Nat.mod_eq_of_lt hr']
    rw [e] at hc
    have : zc.toList[r]? = some c := by
      rw [List.getElem?_eq_getElem hrz, ← hc]
      simp at hrz
      simp [hrz]
    exact h2 r d c hd this
  · simp at hd

theorem forall2_map {ps : List (Nat × Operand)} {t : Nat → TypeId} (h : Inv κ Φ B au s a w) : PartsRep Φ B (ps.map fun p => (p.1, ev P (t p.1) s p.2)) (ps.map fun p => (p.1, a.eval p.2)) := by
  induction ps with
  | nil => exact .nil
  | cons p ps ih => exact .cons (ev_rep h _ _) ih

theorem does_buildSlice {t : TypeId} {n : Nat} {ps : Array (Nat × Operand)} {r : List Oper} (h : Inv κ Φ B au s a w) (ho : o.op = .buildSlice t n ps) (hk : stepK P o r s K) : Does P κ o a w K := by
  simp only [stepK, ho] at hk
  split at hk
  · rename_i e z y e1 e2
    split at hk
    · rename_i zd ez
      split at hk
      · rename_i xs ex
        obtain ⟨hdst, hn, hzd, hz0, hk⟩ := hk
        obtain ⟨el, i, zv, hut, hi, hzv, hsz, hby, hzs⟩ := elI_inv e2
        have : e = el := by simp [elemTy, hut] at e1; exact e1.symm
        subst this
        have hz := zero_rep (Φ := Φ) ez hi hzv (by rw [hzd, hzs])
        have hzr := zeros_rep (n := n) hz hzd hz0
        obtain ⟨arr, k1, k2, k3⟩ := fillEl_rep (B := B) hz0 ex hzr (fun x hx => by rw [(List.mem_replicate.1 hx).2]; exact hzd) (forall2_map (P := P) (t := fun _ => e) (ps := ps.toList) h)
        have hxl : xs.length = n := by
          have aux : ∀ (ps : List (Nat × V)) (xs xs' : List D), fillEl z xs ps = some xs' → xs'.length = xs.length := by
            intro ps
            induction ps with
            | nil => intro xs xs' h; simp [fillEl] at h; rw [h]
            | cons p ps ih =>
              intro xs xs' h
              obtain ⟨i, v⟩ := p
              simp only [fillEl] at h
              split at h
              · split at h
                · rw [ih _ _ h]; simp
                · cases h
              · cases h
          rw [aux _ _ _ ex]; simp
        obtain ⟨d, hd⟩ := Option.isSome_iff_exists.1 hdst
        rw [hd] at hk
        obtain ⟨Φ', au', hfin⟩ := h.lay (el := e) (vs := arr.toList) (rest := []) (z := z) (xs := xs) k2 k3 d n (by omega) (by
          rw [← k2.get.1, flat_length k3, hxl]; simp)
        refine does_value (v := .slice (some ⟨w.heap.size, 0, none⟩) n n) ?_ hk ⟨Φ', B, au', by rw [hd]; simpa [hxl] using hfin⟩
        unfold execOp; rw [ho]; refine run_v ?_
        unfold Instr.buildSlice
        rw [Sem.run_bind, run_underlying hut]; simp only [Result.andThen_ok]
        rw [Sem.run_bind, run_sizeOf hi]; simp only [Result.andThen_ok, hsz]
        rw [if_neg (by omega)]
        have e9 : (ps.map fun (i, x) => (i, a.eval x)).toList = ps.toList.map fun p => (p.1, a.eval p.2) := by simp
        simp only [pure_bind]
        split
        · rename_i h0
          have hc0 : (Array.range (n * z)).map (fun x => (#[] : Array Value)[x % (#[] : Array Value).size]!) = (Array.range (n * z)).map (zv.cells[· % zv.cells.size]!) := by rw [h0]; simp
          rw [hc0, e9, k1]; rfl
        · rw [Sem.run_bind, run_zeroValue hi hzv]; simp only [Result.andThen_ok]
          rw [e9, k1]; rfl
      · exact hk.elim
    · exact hk.elim
  · exact hk.elim

/-- An array is laid. -/
theorem Inv.layArr (h : Inv κ Φ B au s a w) {el : TypeId} {c : Array Value} {z : Nat} {xs : List D} (hr : RepL Φ (xs.flatMap D.flat) c.toList) (hz : ∀ x ∈ xs, x.flat.length = z) :
    ∃ au', Inv κ Φ (B ++ [w.heap.size]) au' { s with hp := s.hp ++ [IObj.arr z xs] } a { w with heap := w.heap.push (.cells c el (0, 0)) } := by
  obtain ⟨au', g⟩ := h.alloc (cs := List.replicate c.size .un) (c := c) (el := el) (by simp) (fun j V v hV _ => by
    rw [List.getElem?_replicate] at hV
    split at hV
    · injection hV with hV; subst hV; exact ⟨fun h => by simp [Idl.V.known] at h, .un _, fun _ _ _ => trivial⟩
    · cases hV)
  refine ⟨au', ?_⟩
  have hb : (B ++ [w.heap.size])[s.hp.length]? = some w.heap.size := by rw [h.hl]; simp
  have hrep := g.hp s.hp.length (IObj.var (List.replicate c.size .un)) w.heap.size (by simp) hb
  obtain ⟨h1, _⟩ := hrep
  have e : ({ s with hp := s.hp ++ [IObj.arr z xs] } : St) = { s with hp := (s.hp ++ [IObj.var (List.replicate c.size .un)]).set s.hp.length (IObj.arr z xs) } := by simp
  rw [e]
  refine g.write (id := s.hp.length) (b := w.heap.size) hb h1 rfl (fun _ _ => rfl) rfl rfl rfl (fun r hr => ⟨r, hr⟩) ?_
  obtain ⟨q1, q2⟩ := hr.get
  refine fun _ => ⟨h1, c, el, by simp, by rw [← flat_length hz, q1]; simp, fun i x hx => ?_⟩
  have hxz := hz x (List.mem_of_getElem? hx)
  refine ⟨hxz, fun j d hd => ?_⟩
  have hj : j < z := by rw [← hxz]; exact (List.getElem?_eq_some_iff.1 hd).1
  have hg := flat_get hz i j hj
  rw [hx, Option.bind_some, hd] at hg
  have hlt : i * z + j < c.toList.length := by rw [← q1]; exact (List.getElem?_eq_some_iff.1 hg).1
  obtain ⟨a1, a2⟩ := q2 _ d _ hg (List.getElem?_eq_getElem hlt)
  exact ⟨c.toList[i * z + j], by rw [← Array.getElem?_toList]; exact List.getElem?_eq_getElem hlt, a1, a2⟩

theorem does_makeSlice {t : TypeId} {l c : Operand} {r : List Oper} (h : Inv κ Φ B au s a w) (ho : o.op = .makeSlice t l c) (hk : stepK P o r s K) : Does P κ o a w K := by
  simp only [stepK, ho] at hk
  split at hk
  · rename_i e z y k n k' m e1 e2 el ec
    split at hk
    · rename_i zd ez
      obtain ⟨hle, hn, hby, hnm, hzd, hz0, hk⟩ := hk
      obtain ⟨ty, i, zv, hut, hi, hzv, hsz, hyb, hzs⟩ := elI_inv e2
      have : e = ty := by simp [elemTy, hut] at e1; exact e1.symm
      subst this
      have hln := repD_int (ev_d h el)
      have hcn := repD_int (ev_d h ec)
      have hz := zero_rep (Φ := Φ) ez hi hzv (by rw [hzd, hzs])
      have hzr := zeros_rep (n := m.toNat) hz hzd hz0
      obtain ⟨au', hfin⟩ := h.layArr (el := e) (z := z) hzr (fun x hx => by rw [(List.mem_replicate.1 hx).2]; exact hzd)
      refine does_value (v := .slice (some ⟨w.heap.size, 0, none⟩) n.toNat m.toNat) ?_ hk ⟨Φ, _, au', hfin.put o.dst (.ref (b := w.heap.size) ?_ (by omega) fun _ => by rw [Nat.zero_mul]) fun _ _ => trivial⟩
      · unfold execOp; rw [ho]; refine run_v ?_
        have hw : IntKind.i64.wrap n = n := wrap_i64 (by omega) (by omega)
        have hw2 : IntKind.i64.wrap m = m := wrap_i64 (by omega) hnm
        subst hsz; subst hyb
        simp only [hln, hcn]
        unfold Instr.makeSlice
        rw [Sem.run_bind, run_underlying hut]; simp only [Result.andThen_ok, asInt, asIntOf, pure_bind]
        rw [Sem.run_bind, run_typeInfo hi]; simp only [Result.andThen_ok, hw, hw2]
        have c1 : decide (n < 0) = false := by simpa using hn
        have c0 : decide (m < 0) = false := by simp; omega
        have c2 : decide ((i.bytes : Int) * m > 2 ^ 48) = false := by simp; omega
        have c3 : decide (n > m) = false := by simp; omega
        simp only [c0, c1, c2, c3, Bool.or_self, Bool.false_eq_true, if_false]
        rw [Sem.run_bind, run_askRoom]; simp only [Result.andThen_ok]
        rw [Sem.run_bind, run_sizeOf hi]; simp only [Result.andThen_ok]
        split
        · rename_i h0
          have hc0 : (Array.range (m.toNat * i.size)).map (fun x => (#[] : Array Value)[x % (#[] : Array Value).size]!) = (Array.range (m.toNat * i.size)).map (zv.cells[· % zv.cells.size]!) := by rw [h0]; simp
          rw [hc0]; rfl
        · rw [Sem.run_bind, run_zeroValue hi hzv]; rfl
      · rw [h.hl]; simp
    · exact hk.elim
  · exact hk.elim

theorem run_places {fs : List Field} {pl : List (Nat × Nat)} (e : (fs.mapM fun f => (P.info? f.type).map fun i => (f.offset, i.size)) = some pl) :
    (fs.toArray.mapM fun f => (do pure (f.offset, ← sizeOf f.type) : Sem (Nat × Nat))).run P w = .ok pl.toArray w := by
  rw [List.mapM_toArray, Sem.run_map]
  have key : ∀ (fs : List Field) (pl : List (Nat × Nat)), (fs.mapM fun f => (P.info? f.type).map fun i => (f.offset, i.size)) = some pl → (fs.mapM fun f => (do pure (f.offset, ← sizeOf f.type) : Sem (Nat × Nat))).run P w = .ok pl w := by
    intro fs
    induction fs with
    | nil => intro pl e; simp at e; subst e; rfl
    | cons f fs ih =>
      intro pl e
      rw [List.mapM_cons] at e ⊢
      cases hi : P.info? f.type with
      | none => simp [hi] at e
      | some i =>
        cases e2 : (fs.mapM fun f => (P.info? f.type).map fun i => (f.offset, i.size)) with
        | none => simp [hi, e2] at e
        | some pl' =>
          simp [hi, e2] at e; subst e
          rw [Sem.run_bind, Sem.run_bind, run_sizeOf hi]; simp only [Result.andThen_ok, Sem.run_pure]
          rw [Sem.run_bind, ih pl' e2]; rfl
  rw [key fs pl e]; rfl

theorem does_build {t : TypeId} {ps : Array (Nat × Operand)} {r : List Oper} (h : Inv κ Φ B au s a w) (ho : o.op = .build t ps) (hk : stepK P o r s K) : Does P κ o a w K := by
  simp only [stepK, ho] at hk
  split at hk
  · rename_i pl z e1 e2
    split at hk
    · rename_i cs ecs
      obtain ⟨hl, hk⟩ := hk
      obtain ⟨fs, hut, e1⟩ : ∃ fs : Array Field, P.underlying t = some (.struct fs) ∧ (fs.toList.mapM fun f => (P.info? f.type).map fun i => (f.offset, i.size)) = some pl := by
        unfold placesD at e1
        split at e1
        · exact ⟨_, ‹_›, e1⟩
        · cases e1
      · obtain ⟨i, hi⟩ := info_of_underlying hut
        cases hz : i.zero with
        | none => simp [zeroCs, hi, hz] at e2
        | some zv =>
          have hzr := zeroCs_rep (Φ := Φ) e2 hi hz
          have hl' : z.length = zv.cells.size := by rw [hl, hi]; simp [hz]
          have hrl : CellsV Φ B (z.map V.d) zv.cells.toList := ⟨by simpa using hl', fun j V c hd hc => by
            simp only [List.getElem?_map, Option.map_eq_some_iff] at hd
            obtain ⟨d, hd, rfl⟩ := hd
            obtain ⟨v, q1, q2, q3, _⟩ := hzr j d hd
            rw [Array.getElem?_toList, q1] at hc; injection hc with hc; subst hc
            exact ⟨q2, rfl, rfl, .d q3⟩⟩
          have hp := forall2_map (P := P) (t := fun i => ((fieldOff P t i).map (·.2)).getD 0) (ps := ps.toList) h
          obtain ⟨arr, k1, k2⟩ := fill_rep (B := B) ecs hrl hp
          obtain ⟨r1, r2⟩ := mkAgg_rep (Φ := Φ) (B := B) (vs := arr.toList) k2.known k2.1 fun j V v hV hv => ⟨(k2.2 j V v hV hv).1, (k2.2 j V v hV hv).2.2.2⟩
          simp only [Array.toArray_toList] at r1
          refine does_plain h ?_ r1 (fun _ => r2 _ _ _ _) hk
          unfold execOp; rw [ho]; refine run_v ?_
          have e9 : (ps.map fun (i, x) => (i, a.eval x)).toList = ps.toList.map fun p => (p.1, a.eval p.2) := by simp
          unfold Instr.build
          rw [Sem.run_bind, run_zeroValue hi hz]; simp only [Result.andThen_ok, pure_bind]
          rw [Sem.run_bind, run_underlying hut]; simp only [Result.andThen_ok]
          have hpl := run_places (w := w) e1
          simp only [Array.toArray_toList] at hpl
          rw [Sem.run_bind, hpl]; simp only [Result.andThen_ok, e9]
          have e10 : (fun x : Nat => pl.toArray[x]?) = fun i : Nat => pl[i]? := by funext x; simp
          rw [e10, k1]; rfl
    · exact hk.elim
  · exact hk.elim

theorem does_index {t : TypeId} {x ix : Operand} {r : List Oper} (h : Inv κ Φ B au s a w) (ho : o.op = .index t x ix) (hk : stepK P o r s K) : Does P κ o a w K := by
  simp only [stepK, ho] at hk
  split at hk
  · rename_i bs k n e1 e2
    obtain ⟨hut, h0, h1, hk⟩ := hk
    have hs := repD_str (ev_d h e1)
    have hn := repD_int (ev_d h e2)
    refine does_plain h ?_ (.d (.int _ _)) (fun _ => trivial) hk
    unfold execOp; rw [ho]; refine run_v ?_
    simp only [hs, hn]
    unfold Instr.index
    simp only [asIntOf, pure_bind]
    rw [Sem.run_bind, run_underlying hut]; simp only [Result.andThen_ok]
    have hlt : n.toNat < bs.size := by omega
    rw [if_pos h0]
    have : bs[n.toNat]? = some bs[n.toNat]! := by
      rw [getElem?_pos bs n.toNat hlt, getElem!_pos bs n.toNat hlt]
    rw [this]; rfl
  · exact hk.elim

end
end Go.Idl
end
