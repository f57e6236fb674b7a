/- One operation. Part 11: slices that are changed in place.; Regions in the order of their text; code. -/
import Derived.Test.YtkfpaffcglijeaaQueueApartPart05
set_option linter.all false
section
namespace Go.Idl

section
variable {P : Program} {κ : Ctx} {Φ : CM} {B : List Nat} {au : Auth} {s : St} {a : Act} {w : World} {K : St → Prop} {o : Oper}

theorem RepL.append {ds es : List D} {cs fs : List Value} (h : RepL Φ ds cs) (h' : RepL Φ es fs) : RepL Φ (ds ++ es) (cs ++ fs) := by
  induction ds generalizing cs with
  | nil => cases h; simpa using h'
  | cons d ds ih => cases h with
    | cons a b c => exact .cons a b (ih c)

theorem RepL.take {ds : List D} {cs : List Value} (h : RepL Φ ds cs) (n : Nat) : RepL Φ (ds.take n) (cs.take n) := by
  induction n generalizing ds cs with
  | zero => exact .nil
  | succ n ih => cases h with
    | nil => exact .nil
    | cons a b c => exact .cons a b (ih c)

theorem RepL.drop {ds : List D} {cs : List Value} (h : RepL Φ ds cs) (n : Nat) : RepL Φ (ds.drop n) (cs.drop n) := by
  induction n generalizing ds cs with
  | zero => exact h
  | succ n ih => cases h with
    | nil => exact .nil
    | cons a b c => exact ih c

theorem flat_take {z : Nat} {xs : List D} (hz : ∀ x ∈ xs, x.flat.length = z) (n : Nat) : (xs.take n).flatMap D.flat = (xs.flatMap D.flat).take (n * z) := by
  induction n generalizing xs with
  | zero => simp
  | succ n ih =>
    cases xs with
    | nil => simp
    | cons x xs =>
      have hx := hz x (by simp)
      have hm : (n + 1) * z = z + n * z := by rw [Nat.add_mul]; omega
      rw [List.take_succ_cons, List.flatMap_cons, List.flatMap_cons, ih (fun y hy => hz y (by simp [hy])), List.take_append, hx, hm, List.take_of_length_le (l := x.flat) (by omega), Nat.add_sub_cancel_left]

theorem flat_drop {z : Nat} {xs : List D} (hz : ∀ x ∈ xs, x.flat.length = z) (n : Nat) : (xs.drop n).flatMap D.flat = (xs.flatMap D.flat).drop (n * z) := by
  induction n generalizing xs with
  | zero => simp
  | succ n ih =>
    cases xs with
    | nil => simp
    | cons x xs =>
      have hx := hz x (by simp)
      have hm : (n + 1) * z = z + n * z := by rw [Nat.add_mul]; omega
      rw [List.drop_succ_cons, List.flatMap_cons, ih (fun y hy => hz y (by simp [hy])), List.drop_append, hx, hm, List.drop_eq_nil_of_le (as := x.flat) (by omega), Nat.add_sub_cancel_left, List.nil_append]

/-- an array's block, as a row of cells -/
theorem Inv.arrFlat (h : Inv κ Φ B au s a w) {id z : Nat} {xs : List D} (e : s.hp[id]? = some (.arr z xs)) (hne : xs ≠ []) (hz0 : 0 < z) :
    ∃ b c el, B[id]? = some b ∧ au b = some (.obj id, 0) ∧ w.heap[b]? = some (.cells c el (0, 0)) ∧ c.size = xs.length * z ∧ (∀ x ∈ xs, x.flat.length = z) ∧ RepL Φ (xs.flatMap D.flat) c.toList := by
  obtain ⟨b, c, el, hb, h1, h2, h3, h4⟩ := h.arrAt e hne
  have hz : ∀ x ∈ xs, x.flat.length = z := fun x hx => by
    obtain ⟨i, hi, rfl⟩ := List.getElem_of_mem hx
    exact (h4 i _ (List.getElem?_eq_getElem hi)).1
  refine ⟨b, c, el, hb, h1, h2, h3, hz, RepL.of (by rw [flat_length hz, ← h3]; simp) fun k d v hd hv => ?_⟩
  obtain ⟨q, r, hr', rfl⟩ : ∃ q r, r < z ∧ k = q * z + r := ⟨k / z, k % z, Nat.mod_lt _ hz0, by rw [Nat.mul_comm]; exact (Nat.div_add_mod k z).symm⟩
  rw [flat_get hz q r hr'] at hd
  cases hx : xs[q]? with
  | none => simp [hx] at hd
  | some x =>
    simp [hx] at hd
    obtain ⟨_, g⟩ := h4 q x hx
    obtain ⟨v', m1, m2, m3⟩ := g r d hd
    rw [Array.getElem?_toList, m1] at hv; injection hv with hv; subst hv
    exact ⟨m2, m3⟩

theorem arrRep_of_flat {id b z : Nat} {xs : List D} {c : Array Value} {el : TypeId} (h1 : au b = some (.obj id, 0)) (h2 : w.heap[b]? = some (.cells c el (0, 0))) (hz : ∀ x ∈ xs, x.flat.length = z) (hr : RepL Φ (xs.flatMap D.flat) c.toList) : RepO Φ B au w id b (.arr z xs) := by
  obtain ⟨q1, q2⟩ := hr.get
  refine fun _ => ⟨h1, c, el, h2, by rw [← flat_length hz, q1]; simp, fun i x hx => ?_⟩
  have hxz := hz x (List.mem_of_getElem? hx)
  refine ⟨hxz, fun j d hd => ?_⟩
  have hj : j < z := by rw [← hxz]; exact (List.getElem?_eq_some_iff.1 hd).1
  have hg := flat_get hz i j hj
  rw [hx, Option.bind_some, hd] at hg
  have hlt : i * z + j < c.toList.length := by rw [← q1]; exact (List.getElem?_eq_some_iff.1 hg).1
  obtain ⟨a1, a2⟩ := q2 _ d _ hg (List.getElem?_eq_getElem hlt)
  exact ⟨c.toList[i * z + j], by rw [← Array.getElem?_toList]; exact List.getElem?_eq_getElem hlt, a1, a2⟩

/-- what a slice shows, read -/
theorem run_elems (h : Inv κ Φ B au s a w) {X : V} {v : Value} {z : Nat} {ys : List D} (e : elemsOf s X = some (z, ys)) (hz0 : 0 < z) (hr : RepS Φ B X v) :
    ∃ ad cap, v = .slice ad ys.length cap ∧ ∃ vs : List Value, (∀ (n : Nat) w', n ≤ ys.length → Grows w w' → (Builtin.firstCells z n v).run P w' = .ok (vs.take (n * z)).toArray w') ∧ RepL Φ (ys.flatMap D.flat) vs ∧ vs.length = ys.length * z ∧ (∀ x ∈ ys, x.flat.length = z) ∧ ∀ v ∈ vs, okCell v := by
  have data : ∀ {l : Bool}, RepD Φ (.sl l z ys) v → ∃ ad cap, v = .slice ad ys.length cap ∧ ∃ vs : List Value, (∀ (n : Nat) w', n ≤ ys.length → Grows w w' → (Builtin.firstCells z n v).run P w' = .ok (vs.take (n * z)).toArray w') ∧ RepL Φ (ys.flatMap D.flat) vs ∧ vs.length = ys.length * z ∧ (∀ x ∈ ys, x.flat.length = z) ∧ ∀ v ∈ vs, okCell v := by
    intro l hr
    obtain ⟨ad, cap, rfl, _, he⟩ := hr.sl_inv
    refine ⟨ad, cap, rfl, ?_⟩
    by_cases hne : ys = []
    · subst hne
      refine ⟨[], fun n w' hn _ => ?_, .nil, by simp, by simp, by simp⟩
      have : n = 0 := by simpa using hn
      subst this
      cases ad with
      | none => rw [Nat.zero_mul]; rfl
      | some ad =>
        show (loadCells ad (0 * z)).run P w' = _
        rw [Nat.zero_mul]; rfl
    · obtain ⟨b, off, rfl, he'⟩ := he hne
      obtain ⟨hc, hz⟩ := ElemsAt.flat he'
      obtain ⟨vs, h1, h2, h3⟩ := hc.cells
      have hl : vs.length = ys.length * z := by rw [h1, flat_length hz]
      refine ⟨vs, fun n w' hn g => ?_, h3, hl, hz, fun v hv => ?_⟩
      · show (loadCells ⟨b, off, none⟩ (n * z)).run P w' = _
        have hnl : (vs.take (n * z)).length = n * z := by
          rw [List.length_take, hl]
          have := Nat.mul_le_mul_right z hn; omega
        rw [← hnl]
        refine (run_loadCells fun j v hj => g.cell (h.phi _ _ _ _ (h2 j v ?_))).trans (by rw [hnl])
        rw [List.getElem?_take] at hj
        split at hj
        · exact hj
        · cases hj
      · obtain ⟨j, hj, rfl⟩ := List.getElem_of_mem hv
        obtain ⟨q1, q2⟩ := h3.get
        have hj' : j < (ys.flatMap D.flat).length := by rw [q1]; exact hj
        exact (q2 j _ _ (List.getElem?_eq_getElem hj') (List.getElem?_eq_getElem hj)).1
  unfold elemsOf at e
  split at e
  · injection e with e; injection e with e1 e2; subst e1; subst e2
    cases hr with | d hr => exact data hr
  · injection e with e; injection e with e1 e2; subst e1; subst e2
    cases hr with | own hr => exact data hr
  · injection e with e; injection e with e1 e2; subst e1; subst e2
    cases hr with | nil => exact data (l := false) .sl0
  · rename_i id z1 off len cap
    split at e
    · rename_i z' xs ehp
      split at e
      · rename_i hc
        obtain ⟨rfl, hlc, hoc⟩ := hc
        injection e with e; injection e with e1 e2; subst e1; subst e2
        have hlen : ((xs.drop off).take len).length = len := by simp; omega
        rw [hlen]
        by_cases hl0 : len = 0
        · subst hl0
          obtain ⟨ad, rfl⟩ : ∃ ad, v = .slice ad 0 cap := by cases hr <;> exact ⟨_, rfl⟩
          refine ⟨ad, cap, rfl, [], fun n w' hn _ => ?_, by simp; exact .nil, by simp, by simp, by simp⟩
          have : n = 0 := by omega
          subst this
          cases ad with
          | none => rw [Nat.zero_mul]; rfl
          | some ad =>
            show (loadCells ad (0 * z')).run P w' = _
            rw [Nat.zero_mul]; rfl
        · have hne : xs ≠ [] := by rintro rfl; simp at hoc; omega
          obtain ⟨b, c, el, hb, h1, h2, h3, hz, hrep⟩ := h.arrFlat ehp hne hz0
          cases hr with
          | ref0 => omega
          | ref hb' hle had =>
            rw [hb] at hb'; injection hb' with hb'; subst hb'
            obtain rfl := had (by omega)
            have hz' : ∀ x ∈ (xs.drop off).take len, x.flat.length = z' := fun x hx => hz x (List.mem_of_mem_drop (List.mem_of_mem_take hx))
            have hfl : ((xs.drop off).take len).flatMap D.flat = ((xs.flatMap D.flat).drop (off * z')).take (len * z') := by
              rw [flat_take (fun x hx => hz x (List.mem_of_mem_drop hx)), flat_drop hz]
            have hmul : (off + len) * z' ≤ xs.length * z' := Nat.mul_le_mul_right z' (by omega)
            rw [Nat.add_mul] at hmul
            have hvl : ((c.toList.drop (off * z')).take (len * z')).length = len * z' := by
              simp only [List.length_take, List.length_drop, Array.length_toList, h3]; omega
            refine ⟨_, _, rfl, (c.toList.drop (off * z')).take (len * z'), fun n w' hn g => ?_, by rw [hfl]; exact (hrep.drop _).take _, hvl, hz', fun v hv => ?_⟩
            · show (loadCells ⟨b, off * z', none⟩ (n * z')).run P w' = _
              have hmn := Nat.mul_le_mul_right z' hn
              have hnl : ((((c.toList.drop (off * z')).take (len * z'))).take (n * z')).length = n * z' := by
                rw [List.length_take, hvl]; omega
              conv => lhs; rw [← hnl]
              refine run_loadCells fun j v hj => ?_
              rw [List.getElem?_take] at hj
              split at hj
              · rw [List.getElem?_take] at hj
                split at hj
                · rw [List.getElem?_drop, Array.getElem?_toList] at hj
                  exact g.cell (by rw [cell_of h2]; exact hj)
                · cases hj
              · cases hj
            · obtain ⟨q1, q2⟩ := hrep.get
              have hv' := List.mem_of_mem_drop (List.mem_of_mem_take hv)
              obtain ⟨j, hj, rfl⟩ := List.getElem_of_mem hv'
              have hj' : j < (xs.flatMap D.flat).length := by rw [q1]; exact hj
              exact (q2 j _ _ (List.getElem?_eq_getElem hj') (List.getElem?_eq_getElem hj)).1
      · cases e
    · cases e
  · cases e

/-- A row of elements is written into an array. -/
theorem Inv.writeArr (h : Inv κ Φ B au s a w) {id z n : Nat} {xs ys : List D} {vs : List Value} {b : Nat} {c : Array Value} {el : TypeId} {w' : World} (hb : B[id]? = some b) (h1 : au b = some (.obj id, 0)) (h2 : w.heap[b]? = some (.cells c el (0, 0))) (h3 : c.size = xs.length * z)
    (hz : ∀ x ∈ xs, x.flat.length = z) (hrep : RepL Φ (xs.flatMap D.flat) c.toList) (hy : RepL Φ (ys.flatMap D.flat) vs) (hyz : ∀ x ∈ ys, x.flat.length = z) (hn : n + ys.length ≤ xs.length) (g : Writes w w' b c el (n * z) vs) :
    Inv κ Φ B au { s with hp := s.hp.set id (.arr z (xs.take n ++ ys ++ xs.drop (n + ys.length))) } a w' := by
  obtain ⟨c', q1, q2, q3, q4⟩ := g.here
  have hvl : vs.length = ys.length * z := by rw [← hy.get.1, flat_length hyz]
  have hmul := Nat.mul_le_mul_right z hn
  rw [Nat.add_mul] at hmul
  have hc' : c'.toList = c.toList.take (n * z) ++ vs ++ c.toList.drop ((n + ys.length) * z) := by
    apply List.ext_getElem?
    intro k
    rw [Array.getElem?_toList]
    by_cases k1 : k < n * z
    · rw [q4 k (.inl k1), List.append_assoc, List.getElem?_append_left (by simp; omega), List.getElem?_take, if_pos k1, Array.getElem?_toList]
    · by_cases k2 : k < n * z + vs.length
      · rw [q3 k (by omega) k2, List.append_assoc, List.getElem?_append_right (by simp; omega), List.getElem?_append_left (by simp; omega)]
        congr 1; simp; omega
      · rw [q4 k (.inr (by omega)), List.getElem?_append_right (by simp; omega), List.getElem?_drop, Array.getElem?_toList]
        congr 1; simp; rw [Nat.add_mul]; omega
  refine h.write hb h1 g.size g.there g.tape g.os g.out (fun r hr => by rw [h2] at hr; cases hr) (arrRep_of_flat h1 q1 (fun x hx => ?_) ?_)
  · simp only [List.mem_append] at hx
    rcases hx with (hx | hx) | hx
    · exact hz x (List.mem_of_mem_take hx)
    · exact hyz x hx
    · exact hz x (List.mem_of_mem_drop hx)
  · rw [List.flatMap_append, List.flatMap_append, flat_take hz, flat_drop hz, hc']
    exact ((hrep.take _).append hy).append (hrep.drop _)

theorem zeroEl_inv {t : TypeId} {z y : Nat} {zd : D} (e : zeroEl P t = some zd) (hel : elI P t = some (z, y)) (hzd : zd.flat.length = z) :
    ∃ el i zv, P.underlying t = some (.slice el) ∧ P.info? el = some i ∧ i.zero = some zv ∧ i.size = z ∧ i.bytes = y ∧ zv.cells.size = z ∧ RepL Φ zd.flat zv.cells.toList := by
  obtain ⟨el, i, zv, hut, hi, hzv, hsz, hby, hzs⟩ := elI_inv hel
  have : elemTy P t = some el := by simp [elemTy, hut]
  simp only [zeroEl, this, Option.bind_some] at e
  exact ⟨el, i, zv, hut, hi, hzv, hsz, hby, hzs, zero_rep e hi hzv (by rw [hzd, hzs])⟩

/-- so many zeros, as the machine makes them -/
theorem zeros_rep' {zd : D} {zc : Array Value} {n z : Nat} (hr : RepL Φ zd.flat zc.toList) (hz : zd.flat.length = z) (hz0 : 0 < z) :
    RepL Φ ((List.replicate n zd).flatMap D.flat) (Builtin.zeroCells zc n).toList := by
  have h := zeros_rep (n := n) hr hz hz0
  have : zc.size = z := by rw [← hz, hr.get.1]; simp
  unfold Builtin.zeroCells
  rw [this] at h ⊢
  exact h

theorem repL_ok {ds : List D} {cs : List Value} (h : RepL Φ ds cs) : ∀ v ∈ cs, okCell v := by
  intro v hv
  obtain ⟨q1, q2⟩ := h.get
  obtain ⟨j, hj, rfl⟩ := List.getElem_of_mem hv
  have hj' : j < ds.length := by rw [q1]; exact hj
  exact (q2 j _ _ (List.getElem?_eq_getElem hj') (List.getElem?_eq_getElem hj)).1

/-- append, where it is known what comes -/
def appTail (el : TypeId) (size : Nat) (ad : Option Addr) (len cap : Nat) (u : Value) (n : Nat) (appended : Sem (Array Value)) (zs : Bool) : Sem Value :=
  if len + n ≤ cap then do
    let new ← appended
    if let some a := ad then storeCells (a.add (len * size)) new.toList
    pure (.slice ad (len + n) cap)
  else do
    if ((len + n : Nat) : Int) > IntKind.i64.max ∧ (zs ∨ (← typeInfo el).bytes = 0) then runtimePanic (.error "growslice: len out of range")
    if Builtin.nextslicecap (len + n) cap * (← typeInfo el).bytes > 2 ^ 48 then (if zs then runtimePanic (.error "growslice: len out of range") else do
      if !(← Builtin.mayShare size len n ad u) then mark .noRoom
      unsupported (.resourceLimit "append: a slice or a string whose bytes no memory bears"))
    let newCap ← choose (.appendCap (len + n) cap el)
    askRoom (newCap * (← typeInfo el).bytes)
    let old ← Builtin.firstCells size len (.slice ad len cap)
    let new ← appended
    let rest := Builtin.zeroCells (← zeroValue el).cells (newCap - (len + n))
    pure (.slice (some (← newRow el (old ++ new ++ rest))) (len + n) newCap)

/-- what an append appends, read -/
theorem run_appElems (h : Inv κ Φ B au s a w) {t0 t1 : TypeId} {Y : V} {u : Value} {z by_ : Nat} {ys : List D} {zd : D} (e : appElems P t0 t1 s Y = some (z, ys)) (hel : elI P t0 = some (z, by_)) (hzd : zeroEl P t0 = some zd) (hzl : zd.flat.length = z) (hz0 : 0 < z) (hr : RepS Φ B Y u)
    {el : TypeId} {i : TypeInfo} {zv : Value} (hut : P.underlying t0 = some (.slice el)) (hi : P.info? el = some i) (hzv : i.zero = some zv) (hsz : i.size = z) (hby : i.bytes = by_) :
    ∃ vs : List Value, RepL Φ (ys.flatMap D.flat) vs ∧ vs.length = ys.length * z ∧ (∀ x ∈ ys, x.flat.length = z) ∧
      ∀ {r : Value} {w' : World} {ad : Option Addr} {len cap : Nat} {rt : TypeId}, (∀ (appended : Sem (Array Value)) (zs : Bool), (∀ w', Grows w w' → appended.run P w' = .ok vs.toArray w') → (appTail el i.size ad len cap u ys.length appended zs).run P w = .ok r w') →
        (Builtin.append_ #[t0, t1] rt #[.slice ad len cap, u]).run P w = .ok r w' := by
  unfold appElems at e
  split at e
  · rename_i e1 hu1
    obtain ⟨ad, cap, rfl, vs, g1, g2, g3, g4, g5⟩ := run_elems (P := P) h e hz0 hr
    refine ⟨vs, g2, g3, g4, fun {r w' ad0 len cap0 rt} hk => ?_⟩
    have := hk (Builtin.firstCells i.size ys.length (.slice ad ys.length cap)) false fun w' g => by
      have := g1 ys.length w' (Nat.le_refl _) g
      rw [List.take_of_length_le (by omega)] at this
      rw [hsz]; exact this
    unfold Builtin.append_
    simp only [List.getElem?_toArray, List.getElem?_cons_zero, List.getElem?_cons_succ]
    rw [Sem.run_bind, run_underlying hut]; simp only [Result.andThen_ok]
    rw [Sem.run_bind, run_sizeOf hi]; simp only [Result.andThen_ok]
    rw [Sem.run_bind, run_underlying hu1]
    exact this
  · rename_i n hu1
    split at e
    · rename_i hc
      obtain ⟨h0, h1, h2⟩ := hc
      rw [hzd] at e
      simp only [Option.map_some, Option.some.injEq, Prod.mk.injEq] at e
      obtain ⟨-, rfl⟩ := e
      obtain ⟨el', i', zv', hut', hi', hzv', hsz', hby', hzs', hzr⟩ := zeroEl_inv (Φ := Φ) hzd hel hzl
      rw [hut] at hut'; injection hut' with hut'; injection hut' with hut'; subst hut'
      rw [hi] at hi'; injection hi' with hi'; subst hi'
      rw [hzv] at hzv'; injection hzv' with hzv'; subst hzv'
      have hrep := zeros_rep' (n := n.toNat) hzr hzl hz0
      have hall : ∀ x ∈ List.replicate n.toNat zd, x.flat.length = z := fun x hx => by rw [(List.mem_replicate.1 hx).2]; exact hzl
      refine ⟨_, hrep, by rw [← hrep.get.1, flat_length hall], hall, fun {r w' ad0 len cap0 rt} hk => ?_⟩
      have hu : u = .int .i64 n := by cases hr with | d q => exact repD_int q
      have hw : IntKind.i64.wrap n = n := wrap_i64 (by omega) (by omega)
      rw [hel] at h1
      simp only [Option.map_some, Option.getD_some] at h1
      have hbig : ¬ (n * (i.bytes : Int) > 2 ^ 48) := by rw [hby]; omega
      have := hk (if n.toNat * i.size = 0 then pure #[] else do pure (Builtin.zeroCells (← zeroValue el).cells n.toNat)) true fun w' _ => by
        split
        · rename_i hz
          have hn0 : n.toNat = 0 := by
            rcases Nat.mul_eq_zero.1 hz with hz | hz
            · exact hz
            · omega
          rw [hn0]
          simp [Builtin.zeroCells, pure, Sem.run]
        · simp only [Sem.run_bind, run_zeroValue hi hzv, Result.andThen_ok]
          simp [pure, Sem.run]
      simp only [List.length_replicate] at this
      unfold Builtin.append_
      simp only [List.getElem?_toArray, List.getElem?_cons_zero, List.getElem?_cons_succ]
      rw [Sem.run_bind, run_underlying hut]; simp only [Result.andThen_ok]
      rw [Sem.run_bind, run_sizeOf hi]; simp only [Result.andThen_ok]
      rw [Sem.run_bind, run_underlying hu1]; simp only [Result.andThen_ok, pure_bind, if_true, hu, asInt, asIntOf, hw, Int.not_lt.2 h0, if_false]
      rw [Sem.run_bind, run_typeInfo hi]; simp only [Result.andThen_ok, hbig, if_false, Bool.not_true, Bool.false_eq_true]
      rw [hu] at this
      unfold appTail at this
      simp only [Result.andThen_ok, pure_bind, if_true, hu, asInt, asIntOf, hw, Int.not_lt.2 h0, if_false] at this
      exact this
    · cases e
  · cases e

theorem toList_two {α : Type} {l : Array α} {x y : α} (h : l.toList = [x, y]) : l = #[x, y] := by
  have := congrArg List.toArray h; simpa using this
theorem toList_one {α : Type} {l : Array α} {x : α} (h : l.toList = [x]) : l = #[x] := by
  have := congrArg List.toArray h; simpa using this

theorem run_builtin {c : Call} {b : Builtin} {f : Array TypeId → TypeId → Array Value → Sem Value} {v : Value} {w' : World} (ho : o.op = .call c) (ec : c.callee = .builtin b) (hf : ∀ cs ts t args, builtin b ts t cs args = (do pure (.value (← f ts t args)) : Sem Next)) (h : (f c.argTypes o.type (c.args.map a.eval)).run P w = .ok v w') :
    (execOp a.eval o).run P w = .ok (.value v) w' := by
  unfold execOp; rw [ho]; simp only
  unfold resolve; simp only [ec, pure_bind]
  simp only [invoke]
  rw [hf]
  exact run_v h

/-- an array that is new -/
theorem Inv.newArr (h : Inv κ Φ B au s a w) {w1 : World} (g : Grows w w1) {z : Nat} {xs : List D} {vs : List Value} {el : TypeId} {cap : Nat} (hr : RepL Φ (xs.flatMap D.flat) vs) (hz : ∀ x ∈ xs, x.flat.length = z) (hcap : xs.length = cap) (dst : Option Nat) (len : Nat) (hl : len ≤ cap) :
    Rel κ (({ s with hp := s.hp ++ [IObj.arr z xs] } : St).put dst (.ref s.hp.length z 0 len cap)) (a.put dst (.slice (some ⟨w1.heap.size, 0, none⟩) len cap)) { w1 with heap := w1.heap.push (.cells vs.toArray el (0, 0)) } := by
  obtain ⟨au', hfin⟩ := (h.grow g).layArr (el := el) (c := vs.toArray) (z := z) (xs := xs) (by simpa using hr) hz
  exact ⟨Φ, _, au', hfin.put dst (.ref (b := w1.heap.size) (by rw [h.hl]; simp) hl fun _ => by rw [Nat.zero_mul]) fun _ _ => trivial⟩

theorem run_appTail_in {el : TypeId} {size len cap n : Nat} {ad : Option Addr} {u : Value} {appended : Sem (Array Value)} {zs : Bool} {vs : List Value} {w' : World} (h : len + n ≤ cap) (ha : appended.run P w = .ok vs.toArray w)
    (hs : (match ad with | some a => storeCells (a.add (len * size)) vs | none => pure () : Sem Unit).run P w = .ok () w') : (appTail el size ad len cap u n appended zs).run P w = .ok (.slice ad (len + n) cap) w' := by
  unfold appTail
  rw [if_pos h, Sem.run_bind, ha]; simp only [Result.andThen_ok]
  cases ad with
  | none => simp [pure, Sem.run] at hs ⊢; exact hs
  | some ad =>
    simp only at hs ⊢
    rw [Sem.run_bind, hs]; rfl

theorem run_appTail_out {el : TypeId} {i : TypeInfo} {zv : Value} {len cap n : Nat} {ad : Option Addr} {u : Value} {appended : Sem (Array Value)} {zs : Bool} {us vs : List Value} (h : cap < len + n) (hi : P.info? el = some i) (hzv : i.zero = some zv) (hb0 : 0 < i.bytes) (hb : (len + n) * i.bytes ≤ 140737488355328)
    (hu : ∀ w', Grows w w' → (Builtin.firstCells i.size len (.slice ad len cap)).run P w' = .ok us.toArray w') (ha : ∀ w', Grows w w' → appended.run P w' = .ok vs.toArray w') :
    (appTail el i.size ad len cap u n appended zs).run P w = .ok (.slice (some ⟨w.heap.size, 0, none⟩) (len + n) (grownCap w (len + n) cap el)) { w.drew with heap := w.heap.push (.cells (us ++ vs ++ (Builtin.zeroCells zv.cells (grownCap w (len + n) cap el - (len + n))).toList).toArray el (0, 0)) } := by
  have h48 := growslice_fits (need := len + n) (old := cap) (bytes := i.bytes) h hb
  have h48' : ¬ (281474976710656 < Builtin.nextslicecap (len + n) cap * i.bytes) := by omega
  have hmx : ¬ (((len + n : Nat) : Int) > IntKind.i64.max) := by
    have : IntKind.i64.max = 9223372036854775807 := by decide
    rw [this]
    have := Nat.le_mul_of_pos_right (len + n) hb0
    omega
  unfold appTail
  rw [if_neg (by omega)]
  simp only [Sem.run_bind, run_typeInfo hi, Result.andThen_ok]
  rw [if_neg (fun hh => hmx hh.1)]
  simp only [Sem.run_bind, run_typeInfo hi, Result.andThen_ok]
  rw [if_neg (by simpa using h48')]
  have hch : (choose (.appendCap (len + n) cap el)).run P w = .ok (grownCap w (len + n) cap el) w.drew := by
    simp [choose, Sem.run, Question.forced, pure, grownCap]
  have hd : Grows w w.drew := Grows.drew w _
  simp only [Sem.run_bind, hch, Result.andThen_ok, run_typeInfo hi, run_askRoom, hu _ hd, ha _ hd, run_zeroValue hi hzv]
  have hnr : ∀ cs : Array Value, (newRow el cs).run P w.drew = .ok ⟨w.heap.size, 0, none⟩ { w.drew with heap := w.heap.push (.cells cs el (0, 0)) } := fun cs => rfl
  rw [hnr]
  simp only [Result.andThen_ok, Sem.run_pure]
  congr 4
  apply Array.ext'
  simp

theorem does_appendRef {c : Call} {x y : Operand} {t0 t1 : TypeId} (h : Inv κ Φ B au s a w) (ho : o.op = .call c) (ec : c.callee = .builtin .append) (ea : c.args = #[x, y]) (et : c.argTypes = #[t0, t1]) (hk : appendRefK P t0 t1 (ev P t0 s x) (ev P t1 s y) s o.dst K) : Does P κ o a w K := by
  have hx := ev_rep (P := P) h t0 x
  have hy := ev_rep (P := P) h t1 y
  generalize ev P t0 s x = X at hk hx
  generalize ev P t1 s y = Y at hk hy
  unfold appendRefK at hk
  split at hk
  · rename_i id z off len cap z2 ys e by_ zd eel ely ezd
    split at hk
    · rename_i z' xs ehp
      obtain ⟨rfl, rfl, rfl, hz0, hb0, hzd, hlc, hoc, hbnd, k1, k2⟩ := hk
      obtain ⟨el, i, zv, hut, hi, hzv, hsz, hby, hzs, hzr⟩ := zeroEl_inv (Φ := Φ) ezd ely hzd
      obtain ⟨vs, g2, g3, g4, hrunY⟩ := run_appElems (P := P) (B := B) (w := w) h eel ely ezd hzd hz0 hy hut hi hzv hsz hby
      -- the first slice, read
      have heX : elemsOf s (.ref id e off len cap) = some (e, (xs.drop off).take len) := by
        simp [elemsOf, ehp, hlc, hoc]
      obtain ⟨ad, cap', hvx, us, u1, u2, u3, u4, u5⟩ := run_elems (P := P) h heX hz0 hx
      have hlen : ((xs.drop off).take len).length = len := by simp; omega
      rw [hlen] at hvx u1 u3
      have hcapE : cap' = cap := by rw [hvx] at hx; cases hx <;> rfl
      subst hcapE
      have hrun : ∀ {v : Value} {w' : World}, (∀ (appended : Sem (Array Value)) (zs : Bool), (∀ w', Grows w w' → appended.run P w' = .ok vs.toArray w') → (appTail el i.size ad len cap' (a.eval y) ys.length appended zs).run P w = .ok v w') → (execOp a.eval o).run P w = .ok (.value v) w' := by
        intro v w' hyp
        refine run_builtin ho ec (f := Builtin.append_) (fun _ _ _ _ => rfl) ?_
        rw [ea, et]
        have e2 : (#[x, y] : Array Operand).map a.eval = #[.slice ad len cap', a.eval y] := by simp [hvx]
        rw [e2]
        exact hrunY hyp
      by_cases hfit : len + ys.length ≤ cap'
      · by_cases hpos : 0 < cap'
        · have hne : xs ≠ [] := by rintro rfl; simp at hoc; omega
          obtain ⟨b, c1, el1, hb, h1, h2, h3, hz, hrep⟩ := h.arrFlat ehp hne hz0
          have had : ad = some ⟨b, off * e, none⟩ := by
            rw [hvx] at hx
            cases hx with
            | ref0 => omega
            | ref hb' hle hh => rw [hb] at hb'; injection hb' with hb'; subst hb'; exact hh hpos
          subst had
          have hm := Nat.mul_le_mul_right e (show off + len + ys.length ≤ xs.length by omega)
          rw [Nat.add_mul, Nat.add_mul] at hm
          obtain ⟨w', m1, m2⟩ := run_storeCells (P := P) (off := off * e + len * e) vs 0 w c1 h2 (by rw [h3, g3]; omega) (repL_ok g2)
          have m2' : Writes w w' b c1 el1 ((off + len) * e) vs := by rw [Nat.add_mul]; exact m2
          have hr := hrun (fun appended zs ha => run_appTail_in (w' := w') hfit (ha w (Grows.refl w)) (by simpa [addr_add, hsz] using m1))
          have hfin := h.writeArr hb h1 h2 h3 hz hrep g2 g4 (by omega) m2'
          exact does_value hr (k1 hfit) ⟨Φ, B, au, hfin.put o.dst (.ref hb hfit fun _ => rfl) fun _ _ => trivial⟩
        · have hc0 : cap' = 0 := by omega
          have hl0 : len = 0 := by omega
          have hy0 : ys = [] := List.length_eq_zero_iff.1 (by omega)
          subst hc0; subst hl0; subst hy0
          have hv0 : vs = [] := by simpa using g3
          subst hv0
          have hr := hrun (fun appended zs ha => run_appTail_in (w' := w) hfit (ha w (Grows.refl w)) (by cases ad <;> rfl))
          have hk' := k1 hfit
          simp only [Nat.add_zero, List.length_nil, List.append_nil, List.take_append_drop] at hk' hr
          have hset : s.hp.set id (.arr e xs) = s.hp := by
            apply List.ext_getElem?
            intro k
            rw [List.getElem?_set]
            split
            · rename_i e'; subst e'; rw [ehp]; simp [(List.getElem?_eq_some_iff.1 ehp).1]
            · rfl
          rw [hset] at hk'
          exact does_value hr hk' ⟨Φ, B, au, h.put o.dst .ref0 fun _ _ => trivial⟩
      · have hlt : cap' < len + ys.length := by omega
        subst hby
        have hrz := hzr
        -- the new array
        obtain ⟨N, hN, _⟩ : ∃ N, len + ys.length ≤ N ∧ True := ⟨_, Nat.le_refl _, trivial⟩
        have hu' : ∀ w', Grows w w' → (Builtin.firstCells i.size len (.slice ad len cap')).run P w' = .ok us.toArray w' := fun w' g => by
          have := u1 len w' (Nat.le_refl _) g
          rw [hvx, List.take_of_length_le (by omega)] at this
          rw [hsz]; exact this
        have hnew : ∀ N, len + ys.length ≤ N → Rel κ (({ s with hp := s.hp ++ [IObj.arr e ((xs.drop off).take len ++ ys ++ List.replicate (N - (len + ys.length)) zd)] } : St).put o.dst (.ref s.hp.length e 0 (len + ys.length) N)) (a.put o.dst (.slice (some ⟨w.heap.size, 0, none⟩) (len + ys.length) N)) { w.drew with heap := w.heap.push (.cells (us ++ vs ++ (Builtin.zeroCells zv.cells (N - (len + ys.length))).toList).toArray el (0, 0)) } := by
          intro N hN
          refine h.newArr (w1 := w.drew) (Grows.drew w _) ?_ (fun x hx => ?_) ?_ o.dst _ hN
          · rw [List.flatMap_append, List.flatMap_append]
            exact (u2.append g2).append (zeros_rep' hzr hzd hz0)
          · simp only [List.mem_append] at hx
            rcases hx with (hx | hx) | hx
            · exact u4 x hx
            · exact g4 x hx
            · rw [(List.mem_replicate.1 hx).2]; exact hzd
          · simp only [List.length_append, hlen, List.length_replicate]; omega
        have hz1 : (appTail el i.size ad len cap' (a.eval y) ys.length (pure vs.toArray) false).run P w = (appTail el i.size ad len cap' (a.eval y) ys.length (pure vs.toArray) false).run P w := rfl
        let N := grownCap w (len + ys.length) cap' el
        have hnN : len + ys.length ≤ N := by unfold N grownCap Question.cut; exact Nat.le_add_right _ _
        have hr := hrun (v := .slice (some ⟨w.heap.size, 0, none⟩) (len + ys.length) N) (w' := { w.drew with heap := w.heap.push (.cells (us ++ vs ++ (Builtin.zeroCells zv.cells (N - (len + ys.length))).toList).toArray el (0, 0)) }) (fun appended zs ha => run_appTail_out hlt hi hzv hb0 hbnd hu' ha)
        exact does_value hr (k2 hlt N hnN) (hnew N hnN)
    · exact hk.elim
  · exact hk.elim

/-- a phantom: an array without elements needs no memory -/
theorem Inv.phantom (h : Inv κ Φ B au s a w) (z : Nat) : Inv κ Φ (B ++ [0]) au { s with hp := s.hp ++ [IObj.arr z []] } a w := by
  have hB : ∀ (i b : Nat), B[i]? = some b → (B ++ [0])[i]? = some b := fun i b e => by
    rw [List.getElem?_append_left (List.getElem?_eq_some_iff.1 e).1]; exact e
  refine { h with pre := h.pre.trans (List.prefix_append _ _), tm := fun i V v hV hv => ⟨(h.tm i V v hV hv).1.mono (CM.le_refl _) hB, (h.tm i V v hV hv).2⟩, hl := by simp [h.hl], nb := ⟨h.nb.1, by have := h.nb.2; simp; omega⟩, hp := fun id o b ho hb => ?_ }
  by_cases hid : id < s.hp.length
  · rw [List.getElem?_append_left hid] at ho
    have hid' : id < B.length := by rw [← h.hl]; exact hid
    rw [List.getElem?_append_left hid'] at hb
    exact (h.hp id o b ho hb).mono (CM.le_refl _) hB (fun e => ⟨e, rfl⟩) (fun j b st e => ⟨e, rfl⟩)
  · have hid1 : id = s.hp.length := by
      have := (List.getElem?_eq_some_iff.1 ho).1; simp at this; omega
    subst hid1
    simp at ho
    subst ho
    exact fun hne => absurd rfl hne

theorem does_appendNew {c : Call} {x y : Operand} {t0 t1 : TypeId} (h : Inv κ Φ B au s a w) (ho : o.op = .call c) (ec : c.callee = .builtin .append) (ea : c.args = #[x, y]) (et : c.argTypes = #[t0, t1]) (hk : appendNewK P t0 t1 (ev P t0 s x) (ev P t1 s y) s o.dst K) : Does P κ o a w K := by
  have hx := ev_rep (P := P) h t0 x
  have hy := ev_rep (P := P) h t1 y
  generalize ev P t0 s x = X at hk hx
  generalize ev P t1 s y = Y at hk hy
  unfold appendNewK at hk
  split at hk
  · rename_i z z2 ys e by_ zd eel ely ezd
    obtain ⟨rfl, rfl, hz0, hb0, hzd, hbnd, k1⟩ := hk
    obtain ⟨el, i, zv, hut, hi, hzv, hsz, hby, hzs, hzr⟩ := zeroEl_inv (Φ := Φ) ezd ely hzd
    obtain ⟨vs, g2, g3, g4, hrunY⟩ := run_appElems (P := P) (B := B) (w := w) h eel ely ezd hzd hz0 hy hut hi hzv hsz hby
    obtain ⟨ad, hvx⟩ : ∃ ad, a.eval x = .slice ad 0 0 := by
      generalize a.eval x = v at hx
      cases hx; exact ⟨_, rfl⟩
    have hrun : ∀ {v : Value} {w' : World}, (∀ (appended : Sem (Array Value)) (zs : Bool), (∀ w', Grows w w' → appended.run P w' = .ok vs.toArray w') → (appTail el i.size ad 0 0 (a.eval y) ys.length appended zs).run P w = .ok v w') → (execOp a.eval o).run P w = .ok (.value v) w' := by
      intro v w' hyp
      refine run_builtin ho ec (f := Builtin.append_) (fun _ _ _ _ => rfl) ?_
      rw [ea, et]
      have e2 : (#[x, y] : Array Operand).map a.eval = #[.slice ad 0 0, a.eval y] := by simp [hvx]
      rw [e2]
      exact hrunY hyp
    by_cases hn : ys = []
    · subst hn
      have hv0 : vs = [] := by simpa using g3
      subst hv0
      have hr := hrun (fun appended zs ha => run_appTail_in (w' := w) (len := 0) (cap := 0) (by simp) (ha w (Grows.refl w)) (by cases ad <;> rfl))
      have hk' := k1 0 (Nat.le_refl _) (fun _ => rfl)
      simp only [Nat.add_zero, List.length_nil, List.nil_append, Nat.sub_zero, List.replicate_zero] at hk' hr
      exact does_value hr hk' ⟨Φ, _, au, (h.phantom e).put o.dst .ref0 fun _ _ => trivial⟩
    · have hpos : 0 < ys.length := List.length_pos_iff.2 hn
      have hlt : 0 < 0 + ys.length := by omega
      subst hby
      let N := grownCap w (0 + ys.length) 0 el
      have hnN : 0 + ys.length ≤ N := by unfold N grownCap Question.cut; exact Nat.le_add_right _ _
      have hr := hrun (v := .slice (some ⟨w.heap.size, 0, none⟩) (0 + ys.length) N) (w' := { w.drew with heap := w.heap.push (.cells ([] ++ vs ++ (Builtin.zeroCells zv.cells (N - (0 + ys.length))).toList).toArray el (0, 0)) }) (fun appended zs ha => run_appTail_out hlt hi hzv hb0 (by simpa using hbnd) (fun w' _ => by
        cases ad with
        | none => rfl
        | some ad => show (loadCells ad (0 * i.size)).run P w' = _; rw [Nat.zero_mul]; rfl) ha)
      simp only [Nat.zero_add, List.nil_append] at hr hnN
      have hk' := k1 N hnN (fun hh => absurd hh hn)
      refine does_value hr hk' ?_
      have := h.newArr (w1 := w.drew) (Grows.drew w _) (z := e) (xs := ys ++ List.replicate (N - ys.length) zd) (vs := vs ++ (Builtin.zeroCells zv.cells (N - ys.length)).toList) (el := el) (cap := N) (by
        rw [List.flatMap_append]; exact g2.append (zeros_rep' hzr hzd hz0)) (fun x hx => by
        rcases List.mem_append.1 hx with hx | hx
        · exact g4 x hx
        · rw [(List.mem_replicate.1 hx).2]; exact hzd) (by simp only [List.length_append, List.length_replicate]; omega) o.dst ys.length hnN
      have hNe : grownCap w (0 + ys.length) 0 el = N := rfl
      rw [Nat.zero_add] at hNe
      rw [show w.drew.heap = w.heap from rfl] at this
      simpa [hNe] using this
  · exact hk.elim

theorem does_copy {c : Call} {x y : Operand} {t0 t1 : TypeId} (h : Inv κ Φ B au s a w) (ho : o.op = .call c) (ec : c.callee = .builtin .copy) (ea : c.args = #[x, y]) (et : c.argTypes = #[t0, t1]) (hk : copyK P t0 t1 (ev P t0 s x) (ev P t1 s y) s o.dst K) : Does P κ o a w K := by
  have hx := ev_rep (P := P) h t0 x
  have hy := ev_rep (P := P) h t1 y
  generalize ev P t0 s x = X at hk hx
  generalize ev P t1 s y = Y at hk hy
  unfold copyK at hk
  split at hk
  · rename_i id z off len cap z2 ys e by_ eel ely
    split at hk
    · rename_i z' xs ehp
      obtain ⟨rfl, rfl, rfl, hz0, hlc, hoc, hxt, hk⟩ := hk
      obtain ⟨el, i, zv, hut, hi, hzv, hsz, hby, hzs⟩ := elI_inv ely
      obtain ⟨ad2, cap2, hvy, vs, g1, g2, g3, g4, g5⟩ := run_elems (P := P) h eel hz0 hy
      obtain ⟨ad, hvx⟩ : ∃ ad, a.eval x = .slice ad len cap := by
        generalize a.eval x = v at hx
        cases hx <;> exact ⟨_, rfl⟩
      have hmin : Nat.min ys.length len = (ys.take len).length := by
        rw [List.length_take]; exact Nat.min_comm _ _
      have hrun : ∀ {w' : World}, (match ad with | some a => storeCells a (vs.take ((ys.take len).length * e)) | none => pure () : Sem Unit).run P w = .ok () w' → (execOp a.eval o).run P w = .ok (.value (.int .i64 ((ys.take len).length : Nat))) w' := by
        intro w' hw'
        refine run_builtin ho ec (f := Builtin.copy_) (fun _ _ _ _ => rfl) ?_
        rw [ea, et]
        have e2 : (#[x, y] : Array Operand).map a.eval = #[.slice ad len cap, .slice ad2 ys.length cap2] := by simp [hvx, hvy]
        rw [e2]
        unfold Builtin.copy_
        simp only [List.getElem?_toArray, List.getElem?_cons_zero, List.getElem?_cons_succ]
        rw [Sem.run_bind, run_underlying hut]; simp only [Result.andThen_ok, Builtin.lenOf, pure_bind, hmin]
        rw [Sem.run_bind, run_sizeOf hi]; simp only [Result.andThen_ok, hsz]
        have := g1 (ys.take len).length w (by simp; omega) (Grows.refl w)
        rw [hvy] at this
        rw [Sem.run_bind, this]; simp only [Result.andThen_ok]
        cases ad with
        | none =>
          have hw2 : w = w' := by simpa [pure, Sem.run] using hw'
          subst hw2; rfl
        | some ad =>
          simp only at hw' ⊢
          rw [Sem.run_bind, hw']; rfl
      by_cases hpos : 0 < cap
      · have hne : xs ≠ [] := by rintro rfl; simp at hoc; omega
        obtain ⟨b, c1, el1, hb, h1, h2, h3, hz, hrep⟩ := h.arrFlat ehp hne hz0
        have had : ad = some ⟨b, off * e, none⟩ := by
          rw [hvx] at hx
          cases hx with
          | ref0 => omega
          | ref hb' hle hh => rw [hb] at hb'; injection hb' with hb'; subst hb'; exact hh hpos
        subst had
        have hkl : (ys.take len).length ≤ len := by simp; omega
        have hm := Nat.mul_le_mul_right e (show off + (ys.take len).length ≤ xs.length by omega)
        rw [Nat.add_mul] at hm
        have hvl : (vs.take ((ys.take len).length * e)).length = (ys.take len).length * e := by
          rw [List.length_take, g3]
          have := Nat.mul_le_mul_right e (show (ys.take len).length ≤ ys.length by simp; omega)
          omega
        have hrep' : RepL Φ ((ys.take len).flatMap D.flat) (vs.take ((ys.take len).length * e)) := by
          have : ys.take len = ys.take (ys.take len).length := by rw [List.length_take]; exact List.take_eq_take_min
          conv => lhs; arg 2; rw [this]
          rw [flat_take g4]; exact g2.take _
        obtain ⟨w', m1, m2⟩ := run_storeCells (P := P) (off := off * e) (vs.take ((ys.take len).length * e)) 0 w c1 h2 (by rw [h3, hvl]; omega) (repL_ok hrep')
        have hfin := h.writeArr (n := off) hb h1 h2 h3 hz hrep hrep' (fun x hx => g4 x (List.mem_of_mem_take hx)) (by omega) (by simpa using m2)
        exact does_value (hrun m1) hk ⟨Φ, B, au, hfin.put o.dst (.d (.int _ _)) fun _ _ => trivial⟩
      · have hc0 : cap = 0 := by omega
        have hl0 : len = 0 := by omega
        subst hc0; subst hl0
        simp only [List.take_zero, List.length_nil, List.append_nil, Nat.add_zero, List.take_append_drop] at hk hrun
        have hset : s.hp.set id (.arr e xs) = s.hp := by
          apply List.ext_getElem?
          intro k
          rw [List.getElem?_set]
          split
          · rename_i e'; subst e'; rw [ehp]; simp [(List.getElem?_eq_some_iff.1 ehp).1]
          · rfl
        rw [hset] at hk
        refine does_value (hrun (w' := w) (by cases ad <;> simp [storeCells, pure, Sem.run])) hk ⟨Φ, B, au, h.put o.dst (.d (.int _ _)) fun _ _ => trivial⟩
    · exact hk.elim
  · exact hk.elim

theorem does_clear {c : Call} {x : Operand} {t0 : TypeId} (h : Inv κ Φ B au s a w) (ho : o.op = .call c) (ec : c.callee = .builtin .clear) (ea : c.args = #[x]) (et : c.argTypes = #[t0]) (hk : clearK P t0 (ev P t0 s x) s o.dst K) : Does P κ o a w K := by
  have hx := ev_rep (P := P) h t0 x
  generalize ev P t0 s x = X at hk hx
  unfold clearK at hk
  split at hk
  · rename_i id z off len cap e by_ zd ely ezd
    split at hk
    · rename_i z' xs ehp
      obtain ⟨rfl, rfl, hz0, hzd, hlc, hoc, hk⟩ := hk
      obtain ⟨el, i, zv, hut, hi, hzv, hsz, hby, hzs, hzr⟩ := zeroEl_inv (Φ := Φ) ezd ely hzd
      obtain ⟨ad, hvx⟩ : ∃ ad, a.eval x = .slice ad len cap := by
        generalize a.eval x = v at hx
        cases hx <;> exact ⟨_, rfl⟩
      have hrun : ∀ {w' : World}, ((Builtin.clear_ #[t0] o.type #[.slice ad len cap]).run P w = .ok (.tuple #[]) w') → (execOp a.eval o).run P w = .ok (.value (.tuple #[])) w' := by
        intro w' hw'
        refine run_builtin ho ec (f := Builtin.clear_) (fun _ _ _ _ => rfl) ?_
        rw [ea, et]
        have e2 : (#[x] : Array Operand).map a.eval = #[.slice ad len cap] := by simp [hvx]
        rw [e2]; exact hw'
      have hrepz := zeros_rep' (n := len) hzr hzd hz0
      have hall : ∀ x ∈ List.replicate len zd, x.flat.length = e := fun x hx => by rw [(List.mem_replicate.1 hx).2]; exact hzd
      have hzlen : (Builtin.zeroCells zv.cells len).toList.length = len * e := by
        rw [← hrepz.get.1, flat_length hall]; simp
      by_cases hpos : 0 < len
      · have hne : xs ≠ [] := by rintro rfl; simp at hoc; omega
        obtain ⟨b, c1, el1, hb, h1, h2, h3, hz, hrep⟩ := h.arrFlat ehp hne hz0
        have had : ad = some ⟨b, off * e, none⟩ := by
          rw [hvx] at hx
          cases hx with
          | ref0 => omega
          | ref hb' hle hh => rw [hb] at hb'; injection hb' with hb'; subst hb'; exact hh (by omega)
        subst had
        have hm := Nat.mul_le_mul_right e (show off + len ≤ xs.length by omega)
        rw [Nat.add_mul] at hm
        obtain ⟨w', m1, m2⟩ := run_storeCells (P := P) (off := off * e) (Builtin.zeroCells zv.cells len).toList 0 w c1 h2 (by rw [h3, hzlen]; omega) (repL_ok hrepz)
        have hfin := h.writeArr (n := off) hb h1 h2 h3 hz hrep hrepz hall (by simp; omega) (by simpa using m2)
        simp only [List.length_replicate] at hfin
        refine does_value (hrun (w' := w') ?_) hk ⟨Φ, B, au, hfin.put o.dst (.un _) fun _ _ => trivial⟩
        unfold Builtin.clear_
        simp only [List.getElem?_toArray, List.getElem?_cons_zero]
        rw [Sem.run_bind, run_underlying hut]; simp only [Result.andThen_ok]
        obtain ⟨len, rfl⟩ : ∃ l, len = l + 1 := ⟨len - 1, by omega⟩
        simp only
        rw [Sem.run_bind, run_zeroValue hi hzv]; simp only [Result.andThen_ok]
        rw [Sem.run_bind, m1]; rfl
      · have hl0 : len = 0 := by omega
        subst hl0
        simp only [List.replicate_zero, List.append_nil, Nat.add_zero, List.take_append_drop] at hk
        have hset : s.hp.set id (.arr e xs) = s.hp := by
          apply List.ext_getElem?
          intro k
          rw [List.getElem?_set]
          split
          · rename_i e'; subst e'; rw [ehp]; simp [(List.getElem?_eq_some_iff.1 ehp).1]
          · rfl
        rw [hset] at hk
        refine does_value (hrun (w' := w) ?_) hk ⟨Φ, B, au, h.put o.dst (.un _) fun _ _ => trivial⟩
        unfold Builtin.clear_
        simp only [List.getElem?_toArray, List.getElem?_cons_zero]
        rw [Sem.run_bind, run_underlying hut]; simp only [Result.andThen_ok]
        cases ad <;> rfl
    · exact hk.elim
  · exact hk.elim

theorem does_cap {c : Call} {x : Operand} {t0 : TypeId} {n : Nat} (h : Inv κ Φ B au s a w) (ho : o.op = .call c) (ec : c.callee = .builtin .cap) (ea : c.args = #[x]) (et : c.argTypes = #[t0]) (hel : (elemTy P t0).isSome = true) (hx : ∃ ad l, a.eval x = .slice ad l n)
    (hk : K (s.put o.dst (.d (.int .i64 n)))) : Does P κ o a w K := by
  obtain ⟨ad, l, hx⟩ := hx
  obtain ⟨el, hut⟩ : ∃ el, P.underlying t0 = some (.slice el) := by
    unfold elemTy at hel
    split at hel
    · exact ⟨_, ‹_›⟩
    · cases hel
  refine does_plain h (run_builtin (v := .int .i64 n) ho ec (f := Builtin.cap_) (fun _ _ _ _ => rfl) ?_) (.d (.int _ _)) (fun _ => trivial) hk
  rw [ea, et]
  have e2 : (#[x] : Array Operand).map a.eval = #[.slice ad l n] := by simp [hx]
  rw [e2]
  unfold Builtin.cap_
  simp only [List.getElem?_toArray, List.getElem?_cons_zero]
  rw [Sem.run_bind, run_underlying hut]; rfl

theorem does_delete {c : Call} {x y : Operand} {t0 t1 : TypeId} (h : Inv κ Φ B au s a w) (ho : o.op = .call c) (ec : c.callee = .builtin .delete) (ea : c.args = #[x, y]) (et : c.argTypes = #[t0, t1]) (hk : deleteK P t0 (ev P t0 s x) (ev P t1 s y) s o.dst K) : Does P κ o a w K := by
  have hx := ev_rep (P := P) h t0 x
  have hy := ev_rep (P := P) h t1 y
  generalize ev P t0 s x = X at hk hx
  generalize ev P t1 s y = Y at hk hy
  unfold deleteK at hk
  split at hk
  · rename_i id k kt et' em
    split at hk
    · rename_i clock es ehp
      obtain ⟨hkey, hk⟩ := hk
      obtain ⟨b, ms, hb, h1, h2, h3, h4⟩ := h.mapAt ehp
      have hut := mapTy_inv em
      have hxv : a.eval x = .map (some b) := by
        generalize a.eval x = v at hx
        cases hx with | map q => rw [hb] at q; injection q with q; rw [q]
      have hkv : RepD Φ k (a.eval y) := by cases hy with | d q => exact q
      have run : ∀ {r' : Option (Nat × Value)} {w' : World}, (Instr.findKey kt (a.eval y) ms.toList).run P w = .ok r' w → ((match r' with
          | some (i, _) => setObj b (.map (ms.eraseIdxIfInBounds i) clock)
          | none => setObj b (.map ms clock)) : Sem Unit).run P w = .ok () w' → (execOp a.eval o).run P w = .ok (.value (.tuple #[])) w' := by
        intro r' w' e1 e2
        refine run_builtin ho ec (f := Builtin.delete_) (fun _ _ _ _ => rfl) ?_
        rw [ea, et]
        have e3 : (#[x, y] : Array Operand).map a.eval = #[.map (some b), a.eval y] := by simp [hxv]
        rw [e3]
        unfold Builtin.delete_
        simp only [List.getElem?_toArray, List.getElem?_cons_zero, List.getElem?_cons_succ]
        rw [Sem.run_bind, run_underlying hut]; simp only [Result.andThen_ok]
        rw [Sem.run_bind, run_getObj h2 rfl]; simp only [Result.andThen_ok]
        rw [Sem.run_bind, run_checkKey hkey hkv]; simp only [Result.andThen_ok]
        rw [Sem.run_bind, e1]; simp only [Result.andThen_ok]
        cases r' with
        | none => simp only at e2 ⊢; rw [Sem.run_bind, e2]; rfl
        | some p => simp only at e2 ⊢; rw [Sem.run_bind, e2]; rfl
      split at hk
      · rename_i i V ef
        obtain ⟨r', g1, g2⟩ := run_find (B := B) (w := w) hkey hkv (by rw [Array.length_toList]; exact h3) (fun i n k V hi => by simpa using h4 i n k V hi) ef
        cases r' with
        | none => exact g2.elim
        | some p =>
          obtain ⟨j, v⟩ := p
          obtain ⟨rfl, hV⟩ := g2
          obtain ⟨_, b0, k', hat, hkk⟩ := mfind_at ef
          simp only [Nat.sub_zero] at hat
          have hil : i < es.length := (List.getElem?_eq_some_iff.1 hat).1
          have hrun := run (r' := some (i, v)) (w' := { w with heap := w.heap.setIfInBounds b (.map (ms.eraseIdxIfInBounds i) clock) }) g1 (run_setMap h2)
          have her : (ms.eraseIdxIfInBounds i).toList = ms.toList.eraseIdx i := by
            rw [Array.eraseIdxIfInBounds, dif_pos (by omega)]; simp
          refine does_value hrun hk ⟨Φ, B, au, (h.setMap (es' := es.eraseIdx i) hb h1 h2 (by rw [← Array.length_toList, her, List.length_eraseIdx, List.length_eraseIdx, Array.length_toList, h3]) (fun j n k2 V2 hj => ?_)).put o.dst (.un _) fun _ _ => trivial⟩
          rw [List.getElem?_eraseIdx] at hj
          rw [← Array.getElem?_toList, her, List.getElem?_eraseIdx]
          split at hj
          · rename_i hlt; rw [if_pos hlt]
            obtain ⟨e2, q1, q2⟩ := h4 j n k2 V2 hj
            exact ⟨e2, by rw [Array.getElem?_toList]; exact q1, q2⟩
          · rename_i hlt; rw [if_neg hlt]
            obtain ⟨e2, q1, q2⟩ := h4 (j + 1) n k2 V2 hj
            exact ⟨e2, by rw [Array.getElem?_toList]; exact q1, q2⟩
      · rename_i ef
        obtain ⟨r', g1, g2⟩ := run_find (B := B) (w := w) hkey hkv (by rw [Array.length_toList]; exact h3) (fun i n k V hi => by simpa using h4 i n k V hi) ef
        cases r' with
        | some p => exact g2.elim
        | none =>
          have hsame : ({ w with heap := w.heap.setIfInBounds b (.map ms clock) } : World) = w := by
            have : w.heap.setIfInBounds b (.map ms clock) = w.heap := by
              apply Array.ext_getElem?
              intro k
              rw [Array.getElem?_setIfInBounds]
              split
              · rename_i e; subst e; rw [if_pos (lt_of_heap h2)]; exact h2.symm
              · rfl
            rw [this]
          have hrun := run (w' := { w with heap := w.heap.setIfInBounds b (.map ms clock) }) g1 (run_setMap h2)
          rw [hsame] at hrun
          exact does_value hrun hk ⟨Φ, B, au, h.put o.dst (.un _) fun _ _ => trivial⟩
      · exact hk.elim
    · exact hk.elim
  · exact hk.elim

theorem does_call {c : Call} {r : List Oper} (h : Inv κ Φ B au s a w) (ho : o.op = .call c) (hk : stepK P o r s K) : Does P κ o a w K := by
  simp only [stepK, ho] at hk
  unfold callK at hk
  split at hk
  · rename_i x y t0 t1 ec ea et
    split at hk
    · rename_i id z off len cap e
      exact does_appendRef h ho ec (toList_two ea) (toList_two et) (by rw [e]; exact hk)
    · exact does_call0 h ho hk
  · rename_i x y t0 t1 ec ea et
    exact does_copy h ho ec (toList_two ea) (toList_two et) hk
  · rename_i x t0 ec ea et
    exact does_clear h ho ec (toList_one ea) (toList_one et) hk
  · rename_i x t0 ec ea et
    have hx := ev_rep (P := P) h t0 x
    split at hk
    · rename_i id z off len cap e
      rw [e] at hx
      exact does_cap h ho ec (toList_one ea) (toList_one et) hk.1 (by generalize a.eval x = v at hx; cases hx <;> exact ⟨_, _, rfl⟩) hk.2
    · rename_i z e
      rw [e] at hx
      exact does_cap (n := 0) h ho ec (toList_one ea) (toList_one et) hk.1 (by generalize a.eval x = v at hx; cases hx <;> exact ⟨_, _, rfl⟩) hk.2
    · exact hk.elim
  · rename_i x y t0 t1 ec ea et
    exact does_delete h ho ec (toList_two ea) (toList_two et) hk
  · exact does_call0 h ho hk

end
end Go.Idl
end
section
namespace Go.Idl

section
variable {P : Program} {κ : Ctx} {s : St} {a : Act} {w : World} {K : St → Prop} {o : Oper}

/-- One operation. -/
theorem step_sound {r : List Oper} (h : Rel κ s a w) (hk : stepK P o r s K) : Does P κ o a w K := by
  obtain ⟨Φ, B, au, h⟩ := h
  cases ho : o.op with
  | move x => simp only [stepK, ho] at hk; exact does_move h (.inl ho) hk
  | «assign» x => simp only [stepK, ho] at hk; exact does_move h (.inr ho) hk
  | pick c x y => exact does_pick h ho hk
  | alloc t => exact does_alloc h ho hk
  | box t x => exact does_box h ho hk
  | build t ps => exact does_build h ho hk
  | buildSlice t n ps => exact does_buildSlice h ho hk
  | makeSlice t l c => exact does_makeSlice h ho hk
  | load t x => exact does_load h ho hk
  | store t x y => exact does_store h ho hk
  | binOp op t x y t' => exact does_binOp h ho hk
  | unOp op t x => exact does_unOp h ho hk
  | convert a b x => exact does_convert h ho hk
  | makeFunc f x y => exact does_makeFunc h ho hk
  | slice t x lo hi mx => exact does_slice h ho hk
  | fieldAddr t x f => exact does_fieldAddr h ho hk
  | field t x f => exact does_field h ho hk
  | indexAddr t x i => exact does_indexAddr h ho hk
  | index t x i => exact does_index h ho hk
  | extract x i => exact does_extract h ho hk
  | call c => exact does_call h ho hk
  | makeMap t r => cases r with
    | none => exact does_makeMap h ho hk
    | some r => simp [stepK, ho] at hk
  | lookup t x y ok => exact does_lookup h ho hk
  | mapUpdate t x y z => exact does_mapUpdate h ho hk
  | range t x => exact does_range h ho hk
  | next x b => cases b with
    | false => exact does_next h ho hk
    | true => simp [stepK, ho] at hk
  | _ => simp [stepK, ho] at hk

theorem Ctx.F_fn (κ : Ctx) (f : FuncId) : κ.F.fn f := trivial
theorem Ctx.F_depth (κ : Ctx) : κ.F.depth = none := rfl

theorem stepK_nodefer {r : List Oper} {c : Call} (hk : stepK P o r s K) : o.op ≠ .defer c := by
  intro e; simp [stepK, e] at hk

/-- What an operation does, in the walk's words. -/
theorem Does.wpIn {Q : Exit → Act → World → Prop} {next : Act → World → Prop} (hd : Does P κ o a w K) (hnd : ∀ c, o.op ≠ .defer c) (hn : ∀ s' a' w', K s' → Rel κ s' a' w' → next a' w') : o.wpIn κ.F 0 P a w next Q := by
  obtain ⟨nx, w', h1, h2⟩ := hd
  refine ⟨fun _ _ => trivial, ?_⟩
  rw [Oper.semAt_eq _ _ _ hnd, h1]
  cases nx <;> simp only at h2
  · obtain ⟨s', k1, k2⟩ := h2; exact hn _ _ _ k1 k2
  · obtain ⟨s', k1, k2⟩ := h2; exact hn _ _ _ k1 k2
  · refine ⟨fun hh => by simp [Ctx.F_depth] at hh, ?_⟩
    refine CallsIn.mono (F := κ.F) h2 fun e w'' => ?_
    rintro ⟨v, s', rfl, k1, k2⟩
    exact hn _ _ _ k1 k2
  · refine ⟨fun hh => by simp [Ctx.F_depth] at hh, ?_⟩
    refine RoundIn.mono (F := κ.F) h2 fun e w'' => ?_
    rintro ⟨v, s', rfl, k1, k2⟩
    exact hn _ _ _ k1 k2
  all_goals exact h2.elim

theorem Rel.un (h : Rel κ s a w) (dst : Option Nat) : Rel κ (s.put dst .un) (a.put dst undef) w := by
  obtain ⟨Φ, B, au, h⟩ := h
  exact ⟨Φ, B, au, h.put dst (.un _) fun _ _ => trivial⟩

theorem Rel.skip (h : Rel κ s a w) (dst : Option Nat) : Rel κ (s.put dst (.tup [])) (a.put dst undef) w := by
  obtain ⟨Φ, B, au, h⟩ := h
  exact ⟨Φ, B, au, h.put dst (.tup (cs := []) .nil) fun _ _ => ⟨fun j z xs cs c _ hd => by simp at hd, fun j z xs cs c _ hd => by simp at hd⟩⟩

theorem guard_skip {ops : Array Oper} {j t : Nat} (h : Rel κ s a w) (et : (ops.toList[j]?).bind (·.dst) = some t) (eb : s.tm[t]? = some (.tup [])) : yielded ops a.tmps j = none := by
  obtain ⟨Φ, B, au, hi⟩ := h
  have hlt : t < s.tm.length := (List.getElem?_eq_some_iff.1 eb).1
  have hat : t < a.tmps.size := by rw [← hi.tl]; exact hlt
  have hv : a.tmps[t]? = some (.tuple #[]) := by
    have := (hi.tm t _ _ eb (Array.getElem?_eq_getElem hat)).1
    rw [Array.getElem?_eq_getElem hat]
    generalize a.tmps[t] = v at this
    cases this with | tup q => cases q; rfl
  unfold yielded
  rw [Array.getElem?_toList] at et
  simp only [et, Option.bind_some, hv]

/-- A region in the order of its text. -/
theorem ops_sound {ops : Array Oper} {Q : Exit → Act → World → Prop} : ∀ (rest : List Oper) (i : Nat), (∀ j, rest[j]? = ops[i + j]?) → ∀ {s : St} {a : Act} {w : World}, Rel κ s a w → opsK P ops.toList rest s K →
    (∀ s' a' w', K s' → Rel κ s' a' w' → Q .normal a' w') → wpOpsIn κ.F 0 P ops Q (List.range' i rest.length) a w
  | [], i, _, s, a, w, h, hk, hq => hq _ _ _ hk h
  | o :: rest, i, he, s, a, w, h, hk, hq => by
    have h0 : ops[i]? = some o := by simpa using (he 0).symm
    have he' : ∀ j, rest[j]? = ops[i + 1 + j]? := fun j => by have := he (j + 1); simpa [Nat.add_assoc, Nat.add_comm 1 j] using this
    simp only [List.length_cons, List.range'_succ, wpOpsIn, h0]
    simp only [opsK] at hk
    split at hk
    · rename_i hg
      rw [if_pos (by simp [Region.wanted, hg])]
      exact (step_sound h hk).wpIn (fun c => stepK_nodefer hk) fun s' a' w' k1 k2 => ops_sound rest (i + 1) he' k2 k1 hq
    · rename_i j want hg
      split at hk
      · rename_i t et
        split at hk
        · rename_i b eb
          obtain ⟨k1, k2⟩ := hk
          obtain ⟨Φ, B, au, hi⟩ := h
          have hlt : t < s.tm.length := (List.getElem?_eq_some_iff.1 eb).1
          have hat : t < a.tmps.size := by rw [← hi.tl]; exact hlt
          have hv : a.tmps[t]? = some (.bool b) := by
            have := (hi.tm t _ _ eb (Array.getElem?_eq_getElem hat)).1
            cases this with | d q => rw [Array.getElem?_eq_getElem hat, repD_bool q]
          have hy : yielded ops a.tmps j = some b := by
            unfold yielded
            rw [Array.getElem?_toList] at et
            simp only [et, Option.bind_some, hv]
          have hset : ∀ b', b = b' → Rel κ { s with tm := s.tm.set t (.d (.bool b')) } a w := by
            rintro b' rfl
            refine ⟨Φ, B, au, hi.islot t fun V' v hV hv' => ?_⟩
            rw [hv] at hv'; injection hv' with hv'; subst hv'
            exact ⟨.d (.bool _), trivial⟩
          by_cases e : b = want
          · rw [if_pos (by simp [Region.wanted, hg, hy, e])]
            have hk1 := k1 e
            exact (step_sound (hset want e) hk1).wpIn (fun c => stepK_nodefer hk1) fun s' a' w' k1 k2 => ops_sound rest (i + 1) he' k2 k1 hq
          · rw [if_neg (by simp [Region.wanted, hg, hy, e])]
            have e' : b = !want := by cases b <;> cases want <;> simp_all
            exact ⟨fun _ _ => trivial, ops_sound rest (i + 1) he' ((hset (!want) e').skip o.dst) (k2 e') hq⟩
        · rename_i eb
          rw [if_neg (by simp [Region.wanted, hg, guard_skip h et eb])]
          exact ⟨fun _ _ => trivial, ops_sound rest (i + 1) he' (h.skip o.dst) hk hq⟩
        · exact hk.elim
      · exact hk.elim

theorem region_sound {id : Nat} {ops : Array Oper} {Q : Ex → St → Prop} (h : Rel κ s a w) (hk : opsK P ops.toList ops.toList s (Q .normal)) : (Code.region id ops false).wpIn κ.F 0 P (postK κ Q) a w := by
  refine wpIn_region ?_
  have := ops_sound (Q := postK κ Q) ops.toList 0 (by simp) h hk fun s' a' w' k1 k2 => ⟨.normal, s', rfl, k1, k2⟩
  rw [List.range_eq_range', ← Array.length_toList]
  exact this

theorem postK_mono {Q Q' : Ex → St → Prop} {e : Exit} (hq : ∀ e s, Q e s → Q' e s) (h : postK κ Q e a w) : postK κ Q' e a w := by
  obtain ⟨e', s', rfl, h1, h2⟩ := h; exact ⟨e', s', rfl, hq _ _ h1, h2⟩

theorem SemC.mono {c : Code} {Q Q' : Ex → St → Prop} (h : SemC P c Q s) (hq : ∀ e s, Q e s → Q' e s) : SemC P c Q' s :=
  fun κ a w hr => wpIn_mono (h κ a w hr) fun _ _ _ => postK_mono hq

theorem seq_sem {c d : Code} {Q : Ex → St → Prop} (h : SemC P c (thenK (fun s' => SemC P d Q s') Q) s) : SemC P (.seq c d) Q s := by
  intro κ a w hr
  refine wpIn_seq (wpIn_mono (h κ a w hr) ?_)
  rintro e a' w' ⟨e', s', rfl, h1, h2⟩
  cases e' with
  | normal => exact h1 κ a' w' h2
  | exit id => exact ⟨.exit id, s', rfl, h1, h2⟩
  | goto l => exact ⟨.goto l, s', rfl, h1, h2⟩
  | ret => exact ⟨.ret, s', rfl, h1, h2⟩

theorem block_sem {id : Nat} {c : Code} {Q : Ex → St → Prop} (h : SemC P c (inBlockK id Q) s) : SemC P (.block id c) Q s := by
  intro κ a w hr
  refine wpIn_block (wpIn_mono (h κ a w hr) ?_)
  rintro e a' w' ⟨e', s', rfl, h1, h2⟩
  cases e' with
  | normal => exact ⟨.normal, s', rfl, h1, h2⟩
  | exit i =>
    simp only [Ex.to, Exit.inBlock]
    simp only [inBlockK] at h1
    split at h1
    · rename_i e; rw [if_pos e]; exact ⟨.normal, s', rfl, h1, h2⟩
    · rename_i e; rw [if_neg e]; exact ⟨.exit i, s', rfl, h1, h2⟩
  | goto l => exact ⟨.goto l, s', rfl, h1, h2⟩
  | ret => exact ⟨.ret, s', rfl, h1, h2⟩

/-- **What the conditions promise, the code does.** -/
theorem wp_sound : ∀ (c : Code) (Q : Ex → St → Prop) (s : St), wpK P c Q s → SemC P c Q s := by
  intro c
  induction c with
  | skip => intro Q s h κ a w hr; exact wpIn_skip ⟨.normal, s, rfl, h, hr⟩
  | label l => intro Q s h κ a w hr; exact wpIn_label ⟨.normal, s, rfl, h, hr⟩
  | ret => intro Q s h κ a w hr; exact wpIn_ret ⟨.ret, s, rfl, h, hr⟩
  | exit id => intro Q s h κ a w hr; exact wpIn_exit ⟨.exit id, s, rfl, h, hr⟩
  | goto l => intro Q s h κ a w hr; exact wpIn_goto ⟨.goto l, s, rfl, h, hr⟩
  | seq c d ihc ihd =>
    intro Q s h
    refine seq_sem (SemC.mono (ihc _ s h) ?_)
    intro e s' he
    cases e with
    | normal => exact ihd Q s' he
    | _ => exact he
  | region id ops draw =>
    intro Q s h
    cases draw with
    | false => intro κ a w hr; exact region_sound hr h
    | true => exact h
  | cond c x y ihx ihy =>
    intro Q s h κ a w hr
    simp only [wpK] at h
    split at h
    · rename_i t e
      have hb : a.eval c = .bool t := by
        obtain ⟨Φ, B, au, hi⟩ := hr
        exact repD_bool (ev_d hi e)
      exact wpIn_cond_split hb (fun ht => ihx Q s (h.1 ht) κ a w hr) (fun ht => ihy Q s (h.2 ht) κ a w hr)
    · exact h.elim
  | block id c ih => intro Q s h; exact block_sem (ih _ s h)
  | loop c ih => intro Q s h; exact h
  | rangeFunc f ps asg c _ _ => intro Q s h; exact h
  | scope c ih => intro Q s h; exact h
  | refuse why => intro Q s h; exact h

/-- One ideal state says less than another. -/
def St.le (s s' : St) : Prop := ∀ κ a w, Rel κ s a w → Rel κ s' a w

theorem SemC.weaken {c : Code} {Q : Ex → St → Prop} {s' : St} (h : SemC P c Q s') (hle : s.le s') : SemC P c Q s := fun κ a w hr => h κ a w (hle κ a w hr)

end

theorem exists_least {p : Nat → Prop} (h : ∃ k, p k) : ∃ k, p k ∧ ∀ j, p j → k ≤ j := by
  obtain ⟨k, hk⟩ := h
  induction k using Nat.strongRecOn with
  | _ k ih =>
    by_cases hs : ∃ j, j < k ∧ p j
    · obtain ⟨j, hj, hp⟩ := hs; exact ih j hj hp
    · refine ⟨k, hk, fun j hp => ?_⟩
      exact Nat.le_of_not_lt fun hj => hs ⟨j, hj, hp⟩

open Classical in
noncomputable def least (p : Nat → Prop) : Nat := if h : ∃ k, p k then Classical.choose (exists_least h) else 0

theorem least_spec {p : Nat → Prop} (h : ∃ k, p k) : p (least p) ∧ ∀ j, p j → least p ≤ j := by
  unfold least; rw [dif_pos h]; exact Classical.choose_spec (exists_least h)

section
variable {P : Program} {κ : Ctx} {s : St} {a : Act} {w : World} {K : St → Prop} {o : Oper}

/-- **A loop**: a family of states, each with a number that goes down; what a round leaves may say more than the next one's head asks. -/
theorem loop_sem {c : Code} {Q : Ex → St → Prop} (I : Nat → St → Prop) (n : Nat) (s0 : St) (h0 : I n s0) (hle : s.le s0)
    (round : ∀ k s, I k s → SemC P c (thenK (fun s' => ∃ j s'', j < k ∧ I j s'' ∧ s'.le s'') Q) s) : SemC P (.loop c) Q s := by
  intro κ a w hr
  refine wpIn_loop (fun a w => ∃ k s, I k s ∧ Rel κ s a w) (fun a w => least fun k => ∃ s, I k s ∧ Rel κ s a w) ⟨n, s0, h0, hle κ a w hr⟩ ?_
  intro a w hI
  obtain ⟨⟨s1, hI1, hr1⟩, hmin⟩ := least_spec hI
  generalize hk : (least fun k => ∃ s, I k s ∧ Rel κ s a w) = k at hI1 hmin
  refine wpIn_mono (round k s1 hI1 κ a w hr1) ?_
  rintro e a' w' ⟨e', s', rfl, h1, h2⟩
  cases e' with
  | normal =>
    obtain ⟨j, s'', hj, hI', hle'⟩ := h1
    have hex : ∃ k, ∃ s, I k s ∧ Rel κ s a' w' := ⟨j, s'', hI', hle' κ a' w' h2⟩
    exact ⟨hex, Nat.lt_of_le_of_lt ((least_spec hex).2 j ⟨s'', hI', hle' κ a' w' h2⟩) hj⟩
  | exit id => exact ⟨.exit id, s', rfl, h1, h2⟩
  | goto l => exact ⟨.goto l, s', rfl, h1, h2⟩
  | ret => exact ⟨.ret, s', rfl, h1, h2⟩

/-! ### Saying less -/
theorem St.le_refl (s : St) : s.le s := fun _ _ _ h => h
theorem St.le_trans {s t u : St} (h : s.le t) (h' : t.le u) : s.le u := fun κ a w hr => h' κ a w (h κ a w hr)

/-- a slice without room is many things -/
inductive NilLe : V → V → Prop
  | own {z} : NilLe (.nil z) (.own z [])
  | hold {z} : NilLe (.nil z) (.hold z [])
  | d {z l} : NilLe (.nil z) (.d (.sl l z []))
  | ref {z id off} : NilLe (.nil z) (.ref id z off 0 0)

theorem NilLe.rep {v u : V} (h : NilLe v u) {Φ : CM} {B : List Nat} {au : Auth} {w : World} {hd : Nat → Holder} {x : Value} (hr : RepS Φ B v x) : RepS Φ B u x ∧ OwnV au w hd u x := by
  cases h with
  | own => cases hr with | nil => exact ⟨.own .sl0, _, _, _, rfl, .inl rfl⟩
  | hold => cases hr with | nil => exact ⟨.hold (fun h => absurd rfl h) (Nat.le_refl _), _, _, rfl, Nat.le_refl _, .inl rfl⟩
  | d => cases hr with | nil => exact ⟨.d .sl0, trivial⟩
  | ref => cases hr with | nil => exact ⟨.ref0, trivial⟩

/-- pointwise: the same, or unknown; or what it owns forgotten -/
inductive LeTm : List V → List V → Prop
  | nil : LeTm [] []
  | same {v vs us} : LeTm vs us → LeTm (v :: vs) (v :: us)
  | un {v vs us} : LeTm vs us → LeTm (v :: vs) (.un :: us)
  | cp {v vs us} : LeTm vs us → LeTm (v :: vs) (v.cp :: us)
  | to {v u vs us} : NilLe v u → LeTm vs us → LeTm (v :: vs) (u :: us)

theorem LeTm.refl : ∀ vs, LeTm vs vs
  | [] => .nil
  | _ :: vs => .same (LeTm.refl vs)

theorem LeTm.get {vs us : List V} (h : LeTm vs us) : vs.length = us.length ∧ ∀ (i : Nat) u, us[i]? = some u → ∃ v, vs[i]? = some v ∧ (u = v ∨ u = .un ∨ u = v.cp ∨ NilLe v u) := by
  induction h with
  | nil => simp
  | to hn _ ih =>
    refine ⟨by simp [ih.1], fun i u hu => ?_⟩
    cases i with
    | zero => simp at hu; subst hu; exact ⟨_, rfl, .inr (.inr (.inr hn))⟩
    | succ i => simpa using ih.2 i u (by simpa using hu)
  | same _ ih | un _ ih | cp _ ih =>
    refine ⟨by simp [ih.1], fun i u hu => ?_⟩
    cases i with
    | zero => simp at hu; subst hu; exact ⟨_, rfl, by simp⟩
    | succ i => simpa using ih.2 i u (by simpa using hu)

theorem St.le_tm {s : St} {tm : List V} (h : LeTm s.tm tm) : s.le { s with tm := tm } := by
  rintro κ a w ⟨Φ, B, au, hi⟩
  obtain ⟨h1, h2⟩ := h.get
  refine ⟨Φ, B, au, { hi with tl := by rw [← hi.tl]; exact h1.symm, tm := fun i V v hV hv => ?_ }⟩
  obtain ⟨V', e1, e2⟩ := h2 i V hV
  obtain ⟨g1, g2⟩ := hi.tm i V' v e1 hv
  rcases e2 with rfl | rfl | rfl | e2
  · exact ⟨g1, g2⟩
  · exact ⟨.un _, trivial⟩
  · exact ⟨g1.cp, OwnV_cp⟩
  · exact e2.rep g1

end
end Go.Idl
end
