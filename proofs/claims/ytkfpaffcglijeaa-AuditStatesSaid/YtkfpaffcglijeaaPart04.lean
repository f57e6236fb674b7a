/- One operation. Part 8: literals of structs and slices, make, a string's byte.; One operation. Part 9: calls. -/
import Derived.Test.YtkfpaffcglijeaaPart03
set_option linter.all false
section
namespace Go.Idl

theorem flat_get {z : Nat} {xs : List D} (hz : ∀ x ∈ xs, x.flat.length = z) : ∀ (i j : Nat), j < z → (xs.flatMap D.flat)[i * z + j]? = (xs[i]?).bind (·.flat[j]?) := by
  induction xs with
  | nil => intro i j _; simp
  | cons x xs ih =>
    intro i j hj
    have hx := hz x (by simp)
    cases i with
    | zero => simp only [Nat.zero_mul, Nat.zero_add, List.flatMap_cons, List.getElem?_cons_zero, Option.bind_some]; rw [List.getElem?_append_left (by omega)]
    | succ i =>
      have := ih (fun y hy => hz y (by simp [hy])) i j hj
      rw [List.flatMap_cons, List.getElem?_append_right (by rw [Nat.add_mul]; omega), List.getElem?_cons_succ, ← this]
      congr 1; rw [Nat.add_mul]; omega

theorem fold_set (cs : List Value) (off : Nat) : ∀ (n : Nat) (arr : Array Value), ((cs.zipIdx n).foldl (fun (acc : Array Value) (p : Value × Nat) => acc.setIfInBounds (off + p.2) p.1) arr).size = arr.size ∧
    ∀ k, k < arr.size → ((cs.zipIdx n).foldl (fun (acc : Array Value) (p : Value × Nat) => acc.setIfInBounds (off + p.2) p.1) arr)[k]? = if off + n ≤ k ∧ k < off + n + cs.length then cs[k - (off + n)]? else arr[k]? := by
  induction cs with
  | nil => intro n arr; simp; intro k h1 h2 h3; omega
  | cons c cs ih =>
    intro n arr
    simp only [List.zipIdx_cons, List.foldl_cons]
    obtain ⟨h1, h2⟩ := ih (n + 1) (arr.setIfInBounds (off + n) c)
    refine ⟨by simpa using h1, fun k hk => ?_⟩
    rw [h2 k (by simpa using hk)]
    by_cases e : k = off + n
    · subst e
      rw [if_neg (by omega), if_pos (by simp)]
      simp [hk]
    · by_cases hr : off + (n + 1) ≤ k ∧ k < off + (n + 1) + cs.length
      · rw [if_pos hr, if_pos (by simp; omega)]
        obtain ⟨m, rfl⟩ : ∃ m, k = off + n + (m + 1) := ⟨k - (off + n) - 1, by omega⟩
        rw [show off + n + (m + 1) - (off + (n + 1)) = m by omega, show off + n + (m + 1) - (off + n) = m + 1 by omega]; simp
      · rw [if_neg hr, if_neg (by simp; omega), Array.getElem?_setIfInBounds, if_neg (Ne.symm e)]

theorem wrap_i64 {n : Int} (h0 : -9223372036854775808 ≤ n) (h1 : n ≤ 9223372036854775807) : IntKind.i64.wrap n = n := by
  have e : IntKind.i64.wrap n = (if (true && decide (n % 18446744073709551616 ≥ 9223372036854775808)) = true then n % 18446744073709551616 - 18446744073709551616 else n % 18446744073709551616) := rfl
  rw [e]; simp only [Bool.true_and, decide_eq_true_eq]
  split <;> omega

/-- the parts of a literal -/
inductive PartsRep (Φ : CM) (B : List Nat) : List (Nat × V) → List (Nat × Value) → Prop
  | nil : PartsRep Φ B [] []
  | cons {i v u ps us} : RepS Φ B v u → PartsRep Φ B ps us → PartsRep Φ B ((i, v) :: ps) ((i, u) :: us)

section
variable {P : Program} {κ : Ctx} {Φ : CM} {B : List Nat} {au : Auth} {s : St} {a : Act} {w : World} {K : St → Prop} {o : Oper}

/-- a part is laid into a row of cells -/
theorem fill_step {ds es : List D} {arr : Array Value} {u : Value} {d : D} {off : Nat} (hr : RepL Φ ds arr.toList) (hd : RepD Φ d u) (hl : off + d.flat.length ≤ ds.length) :
    RepL Φ (ds.take off ++ d.flat ++ ds.drop (off + d.flat.length)) (u.cells.zipIdx.foldl (fun (cs : Array Value) (c, j) => cs.setIfInBounds (off + j) c) arr).toList := by
  obtain ⟨h1, h2⟩ := hr.get
  obtain ⟨f1, f2⟩ := hd.flat.get
  have e : (u.cells.zipIdx.foldl (fun (cs : Array Value) (c, j) => cs.setIfInBounds (off + j) c) arr) = (u.cells.toList.zipIdx 0).foldl (fun (acc : Array Value) (p : Value × Nat) => acc.setIfInBounds (off + p.2) p.1) arr := by
    rw [← Array.foldl_toList, Array.toList_zipIdx]
  obtain ⟨g1, g2⟩ := fold_set u.cells.toList off 0 arr
  rw [e]
  refine RepL.of (by have := h1; simp [g1] at this ⊢; omega) fun k x c hx hc => ?_
  have hk : k < arr.size := by
    have := (List.getElem?_eq_some_iff.1 hc).1; simpa [g1] using this
  rw [Array.getElem?_toList, g2 k hk] at hc
  simp only [Nat.add_zero] at hc
  have hlen : u.cells.toList.length = d.flat.length := f1.symm
  by_cases ha : k < off
  · rw [List.append_assoc, List.getElem?_append_left (by simp; omega), List.getElem?_take, if_pos ha] at hx
    rw [if_neg (by omega)] at hc
    exact h2 k x c hx (by rw [Array.getElem?_toList]; exact hc)
  · by_cases hb : k < off + d.flat.length
    · rw [List.append_assoc, List.getElem?_append_right (by simp; omega), show (ds.take off).length = off by simp; omega, List.getElem?_append_left (by omega)] at hx
      rw [if_pos (by rw [hlen]; omega)] at hc
      exact f2 _ x c hx hc
    · rw [List.getElem?_append_right (by simp; omega), show (ds.take off ++ d.flat).length = off + d.flat.length by simp; omega, List.getElem?_drop, show off + d.flat.length + (k - (off + d.flat.length)) = k by omega] at hx
      rw [if_neg (by rw [hlen]; omega)] at hc
      exact h2 k x c hx (by rw [Array.getElem?_toList]; exact hc)

/-- cells, ideal and real, that own nothing -/
def CellsV (Φ : CM) (B : List Nat) (Vs : List V) (cs : List Value) : Prop := Vs.length = cs.length ∧ ∀ (j : Nat) V c, Vs[j]? = some V → cs[j]? = some c → okCell c ∧ V.known = true ∧ V.cp = V ∧ RepS Φ B V c

theorem flat_cells {V : V} {v : Value} (h : RepS Φ B V v) (hk : V.known = true) : CellsV Φ B V.cp.flat v.cells.toList := by
  have hc := h.cp
  have hcc := Idl.V.cp_cp V
  have hkk : V.cp.known = true := by rw [Idl.V.known_cp]; exact hk
  generalize V.cp = U at hc hcc hkk
  obtain ⟨f1, f2⟩ := flat_rep hc hkk
  refine ⟨by simpa using f1, fun j V' c hV hc' => ?_⟩
  obtain ⟨q1, q2, q3, _⟩ := f2 j V' c hV (by rw [← Array.getElem?_toList]; exact hc')
  refine ⟨q1, q2, ?_, q3⟩
  cases U with
  | d x =>
    have e : (Idl.V.d x).flat = x.flat.map .d := by cases x <;> rfl
    rw [e, List.getElem?_map, Option.map_eq_some_iff] at hV
    obtain ⟨_, _, rfl⟩ := hV; rfl
  | st vs =>
    cases hc with
    | st e ok q => exact (q V' (List.mem_of_getElem? hV)).1
  | _ =>
    cases j with
    | zero => simp [Idl.V.flat] at hV; subst hV; exact hcc
    | succ j => simp [Idl.V.flat] at hV

theorem fillV_step {ds es : List V} {arr : Array Value} {u : Value} {off : Nat} (hr : CellsV Φ B ds arr.toList) (hd : CellsV Φ B es u.cells.toList) (hl : off + es.length ≤ ds.length) :
    CellsV Φ B (ds.take off ++ es ++ ds.drop (off + es.length)) (u.cells.zipIdx.foldl (fun (cs : Array Value) (c, j) => cs.setIfInBounds (off + j) c) arr).toList := by
  obtain ⟨h1, h2⟩ := hr
  obtain ⟨f1, f2⟩ := hd
  have e : (u.cells.zipIdx.foldl (fun (cs : Array Value) (c, j) => cs.setIfInBounds (off + j) c) arr) = (u.cells.toList.zipIdx 0).foldl (fun (acc : Array Value) (p : Value × Nat) => acc.setIfInBounds (off + p.2) p.1) arr := by
    rw [← Array.foldl_toList, Array.toList_zipIdx]
  obtain ⟨g1, g2⟩ := fold_set u.cells.toList off 0 arr
  rw [e]
  refine ⟨by have := h1; simp [g1] at this ⊢; omega, fun k x c hx hc => ?_⟩
  have hk : k < arr.size := by
    have := (List.getElem?_eq_some_iff.1 hc).1; simpa [g1] using this
  rw [Array.getElem?_toList, g2 k hk] at hc
  simp only [Nat.add_zero] at hc
  have hlen : u.cells.toList.length = es.length := f1.symm
  by_cases ha : k < off
  · rw [List.append_assoc, List.getElem?_append_left (by simp; omega), List.getElem?_take, if_pos ha] at hx
    rw [if_neg (by omega)] at hc
    exact h2 k x c hx (by rw [Array.getElem?_toList]; exact hc)
  · by_cases hb : k < off + es.length
    · rw [List.append_assoc, List.getElem?_append_right (by simp; omega), show (ds.take off).length = off by simp; omega, List.getElem?_append_left (by omega)] at hx
      rw [if_pos (by rw [hlen]; omega)] at hc
      exact f2 _ x c hx hc
    · rw [List.getElem?_append_right (by simp; omega), show (ds.take off ++ es).length = off + es.length by simp; omega, List.getElem?_drop, show off + es.length + (k - (off + es.length)) = k by omega] at hx
      rw [if_neg (by rw [hlen]; omega)] at hc
      exact h2 k x c hx (by rw [Array.getElem?_toList]; exact hc)

theorem fill_rep {place : Nat → Option (Nat × Nat)} : ∀ {ps : List (Nat × V)} {us : List (Nat × Value)} {ds ds' : List V} {arr : Array Value}, fillD place ds ps = some ds' → CellsV Φ B ds arr.toList →
    PartsRep Φ B ps us → ∃ arr', Instr.fill place arr us = some arr' ∧ CellsV Φ B ds' arr'.toList
  | [], us, ds, ds', arr, h, hr, hf => by
    cases hf; simp [fillD] at h; subst h
    exact ⟨arr, rfl, hr⟩
  | (i, v) :: ps, us, ds, ds', arr, h, hr, hf => by
    cases hf with
    | cons hu hf =>
      rename_i u us
      simp only [fillD] at h
      split at h
      · rename_i off size e1
        split at h
        · rename_i hc
          obtain ⟨hkn, hc1, hc2⟩ := hc
          have hd := flat_cells hu hkn
          have hstep := fillV_step hr hd (by rw [hc1]; exact hc2)
          rw [hc1] at hstep
          obtain ⟨arr', k1, k2⟩ := fill_rep h hstep hf
          refine ⟨arr', ?_, k2⟩
          unfold Instr.fill
          simp only [e1]
          have hcs : u.cells.size = size := by
            have := hd.1; rw [hc1] at this; simpa using this.symm
          have hds : ds.length = arr.size := by simpa using hr.1
          rw [if_neg (by simp [hcs]; omega)]
          exact k1
        · cases h
      · cases h

theorem CellsV.known {Vs : List V} {cs : List Value} (h : CellsV Φ B Vs cs) : allKnown Vs = true := by
  have aux : ∀ l : List Idl.V, (∀ (j : Nat) V, l[j]? = some V → V.known = true) → allKnown l = true := by
    intro l
    induction l with
    | nil => intro _; rfl
    | cons x l ih => intro h; simp only [allKnown, Bool.and_eq_true]; exact ⟨h 0 x rfl, ih fun j V hV => h (j + 1) V (by simpa using hV)⟩
  refine aux _ fun j V hV => ?_
  have hj : j < cs.length := by rw [← h.1]; exact (List.getElem?_eq_some_iff.1 hV).1
  exact (h.2 j V _ hV (List.getElem?_eq_getElem hj)).2.1

theorem fillEl_rep {z : Nat} (hz0 : 0 < z) : ∀ {ps : List (Nat × V)} {us : List (Nat × Value)} {xs xs' : List D} {arr : Array Value}, fillEl z xs ps = some xs' → RepL Φ (xs.flatMap D.flat) arr.toList → (∀ x ∈ xs, x.flat.length = z) →
    PartsRep Φ B ps us → ∃ arr', Instr.fill (fun i => some (i * z, z)) arr us = some arr' ∧ RepL Φ (xs'.flatMap D.flat) arr'.toList ∧ (∀ x ∈ xs', x.flat.length = z)
  | [], us, xs, xs', arr, h, hr, hx, hf => by
    cases hf; simp [fillEl] at h; subst h
    exact ⟨arr, rfl, hr, hx⟩
  | (i, v) :: ps, us, xs, xs', arr, h, hr, hx, hf => by
    cases hf with
    | cons hu hf =>
      rename_i u us
      simp only [fillEl] at h
      split at h
      · rename_i d e2
        split at h
        · rename_i hc
          obtain ⟨hc1, hc2⟩ := hc
          have hd := rep_d? hu e2
          have hmul : i * z + z ≤ xs.length * z := by
            have : (i + 1) * z ≤ xs.length * z := Nat.mul_le_mul_right z hc2
            rw [Nat.add_mul] at this; omega
          have hlen := flat_length hx
          have hstep := fill_step (es := []) (off := i * z) hr hd (by rw [hc1, hlen]; exact hmul)
          rw [hc1] at hstep
          have hx' : ∀ x ∈ xs.set i d, x.flat.length = z := fun x hxm => by
            rcases List.mem_or_eq_of_mem_set hxm with e | e
            · exact hx x e
            · subst e; exact hc1
          have e3 : (xs.flatMap D.flat).take (i * z) ++ d.flat ++ (xs.flatMap D.flat).drop (i * z + z) = (xs.set i d).flatMap D.flat := by
            have hget := flat_get hx
            apply List.ext_getElem?
            intro k
            obtain ⟨q, r, hr', rfl⟩ : ∃ q r, r < z ∧ k = q * z + r := ⟨k / z, k % z, Nat.mod_lt _ hz0, by rw [Nat.mul_comm]; exact (Nat.div_add_mod k z).symm⟩
            rw [flat_get hx' q r hr', List.getElem?_set]
            clear hr hstep
            generalize xs.flatMap D.flat = F at hlen hget
            by_cases ha : q < i
            · have : (q + 1) * z ≤ i * z := Nat.mul_le_mul_right z ha
              rw [Nat.add_mul] at this
              rw [List.append_assoc, List.getElem?_append_left (by simp; omega), List.getElem?_take, if_pos (by omega), hget q r hr', if_neg (by omega)]
            · by_cases hb : q = i
              · subst hb
                rw [List.append_assoc, List.getElem?_append_right (by simp; omega), show (F.take (q * z)).length = q * z by simp; omega, List.getElem?_append_left (by rw [hc1]; omega), if_pos rfl, if_pos hc2]
                simp only [Option.bind_some]
                congr 1; omega
              · have : (i + 1) * z ≤ q * z := Nat.mul_le_mul_right z (by omega)
                rw [Nat.add_mul] at this
                rw [List.getElem?_append_right (by simp; omega), show (F.take (i * z) ++ d.flat).length = i * z + z by simp [hc1]; omega, List.getElem?_drop, show i * z + z + (q * z + r - (i * z + z)) = q * z + r by omega, hget q r hr', if_neg (Ne.symm hb)]
          rw [e3] at hstep
          obtain ⟨arr', k1, k2, k3⟩ := fillEl_rep hz0 h hstep hx' hf
          refine ⟨arr', ?_, k2, k3⟩
          unfold Instr.fill
          simp only
          have hcs : u.cells.size = z := by
            have := hd.flat.get.1; rw [hc1] at this; simpa using this.symm
          have hds : (xs.flatMap D.flat).length = arr.size := by simpa using hr.get.1
          rw [if_neg (by simp [hcs]; omega)]
          exact k1
        · cases h
      · cases h

theorem mapM_get {α β : Type} {f : α → Option β} : ∀ {l : List α} {m : List β}, l.mapM f = some m → l.length = m.length ∧ ∀ (j : Nat) y, m[j]? = some y → ∃ x, l[j]? = some x ∧ f x = some y
  | [], m, h => by simp at h; subst h; simp
  | x :: l, m, h => by
    rw [List.mapM_cons] at h
    cases e : f x with
    | none => simp [e] at h
    | some y =>
      cases e2 : l.mapM f with
      | none => simp [e, e2] at h
      | some m' =>
        simp [e, e2] at h; subst h
        obtain ⟨h1, h2⟩ := mapM_get e2
        refine ⟨by simp [h1], fun j y' hj => ?_⟩
        cases j with
        | zero => simp at hj; subst hj; exact ⟨x, rfl, e⟩
        | succ j => simpa using h2 j y' (by simpa using hj)

theorem zeroCs_rep {t : TypeId} {cs : List D} {i : TypeInfo} {zv : Value} (e : zeroCs P t = some cs) (hi : P.info? t = some i) (hz : i.zero = some zv) :
    ∀ (j : Nat) d, cs[j]? = some d → ∃ v, zv.cells[j]? = some v ∧ okCell v ∧ RepD Φ d v ∧ ∀ ds, d ≠ .agg ds := by
  unfold zeroCs at e
  simp only [hi, Option.bind_some, hz] at e
  intro j d hj
  obtain ⟨h1, h2⟩ := mapM_get e
  obtain ⟨⟨t', v⟩, h3, h4⟩ := h2 j d hj
  rw [List.getElem?_zip_eq_some] at h3
  refine ⟨v, by rw [← Array.getElem?_toList]; exact h3.2, (constD_rep (Φ := Φ) h4).2, (constD_rep h4).1, fun ds => ?_⟩
  rintro rfl
  simp only at h4
  unfold constD at h4
  split at h4 <;> simp at h4

theorem zero_rep {t : TypeId} {zd : D} {i : TypeInfo} {zv : Value} (e : (zeroCs P t).bind (ofCells P t) = some zd) (hi : P.info? t = some i) (hz : i.zero = some zv) (hl : zd.flat.length = zv.cells.size) : RepL Φ zd.flat zv.cells.toList := by
  cases e1 : zeroCs P t with
  | none => simp [e1] at e
  | some cs =>
    simp only [e1, Option.bind_some, ofCells] at e
    have hr := zeroCs_rep (Φ := Φ) e1 hi hz
    refine RepL.of (by simpa using hl) fun j d c hd hc => ?_
    have key : cs[j]? = some d := by
      split at e
      · injection e with e; subst e; exact hd
      · cases cs with
        | nil => simp at e
        | cons x cs =>
          simp at e; subst e
          obtain ⟨v, _, _, _, hna⟩ := hr 0 x rfl
          have : x.flat = [x] := by cases x <;> first | rfl | exact absurd rfl (hna _)
          rw [this] at hd
          cases j with
          | zero => simpa using hd
          | succ j => simp at hd
      · cases e
    obtain ⟨v, q1, q2, q3, _⟩ := hr j d key
    rw [Array.getElem?_toList, q1] at hc; injection hc with hc; subst hc
    exact ⟨q2, q3⟩

/-- so many zero values in a row -/
theorem zeros_rep {zd : D} {zc : Array Value} {n z : Nat} (hr : RepL Φ zd.flat zc.toList) (hz : zd.flat.length = z) (hz0 : 0 < z) :
    RepL Φ ((List.replicate n zd).flatMap D.flat) ((Array.range (n * z)).map (zc[· % zc.size]!)).toList := by
  obtain ⟨h1, h2⟩ := hr.get
  have hall : ∀ x ∈ List.replicate n zd, x.flat.length = z := fun x hx => by rw [(List.mem_replicate.1 hx).2]; exact hz
  have hzc : zc.size = z := by rw [← hz, h1]; simp
  refine RepL.of (by rw [flat_length hall]; simp) fun k d c hd hc => ?_
  obtain ⟨q, r, hr', rfl⟩ : ∃ q r, r < z ∧ k = q * z + r := ⟨k / z, k % z, Nat.mod_lt _ hz0, by rw [Nat.mul_comm]; exact (Nat.div_add_mod k z).symm⟩
  rw [flat_get hall q r hr', List.getElem?_replicate] at hd
  split at hd
  · simp only [Option.bind_some] at hd
    have hrz : r < zc.toList.length := by simp; omega
    simp at hc
    obtain ⟨m, hm, hc⟩ := hc
    have hm : q * z + r = m := by
      have := List.getElem?_eq_some_iff.1 hm; obtain ⟨_, h3⟩ := this; simpa using h3
    subst hm
    have e : (q * z + r) % zc.size = r := by rw [hzc, Nat.mul_comm, Nat.mul_add_mod, Nat.mod_eq_of_lt hr']
    rw [e] at hc
    have : zc.toList[r]? = some c := by
      rw [List.getElem?_eq_getElem hrz, ← hc]
      simp at hrz
      simp [hrz]
    exact h2 r d c hd this
  · simp at hd

theorem forall2_map {ps : List (Nat × Operand)} {t : Nat → TypeId} (h : Inv κ Φ B au s a w) : PartsRep Φ B (ps.map fun p => (p.1, ev P (t p.1) s p.2)) (ps.map fun p => (p.1, a.eval p.2)) := by
  induction ps with
  | nil => exact .nil
  | cons p ps ih => exact .cons (ev_rep h _ _) ih

theorem does_buildSlice {t : TypeId} {n : Nat} {ps : Array (Nat × Operand)} {r : List Oper} (h : Inv κ Φ B au s a w) (ho : o.op = .buildSlice t n ps) (hk : stepK P o r s K) : Does P κ o a w K := by
  simp only [stepK, ho] at hk
  split at hk
  · rename_i e z y e1 e2
    split at hk
    · rename_i zd ez
      split at hk
      · rename_i xs ex
        obtain ⟨hdst, hn, hzd, hz0, hk⟩ := hk
        obtain ⟨el, i, zv, hut, hi, hzv, hsz, hby, hzs⟩ := elI_inv e2
        have : e = el := by simp [elemTy, hut] at e1; exact e1.symm
        subst this
        have hz := zero_rep (Φ := Φ) ez hi hzv (by rw [hzd, hzs])
        have hzr := zeros_rep (n := n) hz hzd hz0
        obtain ⟨arr, k1, k2, k3⟩ := fillEl_rep (B := B) hz0 ex hzr (fun x hx => by rw [(List.mem_replicate.1 hx).2]; exact hzd) (forall2_map (P := P) (t := fun _ => e) (ps := ps.toList) h)
        have hxl : xs.length = n := by
          have aux : ∀ (ps : List (Nat × V)) (xs xs' : List D), fillEl z xs ps = some xs' → xs'.length = xs.length := by
            intro ps
            induction ps with
            | nil => intro xs xs' h; simp [fillEl] at h; rw [h]
            | cons p ps ih =>
              intro xs xs' h
              obtain ⟨i, v⟩ := p
              simp only [fillEl] at h
              split at h
              · split at h
                · rw [ih _ _ h]; simp
                · cases h
              · cases h
          rw [aux _ _ _ ex]; simp
        obtain ⟨d, hd⟩ := Option.isSome_iff_exists.1 hdst
        rw [hd] at hk
        obtain ⟨Φ', au', hfin⟩ := h.lay (el := e) (vs := arr.toList) (rest := []) (z := z) (xs := xs) k2 k3 d n (by omega) (by
          rw [← k2.get.1, flat_length k3, hxl]; simp)
        refine does_value (v := .slice (some ⟨w.heap.size, 0, none⟩) n n) ?_ hk ⟨Φ', B, au', by rw [hd]; simpa [hxl] using hfin⟩
        unfold execOp; rw [ho]; refine run_v ?_
        unfold Instr.buildSlice
        rw [Sem.run_bind, run_underlying hut]; simp only [Result.andThen_ok]
        rw [Sem.run_bind, run_sizeOf hi]; simp only [Result.andThen_ok, hsz]
        rw [if_neg (by omega)]
        have e9 : (ps.map fun (i, x) => (i, a.eval x)).toList = ps.toList.map fun p => (p.1, a.eval p.2) := by simp
        simp only [pure_bind]
        split
        · rename_i h0
          have hc0 : (Array.range (n * z)).map (fun x => (#[] : Array Value)[x % (#[] : Array Value).size]!) = (Array.range (n * z)).map (zv.cells[· % zv.cells.size]!) := by rw [h0]; simp
          rw [hc0, e9, k1]; rfl
        · rw [Sem.run_bind, run_zeroValue hi hzv]; simp only [Result.andThen_ok]
          rw [e9, k1]; rfl
      · exact hk.elim
    · exact hk.elim
  · exact hk.elim

/-- An array is laid. -/
theorem Inv.layArr (h : Inv κ Φ B au s a w) {el : TypeId} {c : Array Value} {z : Nat} {xs : List D} (hr : RepL Φ (xs.flatMap D.flat) c.toList) (hz : ∀ x ∈ xs, x.flat.length = z) :
    ∃ au', Inv κ Φ (B ++ [w.heap.size]) au' { s with hp := s.hp ++ [IObj.arr z xs] } a { w with heap := w.heap.push (.cells c el (0, 0)) } := by
  obtain ⟨au', g⟩ := h.alloc (cs := List.replicate c.size .un) (c := c) (el := el) (by simp) (fun j V v hV _ => by
    rw [List.getElem?_replicate] at hV
    split at hV
    · injection hV with hV; subst hV; exact ⟨fun h => by simp [Idl.V.known] at h, .un _, fun _ _ _ => trivial⟩
    · cases hV)
  refine ⟨au', ?_⟩
  have hb : (B ++ [w.heap.size])[s.hp.length]? = some w.heap.size := by rw [h.hl]; simp
  have hrep := g.hp s.hp.length (IObj.var (List.replicate c.size .un)) w.heap.size (by simp) hb
  obtain ⟨h1, _⟩ := hrep
  have e : ({ s with hp := s.hp ++ [IObj.arr z xs] } : St) = { s with hp := (s.hp ++ [IObj.var (List.replicate c.size .un)]).set s.hp.length (IObj.arr z xs) } := by simp
  rw [e]
  refine g.write (id := s.hp.length) (b := w.heap.size) hb h1 rfl (fun _ _ => rfl) rfl rfl rfl (fun r hr => ⟨r, hr⟩) ?_
  obtain ⟨q1, q2⟩ := hr.get
  refine fun _ => ⟨h1, c, el, by simp, by rw [← flat_length hz, q1]; simp, fun i x hx => ?_⟩
  have hxz := hz x (List.mem_of_getElem? hx)
  refine ⟨hxz, fun j d hd => ?_⟩
  have hj : j < z := by rw [← hxz]; exact (List.getElem?_eq_some_iff.1 hd).1
  have hg := flat_get hz i j hj
  rw [hx, Option.bind_some, hd] at hg
  have hlt : i * z + j < c.toList.length := by rw [← q1]; exact (List.getElem?_eq_some_iff.1 hg).1
  obtain ⟨a1, a2⟩ := q2 _ d _ hg (List.getElem?_eq_getElem hlt)
  exact ⟨c.toList[i * z + j], by rw [← Array.getElem?_toList]; exact List.getElem?_eq_getElem hlt, a1, a2⟩

theorem does_makeSlice {t : TypeId} {l c : Operand} {r : List Oper} (h : Inv κ Φ B au s a w) (ho : o.op = .makeSlice t l c) (hk : stepK P o r s K) : Does P κ o a w K := by
  simp only [stepK, ho] at hk
  split at hk
  · rename_i e z y k n k' m e1 e2 el ec
    split at hk
    · rename_i zd ez
      obtain ⟨hle, hn, hby, hnm, hzd, hz0, hk⟩ := hk
      obtain ⟨ty, i, zv, hut, hi, hzv, hsz, hyb, hzs⟩ := elI_inv e2
      have : e = ty := by simp [elemTy, hut] at e1; exact e1.symm
      subst this
      have hln := repD_int (ev_d h el)
      have hcn := repD_int (ev_d h ec)
      have hz := zero_rep (Φ := Φ) ez hi hzv (by rw [hzd, hzs])
      have hzr := zeros_rep (n := m.toNat) hz hzd hz0
      obtain ⟨au', hfin⟩ := h.layArr (el := e) (z := z) hzr (fun x hx => by rw [(List.mem_replicate.1 hx).2]; exact hzd)
      refine does_value (v := .slice (some ⟨w.heap.size, 0, none⟩) n.toNat m.toNat) ?_ hk ⟨Φ, _, au', hfin.put o.dst (.ref (b := w.heap.size) ?_ (by omega) fun _ => by rw [Nat.zero_mul]) fun _ _ => trivial⟩
      · unfold execOp; rw [ho]; refine run_v ?_
        have hw : IntKind.i64.wrap n = n := wrap_i64 (by omega) (by omega)
        have hw2 : IntKind.i64.wrap m = m := wrap_i64 (by omega) hnm
        subst hsz; subst hyb
        simp only [hln, hcn]
        unfold Instr.makeSlice
        rw [Sem.run_bind, run_underlying hut]; simp only [Result.andThen_ok, asInt, asIntOf, pure_bind]
        rw [Sem.run_bind, run_typeInfo hi]; simp only [Result.andThen_ok, hw, hw2]
        have c1 : decide (n < 0) = false := by simpa using hn
        have c0 : decide (m < 0) = false := by simp; omega
        have c2 : decide ((i.bytes : Int) * m > 2 ^ 48) = false := by simp; omega
        have c3 : decide (n > m) = false := by simp; omega
        simp only [c0, c1, c2, c3, Bool.or_self, Bool.false_eq_true, if_false]
        rw [Sem.run_bind, run_askRoom]; simp only [Result.andThen_ok]
        rw [Sem.run_bind, run_sizeOf hi]; simp only [Result.andThen_ok]
        split
        · rename_i h0
          have hc0 : (Array.range (m.toNat * i.size)).map (fun x => (#[] : Array Value)[x % (#[] : Array Value).size]!) = (Array.range (m.toNat * i.size)).map (zv.cells[· % zv.cells.size]!) := by rw [h0]; simp
          rw [hc0]; rfl
        · rw [Sem.run_bind, run_zeroValue hi hzv]; rfl
      · rw [h.hl]; simp
    · exact hk.elim
  · exact hk.elim

theorem run_places {fs : List Field} {pl : List (Nat × Nat)} (e : (fs.mapM fun f => (P.info? f.type).map fun i => (f.offset, i.size)) = some pl) :
    (fs.toArray.mapM fun f => (do pure (f.offset, ← sizeOf f.type) : Sem (Nat × Nat))).run P w = .ok pl.toArray w := by
  rw [List.mapM_toArray, Sem.run_map]
  have key : ∀ (fs : List Field) (pl : List (Nat × Nat)), (fs.mapM fun f => (P.info? f.type).map fun i => (f.offset, i.size)) = some pl → (fs.mapM fun f => (do pure (f.offset, ← sizeOf f.type) : Sem (Nat × Nat))).run P w = .ok pl w := by
    intro fs
    induction fs with
    | nil => intro pl e; simp at e; subst e; rfl
    | cons f fs ih =>
      intro pl e
      rw [List.mapM_cons] at e ⊢
      cases hi : P.info? f.type with
      | none => simp [hi] at e
      | some i =>
        cases e2 : (fs.mapM fun f => (P.info? f.type).map fun i => (f.offset, i.size)) with
        | none => simp [hi, e2] at e
        | some pl' =>
          simp [hi, e2] at e; subst e
          rw [Sem.run_bind, Sem.run_bind, run_sizeOf hi]; simp only [Result.andThen_ok, Sem.run_pure]
          rw [Sem.run_bind, ih pl' e2]; rfl
  rw [key fs pl e]; rfl

theorem does_build {t : TypeId} {ps : Array (Nat × Operand)} {r : List Oper} (h : Inv κ Φ B au s a w) (ho : o.op = .build t ps) (hk : stepK P o r s K) : Does P κ o a w K := by
  simp only [stepK, ho] at hk
  split at hk
  · rename_i pl z e1 e2
    split at hk
    · rename_i cs ecs
      obtain ⟨hl, hk⟩ := hk
      obtain ⟨fs, hut, e1⟩ : ∃ fs : Array Field, P.underlying t = some (.struct fs) ∧ (fs.toList.mapM fun f => (P.info? f.type).map fun i => (f.offset, i.size)) = some pl := by
        unfold placesD at e1
        split at e1
        · exact ⟨_, ‹_›, e1⟩
        · cases e1
      · obtain ⟨i, hi⟩ := info_of_underlying hut
        cases hz : i.zero with
        | none => simp [zeroCs, hi, hz] at e2
        | some zv =>
          have hzr := zeroCs_rep (Φ := Φ) e2 hi hz
          have hl' : z.length = zv.cells.size := by rw [hl, hi]; simp [hz]
          have hrl : CellsV Φ B (z.map V.d) zv.cells.toList := ⟨by simpa using hl', fun j V c hd hc => by
            simp only [List.getElem?_map, Option.map_eq_some_iff] at hd
            obtain ⟨d, hd, rfl⟩ := hd
            obtain ⟨v, q1, q2, q3, _⟩ := hzr j d hd
            rw [Array.getElem?_toList, q1] at hc; injection hc with hc; subst hc
            exact ⟨q2, rfl, rfl, .d q3⟩⟩
          have hp := forall2_map (P := P) (t := fun i => ((fieldOff P t i).map (·.2)).getD 0) (ps := ps.toList) h
          obtain ⟨arr, k1, k2⟩ := fill_rep (B := B) ecs hrl hp
          obtain ⟨r1, r2⟩ := mkAgg_rep (Φ := Φ) (B := B) (vs := arr.toList) k2.known k2.1 fun j V v hV hv => ⟨(k2.2 j V v hV hv).1, (k2.2 j V v hV hv).2.2.2⟩
          simp only [Array.toArray_toList] at r1
          refine does_plain h ?_ r1 (fun _ => r2 _ _ _ _) hk
          unfold execOp; rw [ho]; refine run_v ?_
          have e9 : (ps.map fun (i, x) => (i, a.eval x)).toList = ps.toList.map fun p => (p.1, a.eval p.2) := by simp
          unfold Instr.build
          rw [Sem.run_bind, run_zeroValue hi hz]; simp only [Result.andThen_ok, pure_bind]
          rw [Sem.run_bind, run_underlying hut]; simp only [Result.andThen_ok]
          have hpl := run_places (w := w) e1
          simp only [Array.toArray_toList] at hpl
          rw [Sem.run_bind, hpl]; simp only [Result.andThen_ok, e9]
          have e10 : (fun x : Nat => pl.toArray[x]?) = fun i : Nat => pl[i]? := by funext x; simp
          rw [e10, k1]; rfl
    · exact hk.elim
  · exact hk.elim

theorem does_index {t : TypeId} {x ix : Operand} {r : List Oper} (h : Inv κ Φ B au s a w) (ho : o.op = .index t x ix) (hk : stepK P o r s K) : Does P κ o a w K := by
  simp only [stepK, ho] at hk
  split at hk
  · rename_i bs k n e1 e2
    obtain ⟨hut, h0, h1, hk⟩ := hk
    have hs := repD_str (ev_d h e1)
    have hn := repD_int (ev_d h e2)
    refine does_plain h ?_ (.d (.int _ _)) (fun _ => trivial) hk
    unfold execOp; rw [ho]; refine run_v ?_
    simp only [hs, hn]
    unfold Instr.index
    simp only [asIntOf, pure_bind]
    rw [Sem.run_bind, run_underlying hut]; simp only [Result.andThen_ok]
    have hlt : n.toNat < bs.size := by omega
    rw [if_pos h0]
    have : bs[n.toNat]? = some bs[n.toNat]! := by
      rw [getElem?_pos bs n.toNat hlt, getElem!_pos bs n.toNat hlt]
    rw [this]; rfl
  · exact hk.elim

end
end Go.Idl
end
section
namespace Go.Idl

/-- The owners that a callee sees: no slots of the caller's. -/
def noSlots (au : Auth) : Auth := fun b => match au b with
  | some (.slot _ _, _) => none
  | x => x

theorem noSlots_some {au : Auth} {b st : Nat} {h : Holder} (e : noSlots au b = some (h, st)) : au b = some (h, st) ∧ ∀ i j, h ≠ .slot i j := by
  unfold noSlots at e
  split at e
  · cases e
  · rename_i hn
    refine ⟨e, ?_⟩
    rintro i j rfl
    exact hn _ _ _ e

theorem noSlots_of {au : Auth} {b st : Nat} {h : Holder} (e : au b = some (h, st)) (hn : ∀ i j, h ≠ .slot i j) : noSlots au b = some (h, st) := by
  unfold noSlots
  split
  · rename_i e'; rw [e] at e'; injection e' with e'; injection e' with e' _; exact absurd e' (hn _ _)
  · exact e

theorem noSlots_slot {au : Auth} {b st i j : Nat} (e : au b = some (.slot i j, st)) : noSlots au b = none := by
  unfold noSlots; rw [e]

theorem noSlots_none {au : Auth} {b : Nat} (e : au b = none) : noSlots au b = none := by
  unfold noSlots; rw [e]

/-- The owners behind a call. -/
def backAu (au au' : Auth) (dst : Option Nat) : Auth := fun b => match au b with
  | some (.slot i j, st) => some (.slot i j, st)
  | _ => match au' b with
    | some (.slot _ j, st) => match dst with
      | some d => some (.slot d j, st)
      | none => none
    | x => x

section
variable {P : Program} {κ : Ctx} {Φ : CM} {B : List Nat} {au : Auth} {s : St} {a : Act} {w : World} {K : St → Prop} {o : Oper}

/-- A callee's state at its begin. -/
theorem Inv.callee (h : Inv κ Φ B au s a w) {args : List V} {cargs : List Value} (hr : RepSL Φ B args cargs) (hc : ∀ v ∈ args, v.cp = v ∧ v.isTup = false) :
    Inv (Ctx.at_ Φ B (noSlots au) w) Φ B (noSlots au) ⟨args, s.hp, s.hp.length⟩ ⟨cargs.toArray, []⟩ w := by
  refine { phi := h.phi, phia := fun lb b o v h0 st hp ha => h.phia _ b o v h0 st hp (noSlots_some ha).1, auw := fun b h0 st ha => ⟨(h.auw b h0 st (noSlots_some ha).1).1, .inl (by simp only [Ctx.at_]; rw [ha]; simp)⟩, size := Nat.le_refl _, keep := fun _ _ _ => rfl, pre := List.prefix_refl _, lePhi := CM.le_refl _, tl := by simpa using hr.get.1, tm := fun i V v hV hv => ?_, hl := h.hl, nb := ⟨by rw [h.hl]; exact Nat.le_refl _, Nat.le_refl _⟩, hp := fun id o b ho hb => ?_, df := ⟨[], rfl, List.nodup_nil, by simp⟩, rd := fun l hl => (by cases hl), lp := fun l r e => ⟨r, e⟩, src := fun lb b o v e => .inl e, wo := ⟨rfl, rfl, rfl⟩ }
  · refine ⟨hr.get.2 i V v hV (by simpa using hv), ?_⟩
    obtain ⟨h1, h2⟩ := hc V (List.mem_of_getElem? hV)
    exact OwnV_of_cp h1 h2 _ _ _ _
  · exact (h.hp id o b ho hb).mono (CM.le_refl _) (fun _ _ h => h) (fun e => ⟨noSlots_of e (by simp), rfl⟩) (fun j b st e => ⟨noSlots_of e (by simp), rfl⟩)

/-- The caller's state behind a call. -/
theorem Inv.back (h : Inv κ Φ B au s a w) {Φ' : CM} {B' : List Nat} {au' : Auth} {r : V} {v : Value} {hp' : List IObj} {w' : World} {df : List Deferred}
    (g : Inv (Ctx.at_ Φ B (noSlots au) w) Φ' B' au' ⟨[r], hp', s.hp.length⟩ ⟨#[v], df⟩ w') (dst : Option Nat) :
    Inv κ Φ' B' (backAu au au' dst) ({ s with hp := hp' }.put dst r) (a.put dst v) w' := by
  -- what is a slot's of the caller's is not touched
  have hmine : ∀ b, (Ctx.at_ Φ B (noSlots au) w).mine b → ∃ h0 st, au b = some (h0, st) ∧ ∀ i j, h0 ≠ .slot i j := by
    intro b hb
    simp only [Ctx.at_] at hb
    cases e : noSlots au b with
    | none => exact absurd e hb
    | some x => obtain ⟨h0, st⟩ := x; exact ⟨h0, st, noSlots_some e⟩
  have hslot : ∀ b i j st, au b = some (.slot i j, st) → w'.heap[b]? = w.heap[b]? ∧ au' b = none := by
    intro b i j st e
    have hnm : ¬ (Ctx.at_ Φ B (noSlots au) w).mine b := by
      intro hm; obtain ⟨h0, st', e', hn⟩ := hmine b hm; rw [e] at e'; injection e' with e'; injection e' with e' _; exact hn _ _ e'.symm
    have hlt := (h.auw b _ _ e).1
    refine ⟨g.keep b hlt hnm, ?_⟩
    cases e2 : au' b with
    | none => rfl
    | some x =>
      obtain ⟨h0, st'⟩ := x
      rcases (g.auw b _ _ e2).2 with x | x
      · exact absurd x hnm
      · exact absurd hlt (Nat.not_lt.2 x)
  have hnone : ∀ b, b < w.heap.size → au b = none → w'.heap[b]? = w.heap[b]? ∧ au' b = none := by
    intro b hlt e
    have hnm : ¬ (Ctx.at_ Φ B (noSlots au) w).mine b := by
      intro hm; obtain ⟨h0, st', e', hn⟩ := hmine b hm; rw [e] at e'; cases e'
    refine ⟨g.keep b hlt hnm, ?_⟩
    cases e2 : au' b with
    | none => rfl
    | some x =>
      obtain ⟨h0, st'⟩ := x
      rcases (g.auw b _ _ e2).2 with x | x
      · exact absurd x hnm
      · exact absurd hlt (Nat.not_lt.2 x)
  have back_slot : ∀ b i j st, au b = some (.slot i j, st) → backAu au au' dst b = some (.slot i j, st) := fun b i j st e => by unfold backAu; rw [e]
  have back_keep : ∀ b h0 st, au' b = some (h0, st) → (∀ i j, h0 ≠ .slot i j) → backAu au au' dst b = some (h0, st) := by
    intro b h0 st e hn
    unfold backAu
    split
    · rename_i e'; have := (hslot _ _ _ _ e').2; rw [e] at this; cases this
    · rw [e]
      cases h0 with
      | slot i j => exact absurd rfl (hn i j)
      | _ => rfl
  have back_inv : ∀ b h0 st, backAu au au' dst b = some (h0, st) → (∃ i j, h0 = .slot i j ∧ au b = some (.slot i j, st)) ∨ ((∀ i j st, au b ≠ some (.slot i j, st)) ∧ ∃ h1, au' b = some (h1, st)) := by
    intro b h0 st e
    unfold backAu at e
    split at e
    · rename_i i j st' e'; injection e with e; injection e with e1 e2; subst e1; subst e2; exact .inl ⟨i, j, rfl, e'⟩
    · rename_i hn
      right
      refine ⟨fun i j st e' => hn i j st e', ?_⟩
      split at e
      · rename_i i j st' e'
        split at e
        · injection e with e; injection e with e1 e2; subst e2; exact ⟨_, e'⟩
        · cases e
      · exact ⟨_, e⟩
  have hBpre : B <+: B' := g.pre
  have hB : ∀ (i b : Nat), B[i]? = some b → B'[i]? = some b := fun i b e => by
    obtain ⟨t, rfl⟩ := hBpre
    rw [List.getElem?_append_left (List.getElem?_eq_some_iff.1 e).1]; exact e
  have hbase : Inv κ Φ' B' (backAu au au' dst) { s with hp := hp' } a w' := by
    refine { phi := g.phi, phia := fun lb b o v h0 st hp e => ?_, auw := fun b h0 st e => ?_, size := Nat.le_trans h.size g.size, keep := fun b hb hm => ?_, pre := h.pre.trans hBpre, lePhi := h.lePhi.trans g.lePhi, tl := h.tl, tm := fun i V v hV hv => ?_, hl := g.hl, nb := ⟨h.nb.1, by have h1 := h.nb.2; have h2 := g.nb.2; exact Nat.le_trans h1 h2⟩, hp := fun id o b ho hb => ?_, df := ?_, rd := fun l hl => ?_, lp := fun l r e => ?_, src := fun lb b o v e => ?_, wo := ⟨g.wo.1.trans h.wo.1, g.wo.2.1.trans h.wo.2.1, g.wo.2.2.trans h.wo.2.2⟩ }
    · rcases back_inv b h0 st e with ⟨i, j, rfl, e'⟩ | ⟨_, h1, e'⟩
      · rcases g.src _ b o v hp with x | x | x
        · exact h.phia _ b o v _ _ x e'
        · obtain ⟨h2, st2, e2, hn⟩ := hmine b x; rw [e'] at e2; injection e2 with e2; injection e2 with e2 _; exact absurd e2.symm (hn _ _)
        · exact absurd (h.auw b _ _ e').1 (Nat.not_lt.2 x)
      · exact g.phia _ b o v _ _ hp e'
    · rcases back_inv b h0 st e with ⟨i, j, rfl, e'⟩ | ⟨_, h1, e'⟩
      · exact ⟨Nat.lt_of_lt_of_le (h.auw b _ _ e').1 g.size, (h.auw b _ _ e').2⟩
      · refine ⟨(g.auw b _ _ e').1, ?_⟩
        rcases (g.auw b _ _ e').2 with x | x
        · obtain ⟨h2, st2, e2, hn⟩ := hmine b x; exact (h.auw b _ _ e2).2
        · exact .inr (Nat.le_trans h.size x)
    · have hlt : b < w.heap.size := Nat.lt_of_lt_of_le hb h.size
      rw [← h.keep b hb hm]
      refine g.keep b hlt fun x => ?_
      obtain ⟨h2, st2, e2, hn⟩ := hmine b x
      rcases (h.auw b _ _ e2).2 with y | y
      · exact hm y
      · omega
    · obtain ⟨k1, k2⟩ := h.tm i V v hV hv
      exact ⟨k1.mono g.lePhi hB, k2.mono fun j b st e => ⟨back_slot b i j st e, (hslot b i j st e).1⟩⟩
    · exact (g.hp id o b ho hb).mono (CM.le_refl _) (fun _ _ h => h) (fun e => ⟨back_keep b _ _ e (by simp), rfl⟩) (fun j b st e => ⟨back_keep b _ _ e (by simp), rfl⟩)
    · obtain ⟨rs, h1, h2, h3⟩ := h.df
      refine ⟨rs, h1, h2, fun r hr => ?_⟩
      obtain ⟨x, y, z⟩ := h3 r hr
      obtain ⟨p, q⟩ := hnone r (lt_of_heap x) y
      refine ⟨p.trans x, ?_, z⟩
      unfold backAu; rw [y, q]
    · obtain ⟨r, hr⟩ := h.rd l hl
      exact g.lp l r hr
    · obtain ⟨r', hr'⟩ := h.lp l r e
      exact g.lp l r' hr'
    · rcases g.src _ b o v e with x | x | x
      · exact h.src _ b o v x
      · obtain ⟨h2, st2, e2, hn⟩ := hmine b x; exact .inr (h.auw b _ _ e2).2
      · exact .inr (.inr (Nat.le_trans h.size x))
  have hr := g.tm 0 r v rfl rfl
  refine hbase.put dst hr.1 fun d hd => hr.2.mono fun j b st e => ⟨?_, rfl⟩
  unfold backAu
  split
  · rename_i e'; have := (hslot _ _ _ _ e').2; rw [e] at this; cases this
  · rw [e, hd]

theorem bare_of {v : V} (h : v.bare = true) : v.cp = v ∧ v.isTup = false := by
  cases v <;> simp_all [Idl.V.bare, Idl.V.cp, Idl.V.isTup]

theorem argVs_rep (h : Inv κ Φ B au s a w) (c : Call) (hl : c.args.size ≤ (c.argTypes.toList ++ List.replicate c.args.size 0).length) : RepSL Φ B (argVs P s c) (c.args.map a.eval).toList ∧ ∀ v ∈ argVs P s c, v.cp = v := by
  constructor
  · refine RepSL.of (by simp [argVs]) fun j d v hd hv => ?_
    simp only [argVs, List.getElem?_map, Option.map_eq_some_iff] at hd
    obtain ⟨⟨x, t⟩, hx, rfl⟩ := hd
    rw [List.getElem?_zip_eq_some] at hx
    simp only [Array.toList_map, List.getElem?_map, Option.map_eq_some_iff] at hv
    obtain ⟨y, hy, rfl⟩ := hv
    have : x = y := by have := hx.1; simp only at this; rw [hy] at this; injection this with this; exact this.symm
    subst this
    exact (ev_rep h t x).cp
  · intro v hv
    simp only [argVs, List.mem_map] at hv
    obtain ⟨⟨x, t⟩, _, rfl⟩ := hv
    exact Idl.V.cp_cp _

theorem run_callFunc {f : FuncId} {args : Array Value} (hb : hasBody P f = true) : (callFunc f args).run P w = .ok (.enter f args) w := by
  unfold hasBody at hb
  cases hf : P.funcs[f]? with
  | none => simp [hf] at hb
  | some fn =>
    simp only [hf, Bool.and_eq_true, bne_iff_ne, ne_eq] at hb
    obtain ⟨h1, h2⟩ := hb
    unfold callFunc
    rw [Sem.run_bind, run_program]; simp only [Result.andThen_ok, hf]
    rw [if_neg (by simpa using h2), if_neg (by cases hbd : fn.body <;> simp [hbd] at h1 ⊢)]
    rfl

def noCells : Obj → Bool
  | .cells .. => false
  | _ => true

theorem run_getObj {b : Nat} {ob : Obj} (e : w.heap[b]? = some ob) (hn : noCells ob = true) : (getObj b).run P w = .ok ob w := by
  cases ob <;> simp [noCells] at hn <;> simp [getObj, Sem.run, e]

theorem run_setObj {b : Nat} {ob ob' : Obj} (e : w.heap[b]? = some ob') (hn : noCells ob' = true) : (setObj b ob).run P w = .ok () { w with heap := w.heap.setIfInBounds b ob } := by
  cases ob' <;> simp [noCells] at hn <;> simp [setObj, Sem.run, pure, e]

theorem size_two {α : Type} {l : Array α} (h : l.size = 2) : ∃ x y, l = #[x, y] := by
  rcases l with ⟨_ | ⟨x, _ | ⟨y, _ | ⟨z, l⟩⟩⟩⟩ <;> simp at h
  exact ⟨x, y, rfl⟩

theorem resolve_fn {c : Call} {g : Operand} {fn : Fn} {caps : Array Value} {t : TypeId} (hc : c.callee = .value g) (hv : a.eval g = .func fn #[] caps) :
    (resolve a.eval c t).run P w = .ok { target := .fn fn caps, args := c.args.map a.eval } w := by
  unfold resolve
  simp only [hc, hv, Deferred.ofValue]
  have : (#[] : Array Value) ++ c.args.map a.eval = c.args.map a.eval := by simp
  rw [this]; rfl

theorem does_call0 {c : Call} (h : Inv κ Φ B au s a w) (ho : o.op = .call c) (hk : callK0 P c s o.dst K) : Does P κ o a w K := by
  have hargs := argVs_rep (P := P) h c (by simp)
  unfold callK0 at hk
  split at hk
  · rename_i g eg
    have hg := ev_rep (P := P) h 0 g
    split at hk
    · rename_i f caps ef
      obtain ⟨hbare, hk⟩ := hk
      rw [ef] at hg
      generalize hv : a.eval g = v at hg
      cases hg with
      | fn hcaps =>
        rename_i cc
        have hall : ∀ v ∈ argVs P s c ++ caps, v.cp = v ∧ v.isTup = false := fun v hv => bare_of (List.all_eq_true.1 hbare v hv)
        have hrep : RepSL Φ B (argVs P s c ++ caps) ((c.args.map a.eval).toList ++ cc) := by
          obtain ⟨a1, a2⟩ := hargs.1.get
          obtain ⟨b1, b2⟩ := hcaps.get
          refine RepSL.of (by simp [a1, b1]) fun j d v hd hv => ?_
          by_cases hj : j < (argVs P s c).length
          · rw [List.getElem?_append_left hj] at hd
            rw [List.getElem?_append_left (by rw [← a1]; exact hj)] at hv
            exact a2 j d v hd hv
          · rw [List.getElem?_append_right (by omega)] at hd
            rw [List.getElem?_append_right (by rw [← a1]; omega), ← a1] at hv
            exact b2 _ d v hd hv
        cases hb : hasBody P f with
        | false =>
          rw [hb] at hk
          obtain ⟨v, r, hp', w', h1, h2, Φ', B', au', g⟩ := hk Φ B (noSlots au) w _ (h.callee hrep hall)
          refine ⟨.value v, w', ?_, _, h2, Φ', B', _, h.back g o.dst⟩
          unfold execOp; rw [ho]; simp only
          rw [Sem.run_bind, resolve_fn eg hv]; simp only [Result.andThen_ok, invoke]
          rw [← h1]
          congr 2
          apply Array.ext'; simp
        | true =>
        rw [hb] at hk
        have hcall := hk Φ B (noSlots au) w _ (h.callee hrep hall)
        refine ⟨.enter f ((c.args.map a.eval).toList ++ cc).toArray, w, ?_, ?_⟩
        · unfold execOp; rw [ho]; simp only
          rw [Sem.run_bind, resolve_fn eg hv]; simp only [Result.andThen_ok, invoke]
          rw [run_callFunc hb]
          congr 2
          apply Array.ext'; simp
        · refine hcall.mono fun e w' => ?_
          rintro ⟨v, r, hp', rfl, hK, Φ', B', au', g⟩
          exact ⟨v, _, rfl, hK, Φ', B', _, h.back g o.dst⟩
    · rename_i id ef
      obtain ⟨hbare, hk⟩ := hk
      rw [ef] at hg
      generalize hv : a.eval g = v at hg
      cases hg with
      | yld hb =>
        rename_i b
        have hall : ∀ v ∈ argVs P s c, v.cp = v ∧ v.isTup = false := fun v hv => bare_of (List.all_eq_true.1 hbare v hv)
        have hh := h.callee hargs.1 hall
        obtain ⟨fn, tmps, asg, body, h1, h2⟩ := hk Φ B (noSlots au) w _ b hh hb
        refine ⟨.round b fn tmps asg body, w, ?_, ?_⟩
        · unfold execOp; rw [ho]; simp only
          rw [Sem.run_bind, resolve_fn eg hv]; simp only [Result.andThen_ok, invoke]
          rw [Array.toArray_toList] at h1; exact h1
        · refine RoundIn.mono h2 fun e w' => ?_
          rintro ⟨v, r, hp', rfl, hK, Φ', B', au', g⟩
          exact ⟨v, _, rfl, hK, Φ', B', _, h.back g o.dst⟩
    · exact hk.elim
  · rename_i eg
    have hx : ∀ {v : Value}, (Builtin.len_ c.argTypes o.type (c.args.map a.eval)).run P w = .ok v w → (execOp a.eval o).run P w = .ok (.value v) w := by
      intro v e
      unfold execOp; rw [ho]; simp only
      unfold resolve; simp only [eg, pure_bind]
      simp only [invoke, builtin]
      exact run_v e
    obtain ⟨a1, a2⟩ := hargs.1.get
    have harg0 : ∀ d, argVs P s c = [d] → ∃ v, (c.args.map a.eval)[0]? = some v ∧ RepS Φ B d v := by
      intro d e
      rw [e] at a1 a2
      have hl : 0 < (c.args.map a.eval).toList.length := by rw [← a1]; simp
      refine ⟨(c.args.map a.eval).toList[0], by rw [← Array.getElem?_toList]; exact List.getElem?_eq_getElem hl, a2 0 d _ rfl (List.getElem?_eq_getElem hl)⟩
    have hty : ∀ td, P.underlying (c.argTypes.getD 0 0) = some td → (∃ v, (c.args.map a.eval)[0]? = some v) → c.argTypes[0]?.isSome = true → c.argTypes[0]? = some (c.argTypes.getD 0 0) := by
      intro td _ _ hs
      obtain ⟨t, ht⟩ := Option.isSome_iff_exists.1 hs
      simp [Array.getD, ht, (Array.getElem?_eq_some_iff.1 ht).1, (Array.getElem?_eq_some_iff.1 ht).2]
    split at hk
    · rename_i l z xs e
      obtain ⟨hts, hel, hk⟩ := hk
      obtain ⟨v, q1, q2⟩ := harg0 _ e
      obtain ⟨et, hut⟩ : ∃ et, P.underlying (c.argTypes.getD 0 0) = some (.slice et) := by
        unfold elemTy at hel
        split at hel
        · exact ⟨_, ‹_›⟩
        · cases hel
      have q3 := hty _ hut ⟨v, q1⟩ hts
      cases q2 with
      | d q2 =>
        obtain ⟨ad, cap, rfl, _, _⟩ := q2.sl_inv
        refine does_plain h (hx ?_) (.d (.int _ _)) (fun _ => trivial) hk
        unfold Builtin.len_
        simp only [q1, q3]
        rw [Sem.run_bind, run_underlying hut]; rfl
    · rename_i z e
      obtain ⟨hts, hel, hk⟩ := hk
      obtain ⟨v, q1, q2⟩ := harg0 _ e
      obtain ⟨et, hut⟩ : ∃ et, P.underlying (c.argTypes.getD 0 0) = some (.slice et) := by
        unfold elemTy at hel
        split at hel
        · exact ⟨_, ‹_›⟩
        · cases hel
      have q3 := hty _ hut ⟨v, q1⟩ hts
      cases q2 with
      | nil =>
        refine does_plain h (hx ?_) (.d (.int _ _)) (fun _ => trivial) hk
        unfold Builtin.len_
        simp only [q1, q3]
        rw [Sem.run_bind, run_underlying hut]; rfl
    · rename_i bs e
      obtain ⟨hts, hut, hk⟩ := hk
      obtain ⟨v, q1, q2⟩ := harg0 _ e
      have q3 := hty _ hut ⟨v, q1⟩ hts
      cases q2 with
      | d q2 =>
        have := repD_str q2; subst this
        refine does_plain h (hx ?_) (.d (.int _ _)) (fun _ => trivial) hk
        unfold Builtin.len_
        simp only [q1, q3]
        rw [Sem.run_bind, run_underlying hut]; rfl
    · rename_i id z off n cap e
      obtain ⟨hts, hel, hk⟩ := hk
      obtain ⟨v, q1, q2⟩ := harg0 _ e
      obtain ⟨et, hut⟩ : ∃ et, P.underlying (c.argTypes.getD 0 0) = some (.slice et) := by
        unfold elemTy at hel
        split at hel
        · exact ⟨_, ‹_›⟩
        · cases hel
      have q3 := hty _ hut ⟨v, q1⟩ hts
      cases q2 with
      | ref _ _ _ =>
        refine does_plain h (hx ?_) (.d (.int _ _)) (fun _ => trivial) hk
        unfold Builtin.len_
        simp only [q1, q3]
        rw [Sem.run_bind, run_underlying hut]; rfl
      | ref0 =>
        refine does_plain h (hx ?_) (.d (.int _ _)) (fun _ => trivial) hk
        unfold Builtin.len_
        simp only [q1, q3]
        rw [Sem.run_bind, run_underlying hut]; rfl
    · rename_i id e
      split at hk
      · rename_i cl es ehp
        obtain ⟨hts, hel, hk⟩ := hk
        obtain ⟨v, q1, q2⟩ := harg0 _ e
        obtain ⟨kt, et, hut⟩ : ∃ kt et, P.underlying (c.argTypes.getD 0 0) = some (.map kt et) := by
          unfold mapTy at hel
          split at hel
          · exact ⟨_, _, ‹_›⟩
          · cases hel
        have q3 := hty _ hut ⟨v, q1⟩ hts
        cases q2 with
        | map hb =>
          obtain ⟨m1, ms, m2, m3, _⟩ := h.hp id _ _ ehp hb
          refine does_plain h (hx (v := .int .i64 es.length) ?_) (.d (.int _ _)) (fun _ => trivial) hk
          unfold Builtin.len_
          simp only [q1, q3]
          rw [Sem.run_bind, run_underlying hut]; simp only [Result.andThen_ok]
          rw [Sem.run_bind, run_getObj m2 rfl]; simp only [Result.andThen_ok, m3]; rfl
      · exact hk.elim
    · exact hk.elim
  · rename_i eg
    split at hk
    · rename_i x y exy
      split at hk
      · rename_i z xs ly z' ys e1 e2
        split at hk
        · rename_i sz by_ eel
          obtain ⟨hdst, htys, rfl, rfl, hz0, hxt, hy0, hb, hk⟩ := hk
          obtain ⟨d, hd⟩ := Option.isSome_iff_exists.1 hdst
          obtain ⟨t0, t1, ety⟩ := size_two htys
          have eargs : c.args = #[x, y] := by
            have := congrArg List.toArray exy; simpa using this
          rw [ety] at e1 e2 eel hxt
          have ed0 : (#[t0, t1] : Array TypeId).getD 0 0 = t0 := rfl
          have ed1 : (#[t0, t1] : Array TypeId).getD 1 0 = t1 := rfl
          rw [ed0] at e1 eel
          rw [ed1] at e2 hxt
          have hrx := ev_rep (P := P) h t0 x
          rw [ety, ed0] at hk
          have hvx : RepD Φ (.sl false z' xs) (a.eval x) := by
            generalize ev P t0 s x = X at hrx e1
            generalize a.eval x = u at hrx
            unfold appBase at e1
            split at e1
            · injection e1 with e1; injection e1 with e1 e3; subst e1; subst e3; cases hrx with | own q => exact q
            · injection e1 with e1; injection e1 with e1 e3; subst e1; subst e3; cases hrx with | nil => exact .sl0
            · cases e1
          have hvy : RepD Φ (.sl ly z' ys) (a.eval y) := rep_d? (ev_rep (P := P) h t1 y).cp e2
          have htl : ∀ (X : V) (u : Value) (hd : Nat → Holder), appBase X = some (z', xs) → RepS Φ B X u → OwnV au w hd X u → TailOK au w (hd 0) z' u := by
            intro X u hd e hr ho
            unfold appBase at e
            split at e
            · injection e with e; injection e with e e3; subst e; exact ho
            · injection e with e; injection e with e e3; subst e
              cases hr with | nil => exact ⟨_, _, _, rfl, .inl rfl⟩
            · cases e
          have hcpx : ∀ X : V, appBase X = some (z', xs) → X.cp.cp = X.cp ∧ X.cp.isTup = false := by
            intro X e
            unfold appBase at e
            split at e
            · exact ⟨rfl, rfl⟩
            · exact ⟨rfl, rfl⟩
            · cases e
          -- the first slice's place, stripped
          obtain ⟨i0, hinv, htail, hst⟩ : ∃ i0, Inv κ Φ B au { s with tm := s.at_ x (ev P t0 s x).cp } a w ∧ TailOK au w (.slot i0 0) z' (a.eval x) ∧ ∀ V, (s.at_ x (ev P t0 s x).cp)[i0]? = some V → V.cp = V ∧ V.isTup = false := by
            cases x with
            | tmp i =>
              refine ⟨i, h.strip i, htl _ _ (fun j => .slot i j) e1 hrx (tm_get h i).2, ?_⟩
              intro V hV
              have hV' : (s.tm.set i (ev P t0 s (.tmp i)).cp)[i]? = some V := hV
              rw [List.getElem?_set, if_pos rfl] at hV'
              split at hV'
              · injection hV' with hV'; subst hV'; exact hcpx _ e1
              · cases hV'
            | const v =>
              refine ⟨s.tm.length, h, htl _ _ (fun j => .slot s.tm.length j) e1 hrx (constV_rep (P := P) (t := t0) (v := v) (Φ := Φ) (B := B)).2.1, fun V hV => ?_⟩
              · have hV' : s.tm[s.tm.length]? = some V := hV
                simp at hV'
            | «global» g => cases e1
            | func f => cases e1
          obtain ⟨rv, w', g1, Φ', au', g2⟩ := run_append (P := P) hinv (st := t0) (xt := t1) (rt := o.type) eel hxt hz0 hy0 hb hvx hvy htail hst d
          refine does_value (v := rv) (w' := w') ?_ hk ⟨Φ', B, au', by rw [hd]; exact g2⟩
          unfold execOp; rw [ho]; simp only
          unfold resolve; simp only [eg, pure_bind]
          simp only [invoke, builtin]
          refine run_v ?_
          rw [ety, eargs]
          simpa using g1
        · exact hk.elim
      · exact hk.elim
    · exact hk.elim
  · rename_i eg
    split at hk
    · rename_i k p k' q e
      obtain ⟨a1, a2⟩ := hargs.1.get
      rw [e] at a1 a2
      have hl : (c.args.map a.eval).toList.length = 2 := by rw [← a1]; rfl
      have h0 := a2 0 _ _ rfl (List.getElem?_eq_getElem (by rw [hl]; decide))
      have h1 := a2 1 _ _ rfl (List.getElem?_eq_getElem (by rw [hl]; decide))
      refine does_plain h ?_ (.d (.int _ _)) (fun _ => trivial) hk
      unfold execOp; rw [ho]; simp only
      unfold resolve; simp only [eg, pure_bind]
      simp only [invoke, builtin]
      refine run_v ?_
      unfold Builtin.min_
      generalize (c.args.map a.eval).toList = l at *
      rcases l with _ | ⟨u, _ | ⟨v, _ | ⟨_, _⟩⟩⟩ <;> simp at hl
      simp at h0 h1
      cases h0 with | d h0 => cases h1 with | d h1 => rw [repD_int h0, repD_int h1]; rfl
    · exact hk.elim
  · rename_i eg
    split at hk
    · rename_i k p k' q e
      obtain ⟨a1, a2⟩ := hargs.1.get
      rw [e] at a1 a2
      have hl : (c.args.map a.eval).toList.length = 2 := by rw [← a1]; rfl
      have h0 := a2 0 _ _ rfl (List.getElem?_eq_getElem (by rw [hl]; decide))
      have h1 := a2 1 _ _ rfl (List.getElem?_eq_getElem (by rw [hl]; decide))
      refine does_plain h ?_ (.d (.int _ _)) (fun _ => trivial) hk
      unfold execOp; rw [ho]; simp only
      unfold resolve; simp only [eg, pure_bind]
      simp only [invoke, builtin]
      refine run_v ?_
      unfold Builtin.max_
      generalize (c.args.map a.eval).toList = l at *
      rcases l with _ | ⟨u, _ | ⟨v, _ | ⟨_, _⟩⟩⟩ <;> simp at hl
      simp at h0 h1
      cases h0 with | d h0 => cases h1 with | d h1 => rw [repD_int h0, repD_int h1]; rfl
    · exact hk.elim
  · exact hk.elim

end
end Go.Idl
end
