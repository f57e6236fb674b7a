/- Forgetting objects; entering functions.; Entering functions; ranging over functions; rounds.; Pure calls; ranging over functions; rounds.; Regions whose order is drawn: a free part, whose operations do not feel each other unless one waits for the other, and a rest that waits for all. -/
import Derived.OrdersIn
import Derived.Test.YtkfpaffcglijeaaQueueApartPart06
set_option linter.all false
section
namespace Go.Idl

mutual
/-- does a value name objects below m alone? -/
def V.lt (m : Nat) : V → Bool
  | .ptr id _ | .aptr id _ _ _ | .ref id _ _ _ _ | .yld id | .map id => decide (id < m)
  | .fn _ caps => V.ltL m caps
  | .tup vs => V.ltL m vs
  | .st vs => V.ltL m vs
  | _ => true
def V.ltL (m : Nat) : List V → Bool
  | [] => true
  | v :: vs => V.lt m v && V.ltL m vs
end

def IObj.lt (m : Nat) : IObj → Bool
  | .var cs => V.ltL m cs
  | .loop _ _ tm _ _ _ => V.ltL m tm
  | .map _ es => V.ltL m (es.map (·.2.2))
  | .iter id _ _ _ => decide (id < m)
  | _ => true

def ltObjs (m : Nat) : List IObj → Bool
  | [] => true
  | o :: os => o.lt m && ltObjs m os

mutual
theorem RepS.lt {Φ : CM} {B : List Nat} {m : Nat} : ∀ {V : V} {v : Value}, RepS Φ B V v → V.lt m = true → RepS Φ (B.take m) V v
  | _, _, .un v, _ => .un v
  | _, _, .d x, _ => .d x
  | _, _, .nil, _ => .nil
  | _, _, .st e ok q, h => .st (RepSL.lt e (by simpa [V.lt] using h)) ok q
  | _, _, .own x, _ => .own x
  | _, _, .hold a b, _ => .hold a b
  | _, _, .ptr e, h => .ptr (by rw [List.getElem?_take, if_pos (by simpa [V.lt] using h)]; exact e)
  | _, _, .aptr e, h => .aptr (by rw [List.getElem?_take, if_pos (by simpa [V.lt] using h)]; exact e)
  | _, _, .lptr e, _ => .lptr e
  | _, _, .ref e l q, h => .ref (by rw [List.getElem?_take, if_pos (by simpa [V.lt] using h)]; exact e) l q
  | _, _, .ref0, _ => .ref0
  | _, _, .fn e, h => .fn (RepSL.lt e (by simpa [V.lt] using h))
  | _, _, .yld e, h => .yld (by rw [List.getElem?_take, if_pos (by simpa [V.lt] using h)]; exact e)
  | _, _, .tup e, h => .tup (RepSL.lt e (by simpa [V.lt] using h))
  | _, _, .map e, h => .map (by rw [List.getElem?_take, if_pos (by simpa [V.lt] using h)]; exact e)
theorem RepSL.lt {Φ : CM} {B : List Nat} {m : Nat} : ∀ {V : List V} {v : List Value}, RepSL Φ B V v → Idl.V.ltL m V = true → RepSL Φ (B.take m) V v
  | _, _, .nil, _ => .nil
  | _, _, .cons a b, h => by
    simp only [V.ltL, Bool.and_eq_true] at h
    exact .cons (RepS.lt a h.1) (RepSL.lt b h.2)
end

theorem ltL_get {m : Nat} : ∀ {vs : List V}, V.ltL m vs = true → ∀ (i : Nat) v, vs[i]? = some v → v.lt m = true
  | [], _, i, v, h => by simp at h
  | u :: vs, h, i, v, hv => by
    simp only [V.ltL, Bool.and_eq_true] at h
    cases i with
    | zero => simp at hv; subst hv; exact h.1
    | succ i => exact ltL_get h.2 i v (by simpa using hv)

theorem ltObjs_get {m : Nat} : ∀ {os : List IObj}, ltObjs m os = true → ∀ (i : Nat) o, os[i]? = some o → o.lt m = true
  | [], _, i, v, h => by simp at h
  | u :: os, h, i, v, hv => by
    simp only [ltObjs, Bool.and_eq_true] at h
    cases i with
    | zero => simp at hv; subst hv; exact h.1
    | succ i => exact ltObjs_get h.2 i v (by simpa using hv)

theorem RepO.lt {Φ : CM} {B : List Nat} {au : Auth} {w : World} {id b m : Nat} {o : IObj} (h : RepO Φ B au w id b o) (hl : o.lt m = true) : RepO Φ (B.take m) au w id b o := by
  cases o with
  | free => trivial
  | var cs =>
    obtain ⟨h1, c, el, h2, h3, h4⟩ := h
    refine ⟨h1, c, el, h2, h3, fun j V hj => ?_⟩
    obtain ⟨v, g1, g2, g3, g4⟩ := h4 j V hj
    exact ⟨v, g1, g2, g3.lt (ltL_get (by simpa [IObj.lt] using hl) j V hj), g4⟩
  | arr z xs => exact h
  | map clock es =>
    obtain ⟨h1, ms, h2, h3, h4⟩ := h
    refine ⟨h1, ms, h2, h3, fun i n k V hi => ?_⟩
    obtain ⟨e, g1, g2, g3, g4⟩ := h4 i n k V hi
    exact ⟨e, g1, g2, g3, g4.lt (ltL_get (vs := es.map (·.2.2)) (by simpa [IObj.lt] using hl) i V (by rw [List.getElem?_map, hi]; rfl))⟩
  | iter id _ _ _ =>
    obtain ⟨h1, bm, h2, h3⟩ := h
    exact ⟨h1, bm, by rw [List.getElem?_take, if_pos (by simpa [IObj.lt] using hl)]; exact h2, h3⟩
  | loop _ _ _ _ _ _ =>
    obtain ⟨h1, fn, tmps, dr, h2, h3, h4⟩ := h
    exact ⟨h1, fn, tmps, dr, h2, h3.lt (by simpa [IObj.lt] using hl), h4⟩

section
variable {P : Program} {κ : Ctx} {Φ : CM} {B : List Nat} {au : Auth} {s : St} {a : Act} {w : World} {K : St → Prop} {o : Oper}

/-- **Objects are forgotten**: those from the m-th on, with all that names them. -/
theorem St.le_cut (m : Nat) {tm : List V} (h : LeTm s.tm tm) (ht : V.ltL m tm = true) (hh : ltObjs m (s.hp.take m) = true) (hm : s.nb ≤ m) (hm' : m ≤ s.hp.length) : s.le { tm := tm, hp := s.hp.take m, nb := s.nb } := by
  intro κ a w hr
  obtain ⟨Φ, B, au, hi⟩ := St.le_tm h κ a w hr
  refine ⟨Φ, B.take m, au, { hi with pre := ?_, tm := fun i V v hV hv => ?_, hl := ?_, nb := ⟨hi.nb.1, by simp; omega⟩, hp := fun id o b ho hb => ?_ }⟩
  · obtain ⟨t, e⟩ := hi.pre
    have hle : κ.B.length ≤ m := Nat.le_trans hi.nb.1 hm
    refine ⟨t.take (m - κ.B.length), ?_⟩
    rw [← e, List.take_append, List.take_of_length_le hle]
  · obtain ⟨g1, g2⟩ := hi.tm i V v hV hv
    exact ⟨g1.lt (ltL_get ht i V hV), g2⟩
  · have := hi.hl; simp at this ⊢; omega
  · have ho' : s.hp[id]? = some o := by
      rw [List.getElem?_take] at ho; split at ho
      · exact ho
      · cases ho
    have hb' : B[id]? = some b := by
      rw [List.getElem?_take] at hb; split at hb
      · exact hb
      · cases hb
    exact (hi.hp id o b ho' hb').lt (ltObjs_get hh id o ho)

/-! ### Results -/
def resV (P : Program) (s : St) : ResultVar → Option V
  | .tmp t => if (s.tm.getD t .un).isTup then none else some (s.tm.getD t .un)
  | .cell a t => match s.tm.getD a .un with
    | .ptr id off => match s.hp[id]? with
      | some (.var cs) => match kindD P t with
        | some true => match allD ((cs.drop off).take (sizeD P t)) with
          | some ds => if ds.length = sizeD P t then some (.d (.agg ds)) else none
          | none => none
        | some false => match cs[off]? with
          | some v => if v.isTup then none else some v.cp
          | none => none
        | none => none
      | _ => none
    | _ => none

def resVs (P : Program) (s : St) : List ResultVar → Option (List V)
  | [] => some []
  | r :: rs => match resV P s r, resVs P s rs with
    | some v, some vs => some (v :: vs)
    | _, _ => none

def retV (P : Program) (fn : Func) (s : St) : Option V := match resVs P s fn.results.toList with
  | some [v] => some v
  | some vs => some (.tup vs)
  | none => none

/-- what is asked at a function's end -/
def retK (P : Program) (fn : Func) (K : V → List IObj → Prop) (e : Ex) (s : St) : Prop :=
  match e with
  | .normal | .ret => match retV P fn s with
    | some v => K v s.hp
    | none => False
  | _ => False

theorem run_resV (h : Inv κ Φ B au s a w) {r : ResultVar} {V : V} (e : resV P s r = some V) :
    ∃ v, (match r with | .tmp t => pure (a.tmps.getD t undef) | .cell x t => do loadVar t (← asAddr (a.tmps.getD x undef)) : Sem Value).run P w = .ok v w ∧ RepS Φ B V v ∧ V.isTup = false ∧
      ((∃ t, r = .tmp t ∧ OwnV au w (.slot t) V v) ∨ V.cp = V) := by
  cases r with
  | tmp t =>
    simp only [resV] at e
    split at e
    · cases e
    · rename_i hn
      injection e with e; subst e
      obtain ⟨g1, g2⟩ := tm_get h t
      exact ⟨_, rfl, g1, by simpa using hn, .inl ⟨t, rfl, g2⟩⟩
  | cell x t =>
    simp only [resV] at e
    split at e
    · rename_i id off ex
      split at e
      · rename_i cs ecs
        have hr := (tm_get h x).1
        rw [ex] at hr
        obtain ⟨b, c, el, hb, h1, h2, h3, h4⟩ := h.varAt ecs
        have hp := hr.ptr_inv hb
        split at e
        · rename_i hk
          split at e
          · rename_i ds ed
            split at e
            · rename_i hl
              injection e with e; subst e
              obtain ⟨q1, q2⟩ := allD_get ed
              obtain ⟨v, g1, g2⟩ := load_agg (P := P) (Φ := Φ) (w := w) (ds := ds) (off := off) hk h2 hl (fun j d hj => by
                obtain ⟨V, k1, k2⟩ := q2 j d hj
                rw [List.getElem?_take] at k1
                split at k1
                · rw [List.getElem?_drop] at k1
                  obtain ⟨v, m1, m2, m3, _⟩ := h4 _ V k1
                  exact ⟨v, m1, m2 (V.d?_known k2), rep_d? m3 k2⟩
                · cases k1)
              refine ⟨v, ?_, .d g2, rfl, .inr rfl⟩
              simp only [hp, asAddr, pure_bind]; exact g1
            · cases e
          · cases e
        · rename_i hk
          split at e
          · rename_i v0 ev0
            split at e
            · cases e
            · rename_i hn
              injection e with e; subst e
              obtain ⟨v, m1, m2, m3, m4⟩ := h4 off v0 ev0
              refine ⟨v, ?_, m3.cp, ?_, .inr (Idl.V.cp_cp _)⟩
              · simp only [hp, asAddr, pure_bind]
                exact load_scalar hk (by rw [cell_of h2]; exact m1)
              · cases v0 <;> simp_all [Idl.V.cp, Idl.V.isTup]
          · cases e
        · cases e
      · cases e
    · cases e

/-- which result, if any, is this slot? -/
def slotAt (t : Nat) : List ResultVar → Nat → Option Nat
  | [], _ => none
  | .tmp u :: rs, j => if u = t then some j else slotAt t rs (j + 1)
  | _ :: rs, j => slotAt t rs (j + 1)

/-- The owners of what a function hands back. -/
def resAu (au : Auth) (rs : List ResultVar) : Auth := fun b => match au b with
  | some (.slot t _, st) => match slotAt t rs 0 with
    | some j => some (.slot 0 j, st)
    | none => none
  | x => x

theorem slotAt_ge {t : Nat} : ∀ {rs : List ResultVar} {j k : Nat}, slotAt t rs j = some k → j ≤ k ∧ ∃ i, k = j + i ∧ rs[i]? = some (.tmp t)
  | [], _, _, h => by simp [slotAt] at h
  | .tmp u :: rs, j, k, h => by
    simp only [slotAt] at h
    split at h
    · rename_i e; injection h with h; subst h; exact ⟨Nat.le_refl _, 0, rfl, by simp [e]⟩
    · obtain ⟨h1, i, h2, h3⟩ := slotAt_ge h; exact ⟨by omega, i + 1, by omega, by simpa using h3⟩
  | .cell u v :: rs, j, k, h => by
    simp only [slotAt] at h
    obtain ⟨h1, i, h2, h3⟩ := slotAt_ge h; exact ⟨by omega, i + 1, by omega, by simpa using h3⟩

/-- are the results' slots different ones? -/
def resSlots : List ResultVar → List Nat
  | [] => []
  | .tmp t :: rs => t :: resSlots rs
  | _ :: rs => resSlots rs

theorem slotAt_of {t : Nat} : ∀ {rs : List ResultVar} {j i : Nat}, (resSlots rs).Nodup → rs[i]? = some (.tmp t) → slotAt t rs j = some (j + i)
  | [], _, i, _, h => by simp at h
  | .tmp u :: rs, j, i, hn, h => by
    simp only [resSlots, List.nodup_cons] at hn
    cases i with
    | zero => simp at h; subst h; simp [slotAt]
    | succ i =>
      simp at h
      have hmem : t ∈ resSlots rs := by
        clear hn
        induction rs generalizing i with
        | nil => simp at h
        | cons r rs ih =>
          cases i with
          | zero => simp at h; subst h; simp [resSlots]
          | succ i =>
            have := ih i (by simpa using h)
            cases r <;> simp [resSlots, this]
      have : u ≠ t := by rintro rfl; exact hn.1 hmem
      simp only [slotAt]; rw [if_neg this, slotAt_of hn.2 h]; congr 1; omega
  | .cell u v :: rs, j, i, hn, h => by
    simp only [resSlots] at hn
    cases i with
    | zero => simp at h
    | succ i =>
      simp at h
      simp only [slotAt]; rw [slotAt_of hn h]; congr 1; omega

/-- one result, read -/
def resRead (a : Act) : ResultVar → Go.Sem Value
  | .tmp t => pure (a.tmps.getD t undef)
  | .cell x t => do loadVar t (← asAddr (a.tmps.getD x undef))

theorem run_resVs (h : Inv κ Φ B au s a w) : ∀ {rs : List ResultVar} {vs : List V}, resVs P s rs = some vs →
    ∃ us : List Value, (rs.mapM (resRead a)).run P w = .ok us w ∧ RepSL Φ B vs us ∧ (∀ v ∈ vs, v.isTup = false) ∧
      ∀ (i : Nat) V u, vs[i]? = some V → us[i]? = some u → (∃ t, rs[i]? = some (.tmp t) ∧ OwnV au w (.slot t) V u) ∨ V.cp = V
  | [], vs, e => by
    simp [resVs] at e; subst e
    exact ⟨[], rfl, .nil, by simp, by simp⟩
  | r :: rs, vs, e => by
    simp only [resVs] at e
    split at e
    · rename_i V Vs e1 e2
      injection e with e; subst e
      obtain ⟨v, g1, g2, g3, g4⟩ := run_resV (P := P) h e1
      obtain ⟨us, k1, k2, k3, k4⟩ := run_resVs h e2
      refine ⟨v :: us, ?_, .cons g2 k2, by simpa using ⟨g3, k3⟩, fun i V' u hV hu => ?_⟩
      · rw [List.mapM_cons, Sem.run_bind]
        have : (resRead a r).run P w = .ok v w := by cases r <;> exact g1
        rw [this]; simp only [Result.andThen_ok]
        rw [Sem.run_bind, k1]; rfl
      · cases i with
        | zero =>
          simp at hV hu; subst hV; subst hu
          rcases g4 with ⟨t, ht, ho⟩ | hc
          · exact .inl ⟨t, by simp [ht], ho⟩
          · exact .inr hc
        | succ i => simpa using k4 i V' u (by simpa using hV) (by simpa using hu)
    · cases e

/-- A function's results, and the state that the caller takes up. -/
theorem run_results {fn : Func} {r : V} (h : Inv κ Φ B au s a w) (hn : (resSlots fn.results.toList).Nodup) (e : retV P fn s = some r) :
    ∃ v, (results fn a.tmps).run P w = .ok v w ∧ Inv κ Φ B (resAu au fn.results.toList) ⟨[r], s.hp, s.nb⟩ ⟨#[v], a.defers⟩ w := by
  unfold retV at e
  cases e1 : resVs P s fn.results.toList with
  | none => rw [e1] at e; cases e
  | some vs =>
    obtain ⟨us, k1, k2, k3, k4⟩ := run_resVs (P := P) h e1
    obtain ⟨q1, q2⟩ := k2.get
    have hmap : (fn.results.mapM (resRead a)).run P w = .ok us.toArray w := by
      rw [← Array.toArray_toList (xs := fn.results), List.mapM_toArray, Sem.run_map, k1]; rfl
    have au_other : ∀ b h0 st, au b = some (h0, st) → (∀ i j, h0 ≠ .slot i j) → resAu au fn.results.toList b = some (h0, st) := by
      intro b h0 st e hn
      unfold resAu; rw [e]
      cases h0 with
      | slot i j => exact absurd rfl (hn i j)
      | _ => rfl
    have au_inv : ∀ b h0 st, resAu au fn.results.toList b = some (h0, st) → ∃ h1, au b = some (h1, st) := by
      intro b h0 st e
      unfold resAu at e
      split at e
      · rename_i e2
        split at e
        · injection e with e; injection e with _ e; subst e; exact ⟨_, e2⟩
        · cases e
      · exact ⟨_, e⟩
    have au_none : ∀ b, au b = none → resAu au fn.results.toList b = none := fun b e => by unfold resAu; rw [e]
    have au_slot : ∀ b t j st i, au b = some (.slot t j, st) → fn.results.toList[i]? = some (.tmp t) → resAu au fn.results.toList b = some (.slot 0 i, st) := by
      intro b t j st i e hi
      unfold resAu; rw [e]
      simp only [slotAt_of (j := 0) hn hi, Nat.zero_add]
    -- what the results own
    have hown : ∀ (i : Nat) V u, vs[i]? = some V → us[i]? = some u → ∀ z xs, V = .own z xs → TailOK (resAu au fn.results.toList) w (.slot 0 i) z u := by
      rintro i V u hV hu z xs rfl
      rcases k4 i _ u hV hu with ⟨t, ht, ho⟩ | hc
      · exact TailOK.mono ho fun b st e => ⟨au_slot b t _ st i e ht, rfl⟩
      · simp [Idl.V.cp] at hc
    have hheld : ∀ (i : Nat) V u, vs[i]? = some V → us[i]? = some u → ∀ z xs, V = .hold z xs → HoldOK (resAu au fn.results.toList) w (.slot 0 i) z xs u := by
      rintro i V u hV hu z xs rfl
      rcases k4 i _ u hV hu with ⟨t, ht, ho⟩ | hc
      · exact HoldOK.mono ho fun b st e => ⟨au_slot b t _ st i e ht, rfl⟩
      · simp [Idl.V.cp] at hc
    have hbase : ∀ (R : V) (v : Value), RepS Φ B R v → OwnV (resAu au fn.results.toList) w (.slot 0) R v → Inv κ Φ B (resAu au fn.results.toList) ⟨[R], s.hp, s.nb⟩ ⟨#[v], a.defers⟩ w := by
      intro R v hR hO
      refine { h with phia := fun lb b o v h0 st hp e => ?_, auw := fun b h0 st e => ?_, tl := rfl, tm := fun i V u hV hu => ?_, hp := fun id o b ho hb => ?_, df := ?_ }
      · obtain ⟨h1, e2⟩ := au_inv b h0 st e; exact h.phia _ b o v h1 st hp e2
      · obtain ⟨h1, e2⟩ := au_inv b h0 st e; exact h.auw b h1 st e2
      · cases i with
        | zero => simp at hV hu; subst hV; subst hu; exact ⟨hR, hO⟩
        | succ i => simp at hV
      · exact (h.hp id o b ho hb).mono (CM.le_refl _) (fun _ _ h => h) (fun hh => ⟨au_other b _ _ hh (by simp), rfl⟩) (fun j b st hh => ⟨au_other b _ _ hh (by simp), rfl⟩)
      · obtain ⟨rs, h1, h2, h3⟩ := h.df
        exact ⟨rs, h1, h2, fun r hr => let ⟨x, y, z⟩ := h3 r hr; ⟨x, au_none _ y, z⟩⟩
    have hres : ∀ v, (pure (if h : us.toArray.size = 1 then us.toArray[0] else .tuple us.toArray) : Sem Value).run P w = .ok v w → (results fn a.tmps).run P w = .ok v w := by
      intro v hv
      have e0 : results fn a.tmps = (do let vs ← fn.results.mapM (resRead a); pure (if h : vs.size = 1 then vs[0] else .tuple vs)) := by
        unfold results
        have : (fun r => match r with | ResultVar.tmp t => pure (a.tmps.getD t undef) | ResultVar.cell x t => (do loadVar t (← asAddr (a.tmps.getD x undef)) : Go.Sem Value)) = resRead a := by
          funext r; cases r <;> rfl
        rw [← this]
        rfl
      rw [e0, Sem.run_bind, hmap]; exact hv
    rw [e1] at e
    rcases vs with _ | ⟨V0, _ | ⟨V1, vs⟩⟩
    · simp at e; subst e
      have hu : us = [] := by cases us with | nil => rfl | cons _ _ => simp at q1
      subst hu
      exact ⟨_, hres _ rfl, hbase _ _ (.tup .nil) (by constructor <;> (rintro j z xs cs c _ hj; simp at hj))⟩
    · simp at e; subst e
      obtain ⟨u, rfl⟩ : ∃ u, us = [u] := by
        cases us with
        | nil => simp at q1
        | cons u us => cases us with
          | nil => exact ⟨u, rfl⟩
          | cons _ _ => simp at q1
      refine ⟨u, hres _ rfl, hbase _ _ (q2 0 _ _ rfl rfl) ?_⟩
      cases V0 with
      | own z xs => exact hown 0 _ u rfl rfl z xs rfl
      | hold z xs => exact hheld 0 _ u rfl rfl z xs rfl
      | tup ws => have := k3 (.tup ws) (by simp); simp [Idl.V.isTup] at this
      | _ => trivial
    · simp at e; subst e
      refine ⟨.tuple us.toArray, hres _ ?_, hbase _ _ (.tup k2) ?_⟩
      · rw [dif_neg]; rfl
        simp at q1 ⊢; omega
      · constructor
        · rintro j z xs cs c ec hj hc
          injection ec with ec; subst ec
          exact hown j _ c hj (by simpa using hc) z xs rfl
        · rintro j z xs cs c ec hj hc
          injection ec with ec; subst ec
          exact hheld j _ c hj (by simpa using hc) z xs rfl

end
end Go.Idl
end
section
namespace Go.Idl

section
variable {P : Program} {κ : Ctx} {Φ : CM} {B : List Nat} {au : Auth} {s : St} {a : Act} {w : World} {K : St → Prop} {o : Oper}

/-- an object that is no cells and no loop is turned: nobody feels it -/
theorem Inv.turn (h : Inv κ Φ B au s a w) {r : Nat} {ds : Option (List Deferred)} {x : Obj} (hr : w.heap[r]? = some (.deferred ds)) (hau : au r = none) (hs : κ.w0.heap.size ≤ r) {df : List Deferred}
    (hdf : ∃ rs : List Nat, df = rs.map (fun r => { target := .collected r, args := #[] }) ∧ rs.Nodup ∧ ∀ q ∈ rs, q ≠ r ∧ w.heap[q]? = some (.deferred (some [])) ∧ au q = none ∧ κ.w0.heap.size ≤ q) :
    Inv κ Φ B au s { a with defers := df } { w with heap := w.heap.setIfInBounds r x } := by
  have hne : ∀ b, b ≠ r → (w.heap.setIfInBounds r x)[b]? = w.heap[b]? := fun b hb => by rw [Array.getElem?_setIfInBounds, if_neg (Ne.symm hb)]
  have ha : ∀ b h0 st, au b = some (h0, st) → (w.heap.setIfInBounds r x)[b]? = w.heap[b]? := fun b h0 st e => hne b (by rintro rfl; rw [hau] at e; cases e)
  have hl : ∀ l q, w.heap[l]? = some (Obj.loop q) → (w.heap.setIfInBounds r x)[l]? = some (Obj.loop q) := fun l q e => (hne l (by rintro rfl; rw [hr] at e; cases e)).trans e
  refine { h with phi := fun lb b o v e => ?_, auw := fun b h0 st e => ⟨by simpa using (h.auw b h0 st e).1, (h.auw b h0 st e).2⟩, size := by simpa using h.size, keep := fun b hb hm => ?_, tm := fun i V v hV hv => ⟨(h.tm i V v hV hv).1, (h.tm i V v hV hv).2.mono fun j b st e => ⟨e, ha b _ st e⟩⟩, hp := fun id o b ho hb => (h.hp id o b ho hb).mono (CM.le_refl _) (fun _ _ h => h) (fun e => ⟨e, ha b _ _ e⟩) (fun j b st e => ⟨e, ha b _ _ e⟩), df := ?_, rd := fun l hl' => let ⟨q, hq⟩ := h.rd l hl'; ⟨q, hl l q hq⟩, lp := fun l q e => let ⟨q', hq'⟩ := h.lp l q e; ⟨q', hl l q' hq'⟩ }
  · have hc := h.phi _ b o v e
    have : b ≠ r := by
      rintro rfl; unfold World.cell? at hc; rw [hr] at hc; cases hc
    unfold World.cell? at *
    simp only at hc ⊢
    rw [hne b this]; exact hc
  · rw [hne b (by omega)]; exact h.keep b hb hm
  · obtain ⟨rs, h1, h2, h3⟩ := hdf
    exact ⟨rs, h1, h2, fun q hq => let ⟨x1, x2, x3, x4⟩ := h3 q hq; ⟨(hne q x1).trans x2, x3, x4⟩⟩

/-- A function's end: its marks are taken up, its results read. -/
theorem leaves_of (fn : Func) (hn : (resSlots fn.results.toList).Nodup) {R : Ending → World → Prop} {r : V} : ∀ (df : List Deferred) {w : World} {Φ : CM} {B : List Nat} {au : Auth}, Inv κ Φ B au s { a with defers := df } w → retV P fn s = some r →
    (∀ v w', Rel κ ⟨[r], s.hp, s.nb⟩ ⟨#[v], []⟩ w' → R (.returned v) w') → LeavesInM Fence.wide 0 P fn a.tmps R df .returning w
  | [], w, Φ, B, au, h, e, hR => by
    obtain ⟨v, g1, g2⟩ := run_results (P := P) (a := { a with defers := [] }) h hn e
    exact ⟨v, g1, hR v w ⟨Φ, B, _, g2⟩⟩
  | d :: df, w, Φ, B, au, h, e, hR => by
    obtain ⟨rs, h1, h2, h3⟩ := h.df
    cases rs with
    | nil => simp at h1
    | cons q rs =>
      simp only [List.map_cons, List.cons.injEq] at h1
      obtain ⟨rfl, rfl⟩ := h1
      rw [List.nodup_cons] at h2
      obtain ⟨x, y, z⟩ := h3 q (by simp)
      have ht := h.turn (x := .deferred none) x y z (df := rs.map (fun r => { target := .collected r, args := #[] })) ⟨rs, rfl, h2.2, fun q' hq' => ⟨by rintro rfl; exact h2.1 hq', h3 q' (by simp [hq'])⟩⟩
      refine ⟨by simp, .inl ⟨q, _, rfl, run_takeDeferred' x, leaves_of fn hn _ ht e hR⟩⟩
where
  run_takeDeferred' {w : World} {q : Nat} (x : w.heap[q]? = some (.deferred (some []))) : (Instr.takeDeferred q).run P w = .ok [] { w with heap := w.heap.setIfInBounds q (.deferred none) } := by
    simp [Instr.takeDeferred, getObj, setObj, Sem.run, x, pure]

/-- **A function is entered**: what its body does from its parameters on. -/
theorem callK_enterS {f : FuncId} {fn : Func} {c : Code} {args : List V} {hp : List IObj} {K : V → List IObj → Prop} (hf : P.funcs[f]? = some fn) (hb : fn.body = some c) (hn : (resSlots fn.results.toList).Nodup)
    (h : SemC P c (retK P fn K) ⟨args ++ List.replicate (fn.ntmps - args.length) .un, hp, hp.length⟩) : CallK P f args hp K := by
  intro Φ B au w cargs hi
  have hl : args.length = cargs.size := hi.tl
  refine callsIn_of_wp_marks hf hb trivial ?_
  have h0 : Rel (Ctx.at_ Φ B au w) ⟨args ++ List.replicate (fn.ntmps - args.length) .un, hp, hp.length⟩ { tmps := cargs ++ Array.replicate (fn.ntmps - cargs.size) undef, defers := [] } w := by
    refine ⟨Φ, B, au, { hi with tl := by simp [hl], tm := fun i V v hV hv => ?_ }⟩
    by_cases hlt : i < args.length
    · rw [List.getElem?_append_left hlt] at hV
      rw [Array.getElem?_append_left (by omega)] at hv
      exact hi.tm i V v hV hv
    · rw [List.getElem?_append_right (by omega), List.getElem?_replicate] at hV
      split at hV
      · injection hV with hV; subst hV; exact ⟨.un _, trivial⟩
      · cases hV
  refine wpIn_mono (F := Fence.wide) (h (Ctx.at_ Φ B au w) _ w h0) ?_
  rintro e a' w' ⟨e', s', rfl, h1, Φ', B', au', h2⟩
  have main : (match retV P fn s' with | some v => K v s'.hp | none => False) → LeavesInM Fence.wide 0 P fn a'.tmps (fun e w' => ∃ v r hp', e = .returned v ∧ K r hp' ∧ Rel (Ctx.at_ Φ B au w) ⟨[r], hp', hp.length⟩ ⟨#[v], []⟩ w') a'.defers .returning w' := by
    intro hret
    cases er : retV P fn s' with
    | none => rw [er] at hret; exact hret.elim
    | some r =>
      rw [er] at hret
      refine leaves_of (κ := Ctx.at_ Φ B au w) (a := a') (s := s') fn hn a'.defers h2 er fun v w'' hrel => ⟨v, r, s'.hp, rfl, hret, ?_⟩
      obtain ⟨Φ'', B'', au'', g⟩ := hrel
      refine ⟨Φ'', B'', au'', { g with nb := ?_ }⟩
      have e1 := hi.nb; have e2 := g.nb; have e3 := hi.hl
      simp only [Ctx.at_] at e1 e2 ⊢
      refine ⟨by rw [← e3]; exact Nat.le_refl _, ?_⟩
      have e4 := h2.pre.length_le
      have e5 := h2.hl
      simp only [Ctx.at_] at e4
      simp only at e3
      omega
  cases e' with
  | normal => exact main h1
  | ret => exact main h1
  | exit id => exact h1.elim
  | goto l => exact h1.elim

theorem callK_enter {f : FuncId} {fn : Func} {c : Code} {args : List V} {hp : List IObj} {K : V → List IObj → Prop} (hf : P.funcs[f]? = some fn) (hb : fn.body = some c) (hn : (resSlots fn.results.toList).Nodup)
    (h : wpK P c (retK P fn K) ⟨args ++ List.replicate (fn.ntmps - args.length) .un, hp, hp.length⟩) : CallK P f args hp K := callK_enterS hf hb hn (wp_sound _ _ _ h)

theorem CallK.mono {f : FuncId} {args : List V} {hp : List IObj} {K K' : V → List IObj → Prop} (h : CallK P f args hp K) (hk : ∀ r hp', K r hp' → K' r hp') : CallK P f args hp K' :=
  fun Φ B au w cargs hi => (h Φ B au w cargs hi).mono fun _ _ ⟨v, r, hp', e, k, g⟩ => ⟨v, r, hp', e, hk _ _ k, g⟩

end
end Go.Idl
end
section
namespace Go.Idl

section
variable {P : Program} {κ : Ctx} {Φ : CM} {B : List Nat} {au : Auth} {s : St} {a : Act} {w : World} {K : St → Prop} {o : Oper}

theorem repS_data {V : V} {v : Value} {B' : List Nat} (h : RepS Φ B V v) (hd : V.data = true) : RepS Φ B' V v := by
  cases h with
  | d x => exact .d x
  | own x => exact .own x
  | hold a b => exact .hold a b
  | nil => exact .nil
  | tup e =>
    obtain ⟨h1, h2⟩ := e.get
    simp only [Idl.V.data, List.all_eq_true] at hd
    refine .tup (RepSL.of h1 fun j d c hj hc => ?_)
    have := hd d (List.mem_of_getElem? hj)
    have hr := h2 j d c hj hc
    cases hr with
    | d x => exact .d x
    | own x => exact .own x
    | hold a b => exact .hold a b
    | nil => exact .nil
    | _ => cases this
  | _ => simp [Idl.V.data] at hd

/-- **A call of a function of data.** -/
theorem callK_pcall {f : FuncId} {ds : List D} {args : List V} {r : V} {hp : List IObj} {K : V → List IObj → Prop} (h : PCall P f ds r) (ha : allD args = some ds) (hd : r.data = true) (hk : K r hp) : CallK P f args hp K := by
  obtain ⟨al, ag⟩ := allD_get ha
  intro Φ B au w cargs hi
  have h0 : Inv (Ctx.at_ Φ [] (fun _ => none) w) Φ [] (fun _ => none) ⟨ds.map V.d, [], ([] : List IObj).length⟩ ⟨cargs, []⟩ w := by
    refine { phi := hi.phi, phia := fun lb _ _ _ _ _ _ e => (by cases e), auw := fun _ _ _ e => (by cases e), size := Nat.le_refl _, keep := fun _ _ _ => rfl, pre := List.prefix_refl _, lePhi := CM.le_refl _, tl := by have := hi.tl; simpa [al] using this, tm := fun i V v hV hv => ?_, hl := rfl, nb := ⟨Nat.le_refl _, Nat.le_refl _⟩, hp := fun id o b ho => (by simp at ho), df := ⟨[], rfl, List.nodup_nil, by simp⟩, rd := fun l hl => (by cases hl), lp := fun l r e => ⟨r, e⟩, src := fun lb b o v e => .inl e, wo := ⟨rfl, rfl, rfl⟩ }
    have hV' : (ds.map Idl.V.d)[i]? = some V := hV
    simp only [List.getElem?_map, Option.map_eq_some_iff] at hV'
    obtain ⟨d, hd', rfl⟩ := hV'
    obtain ⟨V', e1, e2⟩ := ag i d hd'
    exact ⟨.d (rep_d? (hi.tm i V' v e1 hv).1 e2), trivial⟩
  refine (h Φ [] (fun _ => none) w cargs h0).mono ?_
  rintro e w' ⟨v, r', hp', rfl, rfl, Φ', B', au', g⟩
  refine ⟨v, r', hp, rfl, hk, Φ', B, fun b => if b < w.heap.size then au b else match au' b with | some (.slot i j, st) => some (.slot i j, st) | _ => none, ?_⟩
  have hkeep : ∀ b, b < w.heap.size → w'.heap[b]? = w.heap[b]? := fun b hb => g.keep b hb (by simp [Ctx.at_])
  have hnew : ∀ b h0 st, au' b = some (h0, st) → ¬ b < w.heap.size := by
    intro b h0 st e
    rcases (g.auw b h0 st e).2 with x | x
    · simp [Ctx.at_] at x
    · exact Nat.not_lt.2 x
  have hau : ∀ b h0 st, au b = some (h0, st) → (if b < w.heap.size then au b else match au' b with | some (.slot i j, st) => some (.slot i j, st) | _ => none) = some (h0, st) := fun b h0 st e => by
    rw [if_pos (hi.auw b h0 st e).1]; exact e
  refine { phi := g.phi, phia := fun lb b o v h0 st hp e => ?_, auw := fun b h0 st e => ?_, size := g.size, keep := fun b hb _ => hkeep b hb, pre := List.prefix_refl _, lePhi := g.lePhi, tl := rfl, tm := fun i V u hV hu => ?_, hl := hi.hl, nb := ⟨by have := hi.hl; simp only [Ctx.at_]; simp only at this; omega, Nat.le_refl _⟩, hp := fun id o b ho hb => ?_, df := ⟨[], rfl, List.nodup_nil, by simp⟩, rd := fun l hl => (by cases hl), lp := g.lp, src := fun lb b o v e => ?_, wo := g.wo }
  · split at e
    · rename_i hb
      rcases g.src _ b o v hp with x | x | x
      · exact hi.phia _ b o v h0 st x e
      · simp [Ctx.at_] at x
      · exact absurd hb (Nat.not_lt.2 x)
    · split at e
      · rename_i e'; injection e with e; injection e with e1 e2; subst e1; subst e2; exact g.phia _ b o v _ _ hp e'
      · cases e
  · split at e
    · rename_i hb; exact ⟨Nat.lt_of_lt_of_le hb g.size, .inl (by simp only [Ctx.at_]; rw [e]; simp)⟩
    · rename_i hb
      split at e
      · rename_i e'; exact ⟨(g.auw b _ _ e').1, .inr (Nat.le_of_not_lt hb)⟩
      · cases e
  · cases i with
    | succ i => simp at hV
    | zero =>
      simp at hV hu; subst hV; subst hu
      obtain ⟨k1, k2⟩ := g.tm 0 r' v rfl rfl
      refine ⟨repS_data k1 hd, k2.mono fun j b st e => ⟨?_, rfl⟩⟩
      rw [if_neg (hnew b _ _ e), e]
  · exact (hi.hp id o b ho hb).mono g.lePhi (fun _ _ h => h) (fun e => ⟨hau b _ _ e, hkeep b (hi.auw b _ _ e).1⟩) (fun j b st e => ⟨hau b _ _ e, hkeep b (hi.auw b _ _ e).1⟩)
  · rcases g.src _ b o v e with x | x | x
    · exact .inl x
    · simp [Ctx.at_] at x
    · exact .inr (.inr x)

/-- a function of data, from its body -/
theorem pcall_of_body {f : FuncId} {fn : Func} {c : Code} {ds : List D} {r : V} (hf : P.funcs[f]? = some fn) (hb : fn.body = some c) (hn : (resSlots fn.results.toList).Nodup)
    (h : wpK P c (retK P fn fun r' _ => r' = r) ⟨ds.map V.d ++ List.replicate (fn.ntmps - (ds.map V.d).length) .un, [], 0⟩) : PCall P f ds r :=
  callK_enter hf hb hn h

/-- what is asked when the rounds are over -/
def rangeEnd (Q : Ex → St → Prop) (s : St) (id : Nat) (hp' : List IObj) : Prop :=
  match hp'[id]? with
  | some (.loop true none _ _ _ _) => Q .normal { s with hp := hp'.set id .free }
  | some (.loop false (some .ret) _ _ _ _) => Q .ret { s with hp := hp'.set id .free }
  | some (.loop false (some (.exit i)) _ _ _ _) => Q (.exit i) { s with hp := hp'.set id .free }
  | some (.loop false (some (.goto i)) _ _ _ _) => Q (.goto i) { s with hp := hp'.set id .free }
  | _ => False

/-- the record of the rounds is laid -/
theorem Inv.loopNew (h : Inv κ Φ B au s a w) {ps : Array Tmp} {asg body : Code} {fn : FuncId} {dr : Nat} {df : List Deferred} {w1 : World} (g : Grows w w1)
    (hdf : ∃ rs : List Nat, df = rs.map (fun r => { target := .collected r, args := #[] }) ∧ rs.Nodup ∧ ∀ r ∈ rs, w1.heap[r]? = some (.deferred (some [])) ∧ au r = none ∧ κ.w0.heap.size ≤ r) :
    ∃ au', Inv κ Φ (B ++ [w1.heap.size]) au' { s with hp := s.hp ++ [IObj.loop true none (s.tm.map V.cp) ps.toList asg body] } { a with defers := df }
      { w1 with heap := w1.heap.push (.loop { state := .ready, pending := none, fn := fn, tmps := a.tmps, params := ps, assign := asg, body := body, defers := dr }) } := by
  have i1 : Inv κ Φ B au s { a with defers := df } w1 := { h.grow g with df := hdf }
  have i2 := i1.grow (Grows.push w1 (.loop { state := .ready, pending := none, fn := fn, tmps := a.tmps, params := ps, assign := asg, body := body, defers := dr }))
  have hB : ∀ (i b : Nat), B[i]? = some b → (B ++ [w1.heap.size])[i]? = some b := fun i b e => by
    rw [List.getElem?_append_left (List.getElem?_eq_some_iff.1 e).1]; exact e
  have hnew : au w1.heap.size = none := by
    cases e : au w1.heap.size with
    | none => rfl
    | some x => exact absurd (i1.auw _ _ _ e).1 (Nat.lt_irrefl _)
  have hau : ∀ b h0 st, au b = some (h0, st) → (if b = w1.heap.size then some (Holder.obj s.hp.length, 0) else au b) = some (h0, st) := fun b h0 st e => by
    rw [if_neg]; exact e
    rintro rfl; rw [hnew] at e; cases e
  refine ⟨fun b => if b = w1.heap.size then some (.obj s.hp.length, 0) else au b, { i2 with phia := fun lb b o v h0 st hp e => ?_, auw := fun b h0 st e => ?_, pre := ?_, tm := fun i V v hV hv => ?_, hl := by simp [h.hl], nb := ⟨h.nb.1, by have := h.nb.2; simp; omega⟩, hp := fun id o b ho hb => ?_, df := ?_ }⟩
  · split at e
    · rename_i eb
      have := i1.phi _ b o v hp
      unfold World.cell? at this
      rw [eb] at this
      simp at this
    · exact i1.phia _ b o v h0 st hp e
  · split at e
    · rename_i eb; subst eb; exact ⟨by simp, .inr i1.size⟩
    · exact i2.auw b h0 st e
  · exact h.pre.trans (List.prefix_append _ _)
  · obtain ⟨k1, k2⟩ := i2.tm i V v hV hv
    exact ⟨k1.mono (CM.le_refl _) hB, k2.mono fun j b st e => ⟨hau b _ st e, rfl⟩⟩
  · by_cases hid : id < s.hp.length
    · rw [List.getElem?_append_left hid] at ho
      have hid' : id < B.length := by rw [← h.hl]; exact hid
      rw [List.getElem?_append_left hid'] at hb
      exact (i2.hp id o b ho hb).mono (CM.le_refl _) hB (fun e => ⟨hau b _ _ e, rfl⟩) (fun j b st e => ⟨hau b _ st e, rfl⟩)
    · have hid1 : id = s.hp.length := by
        have := (List.getElem?_eq_some_iff.1 ho).1; simp at this; omega
      subst hid1
      simp at ho
      subst ho
      rw [h.hl] at hb
      simp at hb
      subst hb
      refine ⟨by simp, fn, a.tmps, dr, by simp, RepSL.of (by simpa using h.tl) fun j d c hd hc => ?_, fun V hV => ?_⟩
      · simp only [List.getElem?_map, Option.map_eq_some_iff] at hd
        obtain ⟨d', hd', rfl⟩ := hd
        rw [Array.getElem?_toList] at hc
        exact ((h.tm j d' c hd' hc).1.mono (CM.le_refl _) hB).cp
      · obtain ⟨v, _, rfl⟩ := List.mem_map.1 hV
        exact Idl.V.cp_cp v
  · obtain ⟨rs, h1, h2, h3⟩ := i2.df
    refine ⟨rs, h1, h2, fun r hr => ?_⟩
    obtain ⟨x, y, z⟩ := h3 r hr
    refine ⟨x, ?_, z⟩
    rw [if_neg]; exact y
    rintro rfl
    obtain ⟨rs', h1', h2', h3'⟩ := i1.df
    rw [h1] at h1'
    have : rs = rs' := by
      have := congrArg (List.map fun d : Deferred => match d.target with | .collected r => r | _ => 0) h1'
      simpa [Function.comp_def] using this
    subst this
    have := lt_of_heap (h3' _ hr).1
    omega

theorem run_enterLoop_none {fn : FuncId} {tmps : Array Value} {ps : Array Tmp} {asg body : Code} : (Instr.enterLoop fn tmps ps asg body none).run P w =
    .ok (w.heap.size + 1, [{ target := .collected w.heap.size, args := #[] }]) { w with heap := (w.heap.push (.deferred (some []))).push (.loop { state := .ready, pending := none, fn, tmps, params := ps, assign := asg, body, defers := w.heap.size }) } := by
  simp [Instr.enterLoop, newObj, Sem.run, pure]
  rfl

theorem run_enterLoop_some {fn : FuncId} {tmps : Array Value} {ps : Array Tmp} {asg body : Code} {l : Nat} {r : Loop} (hr : w.heap[l]? = some (.loop r)) : (Instr.enterLoop fn tmps ps asg body (some l)).run P w =
    .ok (w.heap.size, []) { w with heap := w.heap.push (.loop { state := .ready, pending := none, fn, tmps, params := ps, assign := asg, body, defers := r.defers }) } := by
  simp [Instr.enterLoop, Instr.getLoop, getObj, hr, newObj, Sem.run, pure]

theorem run_endLoop {l : Nat} {r : Loop} (hr : w.heap[l]? = some (.loop r)) (hs : r.state ≠ .busy) : (Instr.endLoop l).run P w = .ok r.pending { w with heap := w.heap.setIfInBounds l (.loop { r with state := .exhausted }) } := by
  have : (r.state == LoopState.busy) = false := by cases h : r.state <;> simp_all
  simp [Instr.endLoop, Instr.getLoop, getObj, setObj, hr, Sem.run, pure]
  intro hb; exact absurd hb hs

/-- **Ranging over a function.** -/
theorem range_sem {g : Operand} {ps : Array Tmp} {asg body : Code} {Q : Ex → St → Prop} {f : FuncId} {caps : List V} (hg : ev P 0 s g = .fn (.func f) caps) (hb : hasBody P f = true) (hbare : caps.all V.bare = true)
    (h : CallK P f (.yld s.hp.length :: caps) (s.hp ++ [IObj.loop true none (s.tm.map V.cp) ps.toList asg body]) fun _ hp' => rangeEnd Q s s.hp.length hp') : SemC P (.rangeFunc g ps asg body) Q s := by
  rintro κ a w ⟨Φ, B, au, hi⟩
  have hge := ev_rep (P := P) hi 0 g
  rw [hg] at hge
  refine wpIn_rangeFunc fun fn _ => ?_
  -- the record
  obtain ⟨l, mark, w1, henter, au1, hi1, hl⟩ : ∃ l mark w1, (Instr.enterLoop fn a.tmps ps asg body κ.F.round).run P w = .ok (l, mark) w1 ∧ ∃ au1, Inv κ Φ (B ++ [l]) au1 { s with hp := s.hp ++ [IObj.loop true none (s.tm.map V.cp) ps.toList asg body] } { a with defers := mark ++ a.defers } w1 ∧ True := by
    obtain ⟨rs, h1, h2, h3⟩ := hi.df
    cases hro : κ.round with
    | none =>
      have gr := Grows.push w (.deferred (some []))
      have hnew : au w.heap.size = none := by
        cases e : au w.heap.size with
        | none => rfl
        | some x => exact absurd (hi.auw _ _ _ e).1 (Nat.lt_irrefl _)
      obtain ⟨au1, i1⟩ := hi.loopNew (ps := ps) (asg := asg) (body := body) (fn := fn) (dr := w.heap.size) (df := { target := .collected w.heap.size, args := #[] } :: a.defers) gr
        ⟨w.heap.size :: rs, by simp [h1], List.nodup_cons.2 ⟨fun hm => by have := lt_of_heap (h3 _ hm).1; omega, h2⟩, fun r hr => by
          rcases List.mem_cons.1 hr with rfl | hr
          · exact ⟨by simp, hnew, hi.size⟩
          · obtain ⟨x, y, z⟩ := h3 r hr
            exact ⟨(gr.same r (lt_of_heap x)).trans x, y, z⟩⟩
      have he : (Instr.enterLoop fn a.tmps ps asg body κ.F.round).run P w = .ok (w.heap.size + 1, [{ target := .collected w.heap.size, args := #[] }]) { w with heap := (w.heap.push (.deferred (some []))).push (.loop { state := .ready, pending := none, fn, tmps := a.tmps, params := ps, assign := asg, body, defers := w.heap.size }) } := by
        show (Instr.enterLoop fn a.tmps ps asg body κ.round).run P w = _
        rw [hro]; exact run_enterLoop_none
      exact ⟨_, _, _, he, au1, by simpa using i1, trivial⟩
    | some l0 =>
      obtain ⟨r, hr⟩ := hi.rd l0 hro
      obtain ⟨au1, i1⟩ := hi.loopNew (ps := ps) (asg := asg) (body := body) (fn := fn) (dr := r.defers) (df := a.defers) (Grows.refl w) ⟨rs, h1, h2, h3⟩
      have he : (Instr.enterLoop fn a.tmps ps asg body κ.F.round).run P w = .ok (w.heap.size, []) { w with heap := w.heap.push (.loop { state := .ready, pending := none, fn, tmps := a.tmps, params := ps, assign := asg, body, defers := r.defers }) } := by
        show (Instr.enterLoop fn a.tmps ps asg body κ.round).run P w = _
        rw [hro]; exact run_enterLoop_some hr
      exact ⟨_, _, _, he, au1, by simpa using i1, trivial⟩
  have hlb : (B ++ [l])[s.hp.length]? = some l := by rw [hi.hl]; simp
  generalize hv : a.eval g = v at hge
  cases hge with
  | fn hcaps =>
    rename_i cc
    have hB : ∀ (i b : Nat), B[i]? = some b → (B ++ [l])[i]? = some b := fun i b e => by
      rw [List.getElem?_append_left (List.getElem?_eq_some_iff.1 e).1]; exact e
    have hargs : RepSL Φ (B ++ [l]) (.yld s.hp.length :: caps) (.func (.yield l) #[] #[] :: cc) := .cons (.yld hlb) (hcaps.mono (CM.le_refl _) hB)
    have hcallee := hi1.callee (args := .yld s.hp.length :: caps) (cargs := .func (.yield l) #[] #[] :: cc) hargs (fun v hv => by
      rcases List.mem_cons.1 hv with rfl | hv
      · exact ⟨rfl, rfl⟩
      · exact bare_of (List.all_eq_true.1 hbare v hv))
    have hcall := h Φ (B ++ [l]) (noSlots au1) w1 _ hcallee
    refine ⟨l, mark, w1, { target := .fn (.func f) cc.toArray, args := #[.func (.yield l) #[] #[]] }, w1, f, (.func (.yield l) #[] #[] :: cc).toArray, w1, henter, ?_, fun _ _ => trivial, ?_, fun hh => by simp [Ctx.F_depth] at hh, ?_⟩
    · unfold resolve rangeCall
      simp only [hv, Deferred.ofValue]
      have : (#[] : Array Value) ++ Array.map a.eval #[Operand.const (Value.func (Fn.yield l) #[] #[])] = #[.func (.yield l) #[] #[]] := by simp [Act.eval]
      rw [this]; rfl
    · simp only [invoke]
      rw [run_callFunc hb]
      have : #[Value.func (.yield l) #[] #[]] ++ cc.toArray = (Value.func (.yield l) #[] #[] :: cc).toArray := by simp
      rw [this]
    · refine CallsIn.mono (F := κ.F) hcall fun e w3 => ?_
      rintro ⟨v', r', hp', rfl, hK, Φ', B', au', g'⟩
      have hback := hi1.back g' none
      -- the record again
      have hlp : ∃ o, hp'[s.hp.length]? = some o ∧ B'[s.hp.length]? = some l := by
        have hpre := g'.pre
        obtain ⟨t, ht⟩ := hpre
        simp only [Ctx.at_] at ht
        have hb' : B'[s.hp.length]? = some l := by rw [← ht, List.getElem?_append_left (by simp [hi.hl])]; exact hlb
        have : s.hp.length < hp'.length := by rw [g'.hl]; exact (List.getElem?_eq_some_iff.1 hb').1
        exact ⟨_, List.getElem?_eq_getElem this, hb'⟩
      obtain ⟨ob, hob, hlB⟩ := hlp
      have key : ∀ (ready : Bool) (pend : Option Code) (tm : List V) (qs : List Nat) (ag bd : Code), ob = .loop ready pend tm qs ag bd → (ready = true ∨ pend.isSome = true) →
          ∃ w4, (Instr.endLoop l).run P w3 = .ok pend w4 ∧ Rel κ { s with hp := hp'.set s.hp.length .free } { a with defers := mark ++ a.defers } w4 := by
        rintro ready pend tm qs ag bd rfl hst
        obtain ⟨q1, fn', tmps', dr', q2, q3, q4⟩ := hback.hp s.hp.length _ l hob hlB
        refine ⟨_, run_endLoop q2 ?_, Φ', B', backAu au1 au' none, ?_⟩
        · cases ready <;> cases pend <;> simp_all
        · refine hback.write (o' := .free) hlB q1 (by simp) (fun b' hb' => ?_) rfl rfl rfl (fun r hr => ⟨_, by
            show (w3.heap.setIfInBounds l _)[l]? = _
            rw [Array.getElem?_setIfInBounds, if_pos rfl, if_pos (lt_of_heap q2)]⟩) trivial
          show (w3.heap.setIfInBounds l _)[b']? = _
          rw [Array.getElem?_setIfInBounds, if_neg (Ne.symm hb')]
      unfold rangeEnd at hK
      rw [hob] at hK
      split at hK
      · rename_i e; injection e with e
        obtain ⟨w4, k1, k2⟩ := key _ _ _ _ _ _ e (.inl rfl)
        exact ⟨none, w4, k1, .normal, _, rfl, hK, k2⟩
      · rename_i e; injection e with e
        obtain ⟨w4, k1, k2⟩ := key _ _ _ _ _ _ e (.inr rfl)
        exact ⟨_, w4, k1, wpIn_ret ⟨.ret, _, rfl, hK, k2⟩⟩
      · rename_i e; injection e with e
        obtain ⟨w4, k1, k2⟩ := key _ _ _ _ _ _ e (.inr rfl)
        exact ⟨_, w4, k1, wpIn_exit ⟨.exit _, _, rfl, hK, k2⟩⟩
      · rename_i e; injection e with e
        obtain ⟨w4, k1, k2⟩ := key _ _ _ _ _ _ e (.inr rfl)
        exact ⟨_, w4, k1, wpIn_goto ⟨.goto _, _, rfl, hK, k2⟩⟩
      · exact hK.elim

/-- the loop variables of a round -/
def setAll : List V → List (Nat × V) → List V
  | tm, [] => tm
  | tm, (i, v) :: r => setAll (tm.set i v) r

/-- what is asked at a round's end -/
def roundEndK (id : Nat) (K : V → List IObj → Prop) (e : Ex) (s : St) : Prop :=
  match s.hp[id]? with
  | some (.loop false none tm ps asg body) => match e with
    | .normal => K (.d (.bool true)) (s.hp.set id (.loop true none tm ps asg body))
    | .ret => K (.d (.bool false)) (s.hp.set id (.loop false (some .ret) tm ps asg body))
    | .exit i => K (.d (.bool false)) (s.hp.set id (.loop false (some (.exit i)) tm ps asg body))
    | .goto i => K (.d (.bool false)) (s.hp.set id (.loop false (some (.goto i)) tm ps asg body))
  | _ => False

/-- between the assignment to the loop's variables and the body -/
def beginK (P : Program) (id : Nat) (body : Code) (K : V → List IObj → Prop) (e : Ex) (s : St) : Prop :=
  match e with
  | .normal => match s.hp[id]? with
    | some (.loop true none tm ps asg body') => wpK P body (roundEndK id K) { s with hp := s.hp.set id (.loop false none tm ps asg body') }
    | _ => False
  | _ => False

theorem setAll_rep : ∀ {ps : List Nat} {vs : List V} {cs : List Value} {tm : List V} {tmps : Array Value}, ps.length = vs.length → RepSL Φ B vs cs → tm.length = tmps.size → RepSL Φ B tm tmps.toList → (∀ v ∈ vs, v.cp = v ∧ v.isTup = false) → (∀ v ∈ tm, v.cp = v) →
    RepSL Φ B (setAll tm (ps.zip vs)) ((ps.zip cs).foldl (fun t (p : Nat × Value) => t.setIfInBounds p.1 p.2) tmps).toList ∧ (∀ v ∈ setAll tm (ps.zip vs), v.cp = v)
  | [], vs, cs, tm, tmps, hl, hv, ht, hr, hb, hc => by simpa [setAll] using ⟨hr, hc⟩
  | p :: ps, [], cs, tm, tmps, hl, hv, ht, hr, hb, hc => by simp at hl
  | p :: ps, v :: vs, cs, tm, tmps, hl, hv, ht, hr, hb, hc => by
    cases hv with
    | cons h1 h2 =>
      rename_i c cs
      simp only [List.zip_cons_cons, setAll, List.foldl_cons]
      refine setAll_rep (by simpa using hl) h2 (by simpa using ht) ?_ (fun u hu => hb u (by simp [hu])) (fun u hu => ?_)
      · obtain ⟨a1, a2⟩ := hr.get
        refine RepSL.of (by simpa using ht) fun j d x hd hx => ?_
        rw [Array.getElem?_toList, Array.getElem?_setIfInBounds] at hx
        rw [List.getElem?_set] at hd
        by_cases e : p = j
        · subst e
          rw [if_pos rfl] at hd hx
          split at hd
          · rename_i hlt
            rw [if_pos (by rw [← ht]; exact hlt)] at hx
            injection hd with hd; injection hx with hx; subst hd; subst hx
            exact h1
          · cases hd
        · rw [if_neg e] at hd hx
          exact a2 j d x hd (by rw [Array.getElem?_toList]; exact hx)
      · rcases List.mem_or_eq_of_mem_set hu with e | e
        · exact hc u e
        · subst e; exact (hb u (by simp)).1

theorem run_yield {l : Nat} {r : Loop} {args : Array Value} (hr : w.heap[l]? = some (.loop r)) (hs : args.size = r.params.size) : (Instr.yield l args).run P w = .ok (.round l r.fn ((r.params.zip args).foldl (fun tmps (t, a) => tmps.setIfInBounds t a) r.tmps) r.assign r.body) w := by
  simp [Instr.yield, Instr.getLoop, getObj, hr, hs, Sem.run, pure]

theorem run_beginRound {l : Nat} {r : Loop} (hr : w.heap[l]? = some (.loop r)) (hs : r.state = .ready) : (Instr.beginRound l).run P w = .ok () { w with heap := w.heap.setIfInBounds l (.loop { r with state := .busy }) } := by
  simp [Instr.beginRound, Instr.getLoop, getObj, setObj, hr, hs, Sem.run, pure]

theorem run_endRound {l : Nat} {r : Loop} {j : Option Code} (hr : w.heap[l]? = some (.loop r)) : (Instr.endRound l j).run P w = .ok (.bool j.isNone) { w with heap := w.heap.setIfInBounds l (.loop { r with state := if j.isNone then .ready else .done, pending := j }) } := by
  simp [Instr.endRound, Instr.getLoop, getObj, setObj, hr, Sem.run, pure]

/-- a loop's record is turned -/
theorem Inv.loopTurn (h : Inv κ Φ B au s a w) {id l : Nat} {tm : List V} {ps : List Nat} {asg body : Code} {rd rd' : Bool} {pd pd' : Option Code} (e : s.hp[id]? = some (.loop rd pd tm ps asg body)) (hb : B[id]? = some l) :
    ∃ r : Loop, w.heap[l]? = some (.loop r) ∧ r.state = (if rd then .ready else if pd.isSome then .done else .busy) ∧ r.pending = pd ∧ r.params = ps.toArray ∧ r.assign = asg ∧ r.body = body ∧ RepSL Φ B tm r.tmps.toList ∧ (∀ V ∈ tm, V.cp = V) ∧
      Inv κ Φ B au { s with hp := s.hp.set id (.loop rd' pd' tm ps asg body) } a { w with heap := w.heap.setIfInBounds l (.loop { r with state := (if rd' then .ready else if pd'.isSome then .done else .busy), pending := pd' }) } := by
  obtain ⟨h1, fn, tmps, dr, h2, h3, h4⟩ := h.hp id _ l e hb
  refine ⟨_, h2, rfl, rfl, rfl, rfl, rfl, h3, h4, ?_⟩
  have hlt := lt_of_heap h2
  have hl : (w.heap.setIfInBounds l (.loop { state := (if rd' then .ready else if pd'.isSome then .done else .busy), pending := pd', fn := fn, tmps := tmps, params := ps.toArray, assign := asg, body := body, defers := dr }))[l]? = some (.loop { state := (if rd' then .ready else if pd'.isSome then .done else .busy), pending := pd', fn := fn, tmps := tmps, params := ps.toArray, assign := asg, body := body, defers := dr }) := by
    rw [Array.getElem?_setIfInBounds, if_pos rfl, if_pos hlt]
  refine h.write (o' := .loop rd' pd' tm ps asg body) hb h1 (by simp) (fun b' hb' => ?_) rfl rfl rfl (fun r hr => ⟨_, hl⟩) ?_
  · show (w.heap.setIfInBounds l _)[b']? = _
    rw [Array.getElem?_setIfInBounds, if_neg (Ne.symm hb')]
  · exact ⟨h1, fn, tmps, dr, hl, h3, h4⟩

/-- between the assignment to the loop's variables and the body, whatever their conditions -/
def beginC (P : Program) (id : Nat) (body : Code) (K : V → List IObj → Prop) (e : Ex) (s : St) : Prop :=
  match e with
  | .normal => match s.hp[id]? with
    | some (.loop true none tm ps asg body') => SemC P body (roundEndK id K) { s with hp := s.hp.set id (.loop false none tm ps asg body') }
    | _ => False
  | _ => False

/-- **A round.** -/
theorem roundK_enterC {id : Nat} {args : List V} {hp : List IObj} {K : V → List IObj → Prop} {tm : List V} {ps : List Nat} {asg body : Code} (hid : hp[id]? = some (.loop true none tm ps asg body)) (hl : ps.length = args.length) (hbare : args.all V.bare = true)
    (h : SemC P asg (beginC P id body K) ⟨setAll tm (ps.zip args), hp, hp.length⟩) : RoundK P id args hp K := by
  intro Φ B au w cargs b hi hb
  obtain ⟨r, q1, q2, q3, q4, q5, q6, q7, q8, _⟩ := hi.loopTurn (rd' := true) (pd' := none) hid hb
  have hcl : args.length = cargs.size := hi.tl
  have hargs : RepSL Φ B args cargs.toList := RepSL.of (by simpa using hcl) fun j d c hd hc => (hi.tm j d c hd (by rw [← Array.getElem?_toList]; exact hc)).1
  have hbr : ∀ v ∈ args, v.cp = v ∧ v.isTup = false := fun v hv => bare_of (List.all_eq_true.1 hbare v hv)
  refine ⟨r.fn, _, r.assign, r.body, run_yield q1 (by rw [q4]; simp; omega), ?_⟩
  let κ' : Ctx := { Ctx.at_ Φ B au w with round := some b }
  have hset := setAll_rep (Φ := Φ) (B := B) (ps := ps) (vs := args) (cs := cargs.toList) (tm := tm) (tmps := r.tmps) hl hargs (by have := q7.get.1; simpa using this) q7 hbr q8
  have hfold : (r.params.zip cargs).foldl (fun tmps (p : Nat × Value) => tmps.setIfInBounds p.1 p.2) r.tmps = (ps.zip cargs.toList).foldl (fun t (p : Nat × Value) => t.setIfInBounds p.1 p.2) r.tmps := by
    rw [q4, ← Array.foldl_toList]; simp
  have hrel : Rel κ' ⟨setAll tm (ps.zip args), hp, hp.length⟩ { tmps := (r.params.zip cargs).foldl (fun tmps (p : Nat × Value) => tmps.setIfInBounds p.1 p.2) r.tmps, defers := [] } w := by
    rw [hfold]
    refine ⟨Φ, B, au, { phi := hi.phi, phia := hi.phia, auw := hi.auw, size := hi.size, keep := hi.keep, pre := hi.pre, lePhi := hi.lePhi, tl := by simpa using hset.1.get.1, tm := fun i V v hV hv => ?_, hl := hi.hl, nb := hi.nb, hp := hi.hp, df := ⟨[], rfl, List.nodup_nil, by simp⟩, rd := fun l hl => ?_, lp := hi.lp, src := hi.src, wo := hi.wo }⟩
    · refine ⟨hset.1.get.2 i V v hV (by rw [Array.getElem?_toList]; exact hv), ?_⟩
      have hc := hset.2 V (List.mem_of_getElem? hV)
      cases V with
      | own z xs => simp [Idl.V.cp] at hc
      | hold z xs => simp [Idl.V.cp] at hc
      | tup vs =>
        constructor <;>
        · rintro j z xs cs c rfl hj _
          simp only [Idl.V.cp, Idl.V.tup.injEq] at hc
          rw [← hc, List.getElem?_map, Option.map_eq_some_iff] at hj
          obtain ⟨d, _, hd⟩ := hj
          cases d <;> simp at hd
      | _ => trivial
    · have : b = l := by simpa [κ'] using hl
      subst this; exact ⟨r, q1⟩
  refine roundIn_of_wpIn trivial ?_
  rw [q5, q6]
  refine wpIn_mono (F := κ'.F) (h κ' _ w hrel) ?_
  rintro e a1 w1 ⟨e', s1, rfl, h1, Φ1, B1, au1, i1⟩
  have hBb : ∀ {Φ1 : CM} {B1 : List Nat} {au1 : Auth} {s1 : St} {a1 : Act} {w1 : World}, Inv κ' Φ1 B1 au1 s1 a1 w1 → B1[id]? = some b := by
    intro Φ1 B1 au1 s1 a1 w1 i1
    obtain ⟨t, ht⟩ := i1.pre
    have ht' : B ++ t = B1 := ht
    rw [← ht', List.getElem?_append_left (List.getElem?_eq_some_iff.1 hb).1]; exact hb
  cases e' with
  | exit i => exact h1.elim
  | goto i => exact h1.elim
  | ret => exact h1.elim
  | normal =>
    simp only [beginC] at h1
    split at h1
    · rename_i tm1 ps1 asg1 body1 e1
      obtain ⟨r1, p1, p2, p3, p4, p5, p6, p7, p8, i2⟩ := i1.loopTurn (rd' := false) (pd' := none) e1 (hBb i1)
      refine ⟨_, run_beginRound p1 p2, ?_⟩
      have hw : ({ r1 with state := .busy } : Loop) = { r1 with state := (if false = true then .ready else if (none : Option Code).isSome then .done else .busy), pending := none } := by
        simp [← p3]
      rw [hw]
      refine wpIn_mono (F := κ'.F) (h1 κ' a1 _ ⟨Φ1, B1, au1, i2⟩) ?_
      rintro e a2 w2 ⟨e2, s2, rfl, h2, Φ2, B2, au2, i3⟩
      unfold roundEndK at h2
      split at h2
      · rename_i tm2 ps2 asg2 body2 ehp
        -- the round's end, whatever the way
        have fin : ∀ (j : Option Code) (rd' : Bool), (rd' = j.isNone) → K (.d (.bool rd')) (s2.hp.set id (.loop rd' j tm2 ps2 asg2 body2)) →
            ∃ v w', (Instr.endRound b j).run P w2 = .ok v w' ∧ ∃ v' r hp', Ending.returned v = .returned v' ∧ K r hp' ∧ Rel (Ctx.at_ Φ B au w) ⟨[r], hp', hp.length⟩ ⟨#[v'], []⟩ w' := by
          intro j rd' hrd hK
          obtain ⟨r2, t1, t2, t3, t4, t5, t6, t7, t8, i4⟩ := i3.loopTurn (rd' := rd') (pd' := j) ehp (hBb i3)
          refine ⟨_, _, run_endRound t1, .bool rd', .d (.bool rd'), _, by rw [hrd], hK, Φ2, B2, fun x => match au2 x with | some (.slot _ _, _) => none | x => x, ?_⟩
          have hst : ({ r2 with state := if j.isNone then .ready else .done, pending := j } : Loop) = { r2 with state := (if rd' then .ready else if j.isSome then .done else .busy), pending := j } := by
            subst hrd; cases j <;> rfl
          rw [hst]
          have hns : ∀ b h0 st, au2 b = some (h0, st) → (∀ i j, h0 ≠ .slot i j) → (match au2 b with | some (.slot _ _, _) => none | x => x) = some (h0, st) := by
            intro b h0 st e hn
            rw [e]
            cases h0 with
            | slot i j => exact absurd rfl (hn i j)
            | _ => rfl
          have hns' : ∀ b h0 st, (match au2 b with | some (.slot _ _, _) => none | x => x) = some (h0, st) → au2 b = some (h0, st) := by
            intro b h0 st e
            split at e
            · cases e
            · exact e
          refine { phi := i4.phi, phia := fun lb b o v h0 st hp e => i4.phia _ b o v h0 st hp (hns' b h0 st e), auw := fun b h0 st e => i4.auw b h0 st (hns' b h0 st e), size := i4.size, keep := i4.keep, pre := i4.pre, lePhi := i4.lePhi, tl := rfl, tm := fun i V u hV hu => ?_, hl := i4.hl, nb := ?_, hp := fun id' o' b' ho hb' => ?_, df := ⟨[], rfl, List.nodup_nil, by simp⟩, rd := fun l hl => (by cases hl), lp := i4.lp, src := i4.src, wo := i4.wo }
          · cases i with
            | succ i => simp at hV
            | zero => simp at hV hu; subst hV; subst hu; exact ⟨.d (.bool _), trivial⟩
          · have e1 := hi.nb; have e4 := i4.pre.length_le; have e5 := i4.hl; have e6 := hi.hl
            simp only [κ', Ctx.at_] at e1 e4 ⊢
            simp only at e5 e6
            refine ⟨by omega, ?_⟩
            rw [e5, e6]; exact e4
          · exact (i4.hp id' o' b' ho hb').mono (CM.le_refl _) (fun _ _ h => h) (fun e => ⟨hns _ _ _ e (by simp), rfl⟩) (fun j b st e => ⟨hns _ _ _ e (by simp), rfl⟩)
        cases e2 with
        | normal => exact fin none true rfl h2
        | ret => exact fin (some .ret) false rfl h2
        | exit i => exact fin (some (.exit i)) false rfl h2
        | goto i => exact fin (some (.goto i)) false rfl h2
      · exact h2.elim
    · exact h1.elim

end
end Go.Idl
end
section
namespace Go.Idl

/-! ### What an operation reads and writes -/
def tmpOf : Operand → Option Nat
  | .tmp t => some t
  | _ => none

def opUses (ops : List Oper) (o : Oper) : List Nat := o.op.operands.toList.filterMap tmpOf ++ (match o.guard with | some (j, _) => ((ops[j]?).bind (·.dst)).toList | none => [])

def arg0 (o : Oper) : List Nat := match o.op with
  | .call c => (match c.callee, c.args.toList with
    | .builtin .append, .tmp x :: _ => [x]
    | _, _ => [])
  | _ => []

def opWrites (o : Oper) : List Nat := o.dst.toList ++ arg0 o

def isAlloc (o : Oper) : Bool := match o.op with | .alloc _ | .box _ _ => true | _ => false

/-- the mask of what comes before an operation, whatever is drawn -/
def maskOf (o : Oper) (acc : List Nat) : Nat := (o.after.toList.filter (Region.binds .any)).foldl (fun m e => Nat.lor (Nat.lor m (Nat.shiftLeft 1 e.on)) (acc.getD e.on 0)) 0
def predsL : List Oper → List Nat → List Nat
  | [], acc => acc
  | o :: r, acc => predsL r (acc ++ [maskOf o acc])

def maskL (l : List Nat) : Nat := l.foldl (fun m t => Nat.lor m (Nat.shiftLeft 1 t)) 0

def conflictM (u w : Nat) (al : Bool) (u' w' : Nat) (al' : Bool) : Bool := !(Nat.beq (Nat.land w (Nat.lor u' w')) 0) || !(Nat.beq (Nat.land w' u) 0) || (al && al')
def conflict (ops : List Oper) (o p : Oper) : Bool := conflictM (maskL (opUses ops o)) (maskL (opWrites o)) (isAlloc o) (maskL (opUses ops p)) (maskL (opWrites p)) (isAlloc p)

/-- a number is reckoned before it is used -/
def forceN {α : Type} (n : Nat) (k : Nat → α) : α := match n with
  | 0 => k 0
  | m + 1 => k (m + 1)
theorem forceN_eq {α : Type} (n : Nat) (k : Nat → α) : forceN n k = k n := by cases n <;> rfl

structure Seen where
  u : Nat
  w : Nat
  al : Bool

def checkPrev (m0 i mask u w : Nat) (al : Bool) : Nat → List Seen → Bool
  | _, [] => true
  | j, p :: r => (Nat.testBit mask j || (decide (i < m0) && !conflictM u w al p.u p.w p.al)) && checkPrev m0 i mask u w al (j + 1) r

def drawGo (all : List Oper) (m0 : Nat) : Nat → List Oper → List Seen → List Nat → Bool
  | _, [], _, _ => true
  | i, o :: r, prev, acc => forceN (maskOf o acc) fun mask => forceN (maskL (opUses all o)) fun u => forceN (maskL (opWrites o)) fun w =>
      (o.after.toList.all fun e => !Region.binds .any e || decide (e.on < i)) && checkPrev m0 i mask u w (isAlloc o) 0 prev && drawGo all m0 (i + 1) r (prev ++ [⟨u, w, isAlloc o⟩]) (acc ++ [mask])

def drawOK (m : Nat) (ops : List Oper) : Bool := drawGo ops m 0 ops [] []

theorem maskL_mem {x : Nat} : ∀ {l : List Nat} {m0 : Nat}, Nat.testBit (l.foldl (fun m t => Nat.lor m (Nat.shiftLeft 1 t)) m0) x = true ↔ Nat.testBit m0 x = true ∨ x ∈ l
  | [], m0 => by simp
  | t :: l, m0 => by
    simp only [List.foldl_cons]
    rw [maskL_mem (l := l)]
    have : Nat.testBit (Nat.lor m0 (Nat.shiftLeft 1 t)) x = (Nat.testBit m0 x || decide (x = t)) := by
      show Nat.testBit (m0 ||| 1 <<< t) x = _
      rw [Nat.testBit_or, Nat.testBit_shiftLeft]
      congr 1
      rw [Bool.eq_iff_iff]
      simp only [Bool.and_eq_true, decide_eq_true_eq]
      constructor
      · rintro ⟨h1, h2⟩
        have : x - t = 0 := by
          rcases Nat.eq_zero_or_pos (x - t) with h | h
          · exact h
          · exfalso
            obtain ⟨k, hk⟩ : ∃ k, x - t = k + 1 := ⟨x - t - 1, by omega⟩
            rw [hk, Nat.testBit_succ] at h2; simp at h2
        omega
      · rintro rfl; simp
    rw [this]; simp [or_assoc]

theorem maskL_iff {x : Nat} {l : List Nat} : Nat.testBit (maskL l) x = true ↔ x ∈ l := by
  unfold maskL; rw [maskL_mem]; simp

theorem conflict_of_meet {ops : List Oper} {o p : Oper} {x : Nat} (hx : x ∈ opWrites p) (hy : x ∈ opUses ops o) : conflict ops o p = true := by
  unfold conflict conflictM
  have : Nat.beq (Nat.land (maskL (opWrites p)) (maskL (opUses ops o))) 0 = false := by
    rw [Bool.eq_false_iff]
    intro h
    have h0 : (maskL (opWrites p)) &&& (maskL (opUses ops o)) = 0 := Nat.eq_of_beq_eq_true h
    have : Nat.testBit ((maskL (opWrites p)) &&& (maskL (opUses ops o))) x = true := by rw [Nat.testBit_and, maskL_iff.2 hx, maskL_iff.2 hy]; rfl
    rw [h0] at this; simp at this
  rw [this]; simp

theorem conflict_of_alloc {ops : List Oper} {o p : Oper} (h : isAlloc o = true) (h' : isAlloc p = true) : conflict ops o p = true := by
  unfold conflict conflictM; simp [h, h']

theorem conflict_false {ops : List Oper} {o p : Oper} (h : conflict ops o p = false) : (∀ x ∈ opWrites o, x ∉ opUses ops p ∧ x ∉ opWrites p) ∧ (isAlloc o = false ∨ isAlloc p = false) := by
  unfold conflict conflictM at h
  simp only [Bool.or_eq_false_iff, Bool.and_eq_false_iff, Bool.not_eq_false'] at h
  refine ⟨fun x hx => ?_, h.2⟩
  have h0 : (maskL (opWrites o)) &&& ((maskL (opUses ops p)) ||| (maskL (opWrites p))) = 0 := Nat.eq_of_beq_eq_true h.1.1
  have key : Nat.testBit ((maskL (opWrites o)) &&& ((maskL (opUses ops p)) ||| (maskL (opWrites p)))) x = false := by rw [h0]; simp
  rw [Nat.testBit_and, maskL_iff.2 hx, Bool.true_and, Nat.testBit_or, Bool.or_eq_false_iff] at key
  refine ⟨fun hh => ?_, fun hh => ?_⟩
  · rw [maskL_iff.2 hh] at key; cases key.1
  · rw [maskL_iff.2 hh] at key; cases key.2

theorem predsL_get : ∀ (r : List Oper) (acc : List Nat) (k : Nat), k < acc.length → (predsL r acc).getD k 0 = acc.getD k 0
  | [], _, _, _ => rfl
  | o :: r, acc, k, h => by
    unfold predsL
    rw [predsL_get r _ k (by simp; omega), List.getD, List.getD, List.getElem?_append_left h]

theorem checkPrev_spec {m0 i mask u w : Nat} {al : Bool} : ∀ {l : List Seen} {j : Nat}, checkPrev m0 i mask u w al j l = true → ∀ k p, l[k]? = some p → Nat.testBit mask (j + k) = true ∨ (i < m0 ∧ conflictM u w al p.u p.w p.al = false)
  | [], _, _, k, p, hp => by simp at hp
  | q :: r, j, h, k, p, hp => by
    simp only [checkPrev, Bool.and_eq_true, Bool.or_eq_true, decide_eq_true_eq, Bool.not_eq_true'] at h
    cases k with
    | zero => simp at hp; subst hp; exact h.1
    | succ k =>
      have := checkPrev_spec h.2 k p (by simpa using hp)
      rw [show j + (k + 1) = j + 1 + k by omega]; exact this

theorem drawGo_spec {all : List Oper} {m0 : Nat} : ∀ (rest : List Oper) (i : Nat) (prev : List Seen) (acc : List Nat), drawGo all m0 i rest prev acc = true → rest = all.drop i → acc.length = i → prev = (all.take i).map (fun o => ⟨maskL (opUses all o), maskL (opWrites o), isAlloc o⟩) →
    ∀ k o, i ≤ k → all[k]? = some o → (∀ e ∈ o.after, Region.binds .any e = true → e.on < k) ∧ ∀ j p, j < k → all[j]? = some p → Nat.testBit ((predsL rest acc).getD k 0) j = true ∨ (k < m0 ∧ conflict all o p = false)
  | [], i, prev, acc, _, hr, _, _, k, o, hk, ho => by
    have hlt := (List.getElem?_eq_some_iff.1 ho).1
    have := congrArg List.length hr
    simp at this; omega
  | q :: r, i, prev, acc, h, hr, ha, hp, k, o, hk, ho => by
    simp only [drawGo, forceN_eq, Bool.and_eq_true] at h
    obtain ⟨⟨h1, h2⟩, h3⟩ := h
    have hq : all[i]? = some q := by have := congrArg (·[0]?) hr; simpa using this.symm
    have hil : i < all.length := (List.getElem?_eq_some_iff.1 hq).1
    rcases Nat.lt_or_eq_of_le hk with hlt | rfl
    · have := drawGo_spec r (i + 1) _ _ h3 (by have := congrArg List.tail hr; simpa [List.tail_drop] using this) (by simp [ha]) (by rw [hp, List.take_succ, hq]; simp) k o hlt ho
      simpa only [predsL] using this
    · rw [hq] at ho; injection ho with ho; subst ho
      refine ⟨fun e he hb => ?_, fun j p hj hpj => ?_⟩
      · rw [List.all_eq_true] at h1
        have := h1 e (by simpa using he)
        simpa [hb] using this
      · have hpl : prev[j]? = some ⟨maskL (opUses all p), maskL (opWrites p), isAlloc p⟩ := by
          rw [hp, List.getElem?_map, List.getElem?_take_of_lt hj, hpj]; rfl
        have := checkPrev_spec h2 j _ hpl
        rw [Nat.zero_add] at this
        have hmask : (predsL (q :: r) acc).getD i 0 = maskOf q acc := by
          unfold predsL
          rw [predsL_get r _ i (by simp [ha]), List.getD, List.getElem?_append_right (by omega)]
          simp [ha]
        rw [hmask]; exact this

/-! ### The free part -/
structure Eff where
  ws : List (Nat × V)
  push : Option IObj

def writeTm : List V → List (Nat × V) → List V
  | tm, [] => tm
  | tm, (i, v) :: r => writeTm (tm.set i v) r

def Eff.app (e : Eff) (s : St) : St := { tm := writeTm s.tm e.ws, hp := s.hp ++ e.push.toList, nb := s.nb }

/-- a call in the free part -/
def freeCall (P : Program) (c : Call) (s : St) (dst : Option Nat) (K : St → Prop) : Prop :=
  match c.callee with
  | .value g => match ev P 0 s g with
    | .fn (.func f) caps => hasBody P f = true ∧ caps.all V.bare = true ∧ ∃ ds r, allD (argVs P s c ++ caps) = some ds ∧ r.data = true ∧ PCall P f ds r ∧ K (s.put dst r)
    | _ => False
  | .builtin .len => (match argVs P s c with
    | [.map _] => False
    | _ => callK0 P c s dst K)
  | .builtin .append => callK0 P c s dst K
  | .builtin .min => callK0 P c s dst K
  | .builtin .max => callK0 P c s dst K
  | _ => False

/-- make, where what is made is a value -/
def makeOwnK (P : Program) (t : TypeId) (l c : Operand) (s : St) (dst : Option Nat) (K : St → Prop) : Prop :=
  match elemTy P t, elI P t, ev P 0 s l, ev P 0 s c with
  | some e, some (z, by_), .d (.int _ n), .d (.int _ m) => match (zeroCs P e).bind (ofCells P e) with
    | some zd => n = m ∧ 0 ≤ n ∧ by_ * n ≤ 281474976710656 ∧ n ≤ 9223372036854775807 ∧ dst.isSome = true ∧ zd.flat.length = z ∧ 0 < z ∧ K (s.put dst (.own z (List.replicate n.toNat zd)))
    | none => False
  | _, _, _, _ => False

/-- one operation of the free part; base: the objects that lay there -/
def freeStep (P : Program) (base : Nat) (o : Oper) (s : St) (K : St → Prop) : Prop :=
  match o.op with
  | .move x | .assign x => K (s.put o.dst (ev P o.type s x).cp)
  | .load t a => match ev P 0 s a with
    | .ptr id _ => id < base ∧ loadK P t (ev P 0 s a) s o.dst false K
    | .aptr id _ _ _ => id < base ∧ loadK P t (ev P 0 s a) s o.dst false K
    | v => loadK P t v s o.dst false K
  | .extract x ix => match ev P 0 s x with
    | .tup vs => match vs[ix]? with
      | some v => v.isTup = false ∧ K (s.put o.dst v.cp)
      | none => False
    | _ => False
  | .call c => freeCall P c s o.dst K
  | .indexAddr t x _ => match (ev P t s x).cp with
    | .ref id _ _ _ _ => id < base ∧ stepK P o [] s K
    | _ => stepK P o [] s K
  | .lookup t x _ _ => match ev P t s x with
    | .map id => id < base ∧ stepK P o [] s K
    | _ => False
  | .binOp _ _ _ y _ => isNilC y = false ∧ stepK P o [] s K
  | .makeSlice t l c => makeOwnK P t l c s o.dst K
  | .store .. | .mapUpdate .. | .insert .. | .makeMap .. | .range .. | .next .. => False
  | _ => stepK P o [] s K

def freeOp (P : Program) (base : Nat) (all : List Oper) (o : Oper) (s : St) (K : St → Prop) : Prop :=
  match o.guard with
  | none => freeStep P base o s K
  | some (j, want) => match (all[j]?).bind (·.dst) with
    | some t => match s.tm[t]? with
      | some (.d (.bool b)) => (b = want → freeStep P base o s K) ∧ (b = !want → K (s.put o.dst (.tup [])))
      | some (.tup []) => K (s.put o.dst (.tup []))
      | _ => False
    | none => False

def freeK (P : Program) (base : Nat) (all : List Oper) : List Oper → St → (St → Prop) → Prop
  | [], s, K => K s
  | o :: r, s, K => freeOp P base all o s fun s' => freeK P base all r s' K

/-! ### The states on the way -/
theorem writeTm_length : ∀ (ws : List (Nat × V)) (tm : List V), (writeTm tm ws).length = tm.length
  | [], _ => rfl
  | (i, v) :: r, tm => by simp [writeTm, writeTm_length r]

theorem writeTm_get_not : ∀ (ws : List (Nat × V)) (tm : List V) (x : Nat), (∀ p ∈ ws, p.1 ≠ x) → (writeTm tm ws)[x]? = tm[x]?
  | [], _, _, _ => rfl
  | (i, v) :: r, tm, x, h => by
    simp only [writeTm]
    rw [writeTm_get_not r _ x (fun p hp => h p (by simp [hp])), List.getElem?_set, if_neg (h (i, v) (by simp))]

theorem writeTm_get_congr : ∀ (ws : List (Nat × V)) (tm tm' : List V) (x : Nat), tm.length = tm'.length → ((∃ p ∈ ws, p.1 = x) ∨ tm[x]? = tm'[x]?) → (writeTm tm ws)[x]? = (writeTm tm' ws)[x]?
  | [], tm, tm', x, hl, h => by
    rcases h with ⟨p, hp, _⟩ | h
    · cases hp
    · exact h
  | (i, v) :: r, tm, tm', x, hl, h => by
    simp only [writeTm]
    refine writeTm_get_congr r _ _ x (by simpa using hl) ?_
    by_cases hr : ∃ p ∈ r, p.1 = x
    · exact .inl hr
    · right
      simp only [List.getElem?_set]
      by_cases e : i = x
      · subst e; simp [hl]
      · simp only [e, if_false]
        rcases h with ⟨p, hp, hx⟩ | h
        · rcases List.mem_cons.1 hp with rfl | hp
          · exact absurd hx e
          · exact absurd ⟨p, hp, hx⟩ hr
        · exact h

/-- the state in which just the operations of L are done -/
def stL (L : Nat → Bool) : Nat → List Eff → St → St
  | _, [], s => s
  | i, e :: es, s => stL L (i + 1) es (if L i then e.app s else s)

theorem stL_len (L : Nat → Bool) : ∀ (i : Nat) (es : List Eff) (s : St), (stL L i es s).tm.length = s.tm.length ∧ (stL L i es s).nb = s.nb
  | _, [], _ => ⟨rfl, rfl⟩
  | i, e :: es, s => by
    simp only [stL]
    obtain ⟨h1, h2⟩ := stL_len L (i + 1) es (if L i then e.app s else s)
    rw [h1, h2]
    split
    · exact ⟨writeTm_length _ _, rfl⟩
    · exact ⟨rfl, rfl⟩

/-- A slot's value hangs on those alone that write it. -/
theorem stL_get (L L' : Nat → Bool) (x : Nat) : ∀ (i : Nat) (es : List Eff) (s s' : St), s.tm.length = s'.tm.length → s.tm[x]? = s'.tm[x]? → (∀ k e, es[k]? = some e → (∃ p ∈ e.ws, p.1 = x) → L (i + k) = L' (i + k)) →
    (stL L i es s).tm[x]? = (stL L' i es s').tm[x]?
  | _, [], _, _, _, h, _ => h
  | i, e :: es, s, s', hl, h, hw => by
    simp only [stL]
    refine stL_get L L' x (i + 1) es _ _ ?_ ?_ fun k e' he hp => by
      have := hw (k + 1) e' (by simpa using he) hp
      rw [show i + 1 + k = i + (k + 1) by omega]; exact this
    · split <;> split <;> simp [Eff.app, writeTm_length, hl]
    · by_cases hx : ∃ p ∈ e.ws, p.1 = x
      · have := hw 0 e rfl hx
        simp only [Nat.add_zero] at this
        rw [this]
        split
        · exact writeTm_get_congr e.ws _ _ x hl (.inl hx)
        · exact h
      · have hn : ∀ p ∈ e.ws, p.1 ≠ x := fun p hp he => hx ⟨p, hp, he⟩
        have e1 : ∀ s : St, (e.app s).tm[x]? = s.tm[x]? := fun s => writeTm_get_not e.ws s.tm x hn
        split <;> split <;> (try simp only [e1]) <;> exact h

theorem stL_hp (L : Nat → Bool) : ∀ (i : Nat) (es : List Eff) (s : St), ∃ t, (stL L i es s).hp = s.hp ++ t
  | _, [], s => ⟨[], by simp [stL]⟩
  | i, e :: es, s => by
    simp only [stL]
    obtain ⟨t, ht⟩ := stL_hp L (i + 1) es (if L i then e.app s else s)
    rw [ht]
    split
    · exact ⟨e.push.toList ++ t, by simp [Eff.app]⟩
    · exact ⟨t, rfl⟩

/-- only one of them lays an object -/
theorem stL_hp_none (L : Nat → Bool) : ∀ (i : Nat) (es : List Eff) (s : St), (∀ k e, es[k]? = some e → L (i + k) = true → e.push = none) → (stL L i es s).hp = s.hp
  | _, [], s, _ => rfl
  | i, e :: es, s, h => by
    simp only [stL]
    rw [stL_hp_none L (i + 1) es _ fun k e' he hL => h (k + 1) e' (by simpa using he) (by rw [show i + (k + 1) = i + 1 + k by omega]; exact hL)]
    split
    · rename_i hL
      have := h 0 e rfl (by simpa using hL)
      simp [Eff.app, this]
    · rfl

theorem app_comm {e f : Eff} {s : St} (hw : ∀ p ∈ e.ws, ∀ q ∈ f.ws, p.1 ≠ q.1) (hp : e.push = none ∨ f.push = none) : e.app (f.app s) = f.app (e.app s) := by
  have htm : writeTm (writeTm s.tm f.ws) e.ws = writeTm (writeTm s.tm e.ws) f.ws := by
    apply List.ext_getElem?
    intro x
    by_cases hx : ∃ p ∈ e.ws, p.1 = x
    · obtain ⟨p, hpm, rfl⟩ := hx
      rw [writeTm_get_not f.ws (writeTm s.tm e.ws) p.1 (fun q hq he => hw p hpm q hq he.symm)]
      exact writeTm_get_congr e.ws _ _ _ (writeTm_length _ _) (.inl ⟨p, hpm, rfl⟩)
    · have hn : ∀ p ∈ e.ws, p.1 ≠ x := fun p hp he => hx ⟨p, hp, he⟩
      rw [writeTm_get_not e.ws _ x hn]
      refine writeTm_get_congr f.ws _ _ _ (writeTm_length _ _).symm ?_
      right; rw [writeTm_get_not e.ws _ x hn]
  unfold Eff.app
  simp only [htm, St.mk.injEq, true_and, and_true]
  rcases hp with h | h <;> rw [h] <;> simp

/-- One more is done. -/
theorem stL_insert (L : Nat → Bool) (i0 : Nat) (e0 : Eff) : ∀ (i : Nat) (es : List Eff) (s : St), (∀ k, es[k]? = some e0 → i + k = i0 → True) → (i ≤ i0) → es[i0 - i]? = some e0 → L i0 = false →
    (∀ k f, es[k]? = some f → i0 < i + k → L (i + k) = true → (∀ p ∈ e0.ws, ∀ q ∈ f.ws, p.1 ≠ q.1) ∧ (e0.push = none ∨ f.push = none)) →
    e0.app (stL L i es s) = stL (fun j => L j || j == i0) i es s
  | i, [], s, _, hi, he, hL, _ => by simp at he
  | i, e :: es, s, h, hi, he, hL, hc => by
    by_cases hii : i = i0
    · subst hii
      simp at he; subst he
      simp only [stL, hL, Bool.false_eq_true, if_false, Bool.false_or, beq_self_eq_true, if_true]
      -- it moves to the left of all that come later
      have key : ∀ (es : List Eff) (i' : Nat) (s : St), (∀ k f, es[k]? = some f → L (i' + k) = true → (∀ p ∈ e.ws, ∀ q ∈ f.ws, p.1 ≠ q.1) ∧ (e.push = none ∨ f.push = none)) → i < i' →
          e.app (stL L i' es s) = stL (fun j => L j || j == i) i' es (e.app s) := by
        intro es
        induction es with
        | nil => intro i' s _ _; rfl
        | cons f es ih =>
          intro i' s hcc hlt
          simp only [stL]
          rw [ih (i' + 1) _ (fun k g hg hLk => hcc (k + 1) g (by simpa using hg) (by rw [show i' + (k + 1) = i' + 1 + k by omega]; exact hLk)) (by omega)]
          have hne : (i' == i) = false := by simp; omega
          simp only [hne, Bool.or_false]
          cases hLi : L i' with
          | true =>
            simp only [if_true]
            obtain ⟨c1, c2⟩ := hcc 0 f rfl (by simpa using hLi)
            rw [app_comm c1 c2]
          | false => simp
      exact key es (i + 1) s (fun k f hf hLk => hc (k + 1) f (by simpa using hf) (by omega) (by rw [show i + (k + 1) = i + 1 + k by omega]; exact hLk)) (by omega)
    · simp only [stL]
      have hne : (i == i0) = false := by simpa using hii
      simp only [hne, Bool.or_false]
      refine stL_insert L i0 e0 (i + 1) es _ (fun _ _ _ => trivial) (by omega) ?_ hL fun k f hf hlt hLk => hc (k + 1) f (by simpa using hf) (by omega) (by rw [show i + (k + 1) = i + 1 + k by omega]; exact hLk)
      obtain ⟨d, hd⟩ : ∃ d, i0 - i = d + 1 := ⟨i0 - i - 1, by omega⟩
      rw [hd] at he
      rw [show i0 - (i + 1) = d by omega]; simpa using he

end Go.Idl
end
