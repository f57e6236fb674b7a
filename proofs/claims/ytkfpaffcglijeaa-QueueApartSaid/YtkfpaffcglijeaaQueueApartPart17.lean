/- A state's objects under other numbers.; Slices that are held whole: from a held slice to an array of the memory, and back.; Held slices: what is used at regions that are left whole; one array out of a memory.; The statement QueueApart. -/
import Derived.Test.YtkfpaffcglijeaaQueueApartPart16
set_option linter.all false
section
namespace Go.Idl
set_option linter.unusedSimpArgs false
set_option linter.unusedVariables false

/-- the numbers from 0 on in another order; the first ones stay -/
def renOK (ρ : List Nat) (nb m : Nat) : Bool := decide (ρ.length = m) && ρ.all (fun j => decide (j < m)) && decide ρ.Nodup && decide (ρ.take nb = List.range nb)

/-- **The objects that are new may be numbered anew.** -/
theorem St.le_ren {tm : List V} {hp hp' : List IObj} {nb : Nat} (ρ : List Nat) (hρ : renOK ρ nb hp.length = true) (hl : hp'.length = hp.length) (hh : hp.map (IObj.ren ρ) = ρ.map fun j => hp'.getD j .free) : (⟨tm, hp, nb⟩ : St).le ⟨V.renL ρ tm, hp', nb⟩ := by
  rintro κ a w ⟨Φ, B, au, h⟩
  unfold renOK at hρ
  simp only [Bool.and_eq_true, decide_eq_true_eq, List.all_eq_true] at hρ
  obtain ⟨⟨⟨r1, r2⟩, r3⟩, r4⟩ := hρ
  have hBl : hp.length = B.length := h.hl
  have hget : ∀ i, i < hp.length → ρ[i]? = some (ρ.getD i 0) := fun i hi => by simp [r1, hi]
  have hlt : ∀ i, i < hp.length → ρ.getD i 0 < hp.length := fun i hi => r2 _ (List.mem_of_getElem? (hget i hi))
  have hinj : ∀ i j, i < hp.length → j < hp.length → ρ.getD i 0 = ρ.getD j 0 → i = j := fun i j hi hj e => by
    have h1 := idxOf_of_get r3 (hget i hi)
    have h2 := idxOf_of_get r3 (hget j hj)
    rw [e] at h1; rw [h1] at h2; injection h2
  -- each number is one of the new ones
  have hsur : ∀ j, j < hp.length → ∃ i, i < hp.length ∧ ρ.getD i 0 = j := fun j hj => by
    have : j ∈ ρ := Classical.byContradiction fun hnj => by
      have := nodup_le (l := j :: ρ) (m := List.range hp.length) (List.nodup_cons.2 ⟨hnj, r3⟩) fun x hx => by
        rcases List.mem_cons.1 hx with rfl | hx
        · exact List.mem_range.2 hj
        · exact List.mem_range.2 (r2 x hx)
      simp [r1] at this; omega
    obtain ⟨i, hi, e⟩ := List.getElem_of_mem this
    exact ⟨i, by omega, by simp [List.getD, hi, e]⟩
  have hfix : ∀ i, i < nb → i < hp.length → ρ.getD i 0 = i := fun i hi hi2 => by
    have e1 : (ρ.take nb)[i]? = (List.range nb)[i]? := by rw [r4]
    rw [List.getElem?_take_of_lt hi, hget i hi2, List.getElem?_range hi] at e1
    injection e1
  let inv : Nat → Nat := fun j => (ρ.idxOf? j).getD 0
  have hinv : ∀ i, i < hp.length → inv (ρ.getD i 0) = i := fun i hi => by simp only [inv]; rw [idxOf_of_get r3 (hget i hi)]; rfl
  let B' : List Nat := (List.range hp.length).map fun j => B.getD (inv j) 0
  have hB' : ∀ (i b : Nat), B[i]? = some b → B'[ρ.getD i 0]? = some b := fun i b e => by
    have hi : i < hp.length := by rw [hBl]; exact (List.getElem?_eq_some_iff.1 e).1
    simp only [B']
    rw [List.getElem?_map, List.getElem?_range (hlt i hi)]
    simp only [Option.map_some, Option.some.injEq]
    rw [hinv i hi, List.getD_eq_getElem?_getD, e]; rfl
  have hB2 : ∀ (j b : Nat), B'[j]? = some b → ∃ i, i < hp.length ∧ ρ.getD i 0 = j ∧ B[i]? = some b := fun j b e => by
    have hj : j < hp.length := by have := (List.getElem?_eq_some_iff.1 e).1; simpa [B'] using this
    obtain ⟨i, hi, rfl⟩ := hsur j hj
    refine ⟨i, hi, rfl, ?_⟩
    have hbi : B[i]? = some B[i] := List.getElem?_eq_getElem (by omega)
    have := hB' i _ hbi
    rw [this] at e; rw [hbi]; exact e
  let au' : Auth := fun b => (au b).map fun p => (p.1.ren ρ, p.2)
  have hau : ∀ b h0 st, au b = some (h0, st) → au' b = some (h0.ren ρ, st) := fun b h0 st e => by simp only [au', e]; rfl
  have hau2 : ∀ b h0 st, au' b = some (h0, st) → ∃ h1, au b = some (h1, st) := fun b h0 st e => by
    simp only [au', Option.map_eq_some_iff] at e
    obtain ⟨⟨h1, st1⟩, e1, e2⟩ := e
    injection e2 with e2 e3; subst e3; exact ⟨h1, e1⟩
  refine ⟨Φ, B', au', { h with phia := fun lb b o v h0 st hp e => ?_, auw := fun b h0 st e => ?_, pre := ?_, tl := ?_, tm := fun i V v hV hv => ?_, hl := ?_, nb := ?_, hp := fun id o b ho hb => ?_, df := ?_ }⟩
  · obtain ⟨h1, e1⟩ := hau2 b h0 st e
    exact h.phia lb b o v h1 st hp e1
  · obtain ⟨h1, e1⟩ := hau2 b h0 st e
    exact h.auw b h1 st e1
  · obtain ⟨t, ht⟩ := h.pre
    have hn : κ.B.length ≤ nb ∧ nb ≤ hp.length := h.nb
    refine (List.prefix_iff_eq_take).2 (List.ext_getElem? fun i => ?_)
    by_cases hi : i < κ.B.length
    · have hk : κ.B[i]? = B[i]? := by rw [← ht, List.getElem?_append_left hi]
      have hiB : i < hp.length := by omega
      rw [List.getElem?_take_of_lt hi, hk]
      have hbi : B[i]? = some B[i] := List.getElem?_eq_getElem (by omega)
      have := hB' i _ hbi
      rw [hfix i (by omega) hiB] at this
      rw [this, hbi]
    · rw [List.getElem?_eq_none (by omega), List.getElem?_eq_none (by rw [List.length_take]; omega)]
  · have := h.tl
    simp only at this
    simp only [renL_map, List.length_map]; exact this
  · simp only [renL_map, List.getElem?_map, Option.map_eq_some_iff] at hV
    obtain ⟨V', hV', rfl⟩ := hV
    obtain ⟨g1, g2⟩ := h.tm i V' v hV' hv
    exact ⟨g1.ren hB', g2.ren fun j b st e => ⟨hau b _ st e, rfl⟩⟩
  · simp only [B', List.length_map, List.length_range]; exact hl
  · have hn := h.nb
    exact ⟨hn.1, by simp only [hl]; exact hn.2⟩
  · obtain ⟨i, hi, rfl, hBi⟩ := hB2 id b hb
    have e1 : (hp.map (IObj.ren ρ))[i]? = (ρ.map fun j => hp'.getD j .free)[i]? := by rw [hh]
    rw [List.getElem?_map, List.getElem?_map, hget i hi, List.getElem?_eq_getElem hi] at e1
    simp only [Option.map_some, Option.some.injEq] at e1
    have ho' : hp'[ρ.getD i 0]? = some o := ho
    rw [List.getD_eq_getElem?_getD (l := hp'), ho'] at e1
    simp only [Option.getD_some] at e1
    subst e1
    exact (h.hp i hp[i] b (List.getElem?_eq_getElem hi) hBi).ren (CM.le_refl _) hB' (fun e => ⟨hau b _ _ e, rfl⟩) (fun j b st e => ⟨hau b _ st e, rfl⟩)
  · obtain ⟨rs, h1, h2, h3⟩ := h.df
    refine ⟨rs, h1, h2, fun r hr => ?_⟩
    obtain ⟨x, y, z⟩ := h3 r hr
    exact ⟨x, by simp only [au', y]; rfl, z⟩
theorem St.le_ren' {s e : St} (ρ : List Nat) (hρ : renOK ρ s.nb s.hp.length = true) (hl : e.hp.length = s.hp.length) (hh : s.hp.map (IObj.ren ρ) = ρ.map fun j => e.hp.getD j .free) (ht : e.tm = V.renL ρ s.tm) (hn : e.nb = s.nb) : s.le e := by
  obtain ⟨tm, hp, nb⟩ := s
  obtain ⟨tm', hp', nb'⟩ := e
  simp only at hρ hl hh ht hn
  subst ht; subst hn
  exact St.le_ren ρ hρ hl hh
/-- a region's orders, all of which come to one state, but for the objects' numbers -/
theorem any_endR {P : Program} {ops : List (SOp × List Nat)} {K : St → Prop} {n m : Nat} {s : St} (e : St) (hm : m ≤ ops.length) (h : ∀ K0 : St → Prop, (∀ s' : St, s'.le e → K0 s') → anyGoB P ops K0 n (List.replicate m true ++ List.replicate (ops.length - m) false) s) (hk : K e) : anyGo P ops (fun s' => ∃ s'', s'.le s'' ∧ K s'') n (upto m) s :=
  anyGo_U (h _ fun s' hs => ⟨e, hs, hk⟩) hm
end Go.Idl
end
section
namespace Go.Idl
set_option linter.unusedSimpArgs false
set_option linter.unusedVariables false

theorem atom_rep {Φ Ψ : CM} {d : D} {v : Value} (h : RepD Φ d v) (ha : d.atom = true) : RepD Ψ d v := by
  cases h with
  | int k n => exact .int k n
  | bool b => exact .bool b
  | str s => exact .str s
  | con v hv => exact .con v hv
  | agg _ => simp [D.atom] at ha
  | sl0 => simp [D.atom] at ha
  | sl _ _ _ => simp [D.atom] at ha

section
variable {P : Program}

/-- **A held slice becomes an array of the memory.** -/
theorem SemC.thawCell {c : Code} {Q : Ex → St → Prop} {s : St} {id j z : Nat} {xs : List D} {cs : List V} (h1 : s.hp[id]? = some (.var cs)) (h2 : cs[j]? = some (.hold z xs))
    (h : ∀ cap rest, xs.length + rest.length = cap → (∀ x ∈ rest, x.plain = true) → SemC P c Q ⟨s.tm, s.hp.set id (.var (cs.set j (.ref s.hp.length z 0 xs.length cap))) ++ [.arr z (xs ++ rest)], s.nb⟩) : SemC P c Q s := by
  intro κ a w hr
  obtain ⟨Φ, B, au, hi⟩ := hr
  have hid : id < s.hp.length := (List.getElem?_eq_some_iff.1 h1).1
  have hidB : id < B.length := by rw [← hi.hl]; exact hid
  obtain ⟨b, c0, el, hb, q1, q2, q3, q4⟩ := hi.varAt h1
  obtain ⟨v, m1, m2, m3, m4⟩ := q4 j _ h2
  have hj : j < cs.length := (List.getElem?_eq_some_iff.1 h2).1
  obtain ⟨ad, cap, rfl, hcap, hold⟩ := m4
  rcases hold with h0 | ⟨b0, c1, el1, rest, rfl, k1, k2, k3, k4, k5⟩
  · subst h0
    have hx0 : xs = [] := List.length_eq_zero_iff.1 (by omega)
    subst hx0
    refine h 0 [] rfl (by simp) κ a w ⟨Φ, B ++ [0], au, ?_⟩
    have hB : ∀ (i b : Nat), B[i]? = some b → (B ++ [0])[i]? = some b := fun i b e => by
      rw [List.getElem?_append_left (List.getElem?_eq_some_iff.1 e).1]; exact e
    refine { hi with pre := hi.pre.trans (List.prefix_append _ _), tm := fun i V v hV hv => ⟨(hi.tm i V v hV hv).1.mono (CM.le_refl _) hB, (hi.tm i V v hV hv).2⟩, hl := by simp [hi.hl], nb := ⟨hi.nb.1, by have := hi.nb.2; simp; omega⟩, hp := fun id' o b' ho hb' => ?_ }
    by_cases hn : id' < s.hp.length
    · rw [List.getElem?_append_left (by simpa using hn), List.getElem?_set] at ho
      rw [List.getElem?_append_left (by rw [← hi.hl]; exact hn)] at hb'
      by_cases e : id = id'
      · subst e
        rw [if_pos rfl, if_pos hid] at ho
        injection ho with ho; subst ho
        rw [hb] at hb'; injection hb' with hb'; subst hb'
        refine ⟨q1, c0, el, q2, by simpa using q3, fun k V hk => ?_⟩
        rw [List.getElem?_set] at hk
        by_cases e2 : j = k
        · subst e2
          rw [if_pos rfl, if_pos hj] at hk
          injection hk with hk; subst hk
          exact ⟨_, m1, fun _ => trivial, .ref0, trivial⟩
        · rw [if_neg e2] at hk
          obtain ⟨x, g1, g2, g3, g4⟩ := q4 k V hk
          exact ⟨x, g1, g2, g3.mono (CM.le_refl _) hB, g4⟩
      · rw [if_neg e] at ho
        exact (hi.hp id' o b' ho hb').mono (CM.le_refl _) hB (fun e => ⟨e, rfl⟩) (fun j b st e => ⟨e, rfl⟩)
    · have hn1 : id' = s.hp.length := by
        have := (List.getElem?_eq_some_iff.1 ho).1; simp at this; omega
      subst hn1
      rw [List.getElem?_append_right (by simp)] at ho
      simp at ho
      subst ho
      exact fun hne => absurd rfl hne
  · have hplain : ∀ x ∈ rest, x.plain = true := fun x hx => by
      obtain ⟨i, hi2, rfl⟩ := List.getElem_of_mem hx
      exact (k5 (xs.length + i) _ (by rw [List.getElem?_append_right (by omega)]; simp [hi2])).2.1
    refine h cap rest k4 hplain κ a w ⟨Φ, B ++ [b0], fun b => if b = b0 then some (.obj s.hp.length, 0) else au b, ?_⟩
    have hB : ∀ (i b : Nat), B[i]? = some b → (B ++ [b0])[i]? = some b := fun i b e => by
      rw [List.getElem?_append_left (List.getElem?_eq_some_iff.1 e).1]; exact e
    have hau : ∀ b h0 st, au b = some (h0, st) → h0 ≠ .cell id j → (if b = b0 then some (Holder.obj s.hp.length, 0) else au b) = some (h0, st) := fun b h0 st e hn => by
      rw [if_neg]; exact e
      rintro rfl
      rw [k1] at e; injection e with e; injection e with e _; exact hn e.symm
    have hlast : (B ++ [b0])[s.hp.length]? = some b0 := by
      rw [hi.hl, List.getElem?_append_right (Nat.le_refl _)]; simp
    refine { hi with phia := fun lb b' o v h0 st hp ha => ?_, auw := fun b' h0 st ha => ?_, pre := hi.pre.trans (List.prefix_append _ _), tm := fun i V v hV hv => ?_, hl := by simp [hi.hl], nb := ⟨hi.nb.1, by have := hi.nb.2; simp; omega⟩, hp := fun id' o b' ho hb' => ?_, df := ?_ }
    · split at ha
      · rename_i e; subst e
        have := hi.phia _ _ _ _ _ _ hp k1
        omega
      · exact hi.phia _ _ _ _ _ _ hp ha
    · split at ha
      · rename_i e; subst e
        exact hi.auw _ _ _ k1
      · exact hi.auw _ _ _ ha
    · obtain ⟨g1, g2⟩ := hi.tm i V v hV hv
      exact ⟨g1.mono (CM.le_refl _) hB, g2.mono fun j b st e => ⟨hau b _ st e (by simp), rfl⟩⟩
    · by_cases hn : id' < s.hp.length
      · rw [List.getElem?_append_left (by simpa using hn), List.getElem?_set] at ho
        rw [List.getElem?_append_left (by rw [← hi.hl]; exact hn)] at hb'
        by_cases e : id = id'
        · subst e
          rw [if_pos rfl, if_pos hid] at ho
          injection ho with ho; subst ho
          rw [hb] at hb'; injection hb' with hb'; subst hb'
          refine ⟨hau _ _ _ q1 (by simp), c0, el, q2, by simpa using q3, fun k V hk => ?_⟩
          rw [List.getElem?_set] at hk
          by_cases e2 : j = k
          · subst e2
            rw [if_pos rfl, if_pos hj] at hk
            injection hk with hk; subst hk
            exact ⟨_, m1, fun _ => trivial, .ref hlast hcap fun _ => by rw [Nat.zero_mul], trivial⟩
          · rw [if_neg e2] at hk
            obtain ⟨x, g1, g2, g3, g4⟩ := q4 k V hk
            exact ⟨x, g1, g2, g3.mono (CM.le_refl _) hB, g4.mono fun _ b st e => ⟨hau b _ st e (by intro hh; injection hh with _ hh; exact e2 hh.symm), rfl⟩⟩
        · rw [if_neg e] at ho
          exact (hi.hp id' o b' ho hb').mono (CM.le_refl _) hB (fun e => ⟨hau _ _ _ e (by simp), rfl⟩) (fun j' b st e' => ⟨hau b _ st e' (by intro hh; injection hh with hh _; exact e hh.symm), rfl⟩)
      · have hn1 : id' = s.hp.length := by
          have := (List.getElem?_eq_some_iff.1 ho).1; simp at this; omega
        subst hn1
        rw [List.getElem?_append_right (by simp)] at ho
        simp at ho
        subst ho
        rw [hlast] at hb'; injection hb' with hb'; subst hb'
        intro _
        refine ⟨if_pos rfl, c1, el1, k2, by rw [k3, List.length_append, k4], fun i x hx => ?_⟩
        obtain ⟨g1, g2, g3⟩ := k5 i x hx
        refine ⟨g1, fun j d hd => ?_⟩
        obtain ⟨v, r1, r2, r3⟩ := g3 j d hd
        exact ⟨v, r1, r2, r3.mono fun _ _ _ _ e => by cases e⟩
    · obtain ⟨rs, g1, g2, g3⟩ := hi.df
      refine ⟨rs, g1, g2, fun r hr => ?_⟩
      obtain ⟨x, y, z⟩ := g3 r hr
      refine ⟨x, ?_, z⟩
      rw [if_neg]; exact y
      rintro rfl
      rw [k1] at y; cases y

/-- **A held slice in a slot becomes an array of the memory.** -/
theorem SemC.thawSlot {c : Code} {Q : Ex → St → Prop} {s : St} (i : Nat) {z : Nat} {xs : List D} (h2 : s.tm[i]? = some (.hold z xs))
    (h : ∀ cap rest, xs.length + rest.length = cap → (∀ x ∈ rest, x.plain = true) → SemC P c Q ⟨s.tm.set i (.ref s.hp.length z 0 xs.length cap), s.hp ++ [.arr z (xs ++ rest)], s.nb⟩) : SemC P c Q s := by
  intro κ a w hr
  obtain ⟨Φ, B, au, hi⟩ := hr
  have hil : i < s.tm.length := (List.getElem?_eq_some_iff.1 h2).1
  have hia : i < a.tmps.size := by rw [← hi.tl]; exact hil
  have hv : a.tmps[i]? = some a.tmps[i] := Array.getElem?_eq_getElem hia
  generalize hvv : a.tmps[i] = v at hv
  obtain ⟨m3, m4⟩ := hi.tm i _ v h2 hv
  obtain ⟨ad, cap, rfl, hcap, hold⟩ := m4
  rcases hold with h0 | ⟨b0, c1, el1, rest, rfl, k1, k2, k3, k4, k5⟩
  · subst h0
    have hx0 : xs = [] := List.length_eq_zero_iff.1 (by omega)
    subst hx0
    refine h 0 [] rfl (by simp) κ a w ⟨Φ, B ++ [0], au, ?_⟩
    have hB : ∀ (i b : Nat), B[i]? = some b → (B ++ [0])[i]? = some b := fun i b e => by
      rw [List.getElem?_append_left (List.getElem?_eq_some_iff.1 e).1]; exact e
    refine { hi with pre := hi.pre.trans (List.prefix_append _ _), tl := by simpa using hi.tl, tm := fun k V u hV hu => ?_, hl := by simp [hi.hl], nb := ⟨hi.nb.1, by have := hi.nb.2; simp; omega⟩, hp := fun id' o b' ho hb' => ?_ }
    · simp only [List.getElem?_set] at hV
      split at hV
      · rename_i e; subst e
        injection hV with hV; subst hV
        rw [hv] at hu; injection hu with hu; subst hu
        exact ⟨.ref0, trivial⟩
      · exact ⟨(hi.tm k V u hV hu).1.mono (CM.le_refl _) hB, (hi.tm k V u hV hu).2⟩
    · by_cases hn : id' < s.hp.length
      · rw [List.getElem?_append_left hn] at ho
        rw [List.getElem?_append_left (by rw [← hi.hl]; exact hn)] at hb'
        exact (hi.hp id' o b' ho hb').mono (CM.le_refl _) hB (fun e => ⟨e, rfl⟩) (fun j b st e => ⟨e, rfl⟩)
      · have hn1 : id' = s.hp.length := by
          have := (List.getElem?_eq_some_iff.1 ho).1; simp at this; omega
        subst hn1
        rw [List.getElem?_append_right (by simp)] at ho
        simp at ho
        subst ho
        exact fun hne => absurd rfl hne
  · have hplain : ∀ x ∈ rest, x.plain = true := fun x hx => by
      obtain ⟨i, hi2, rfl⟩ := List.getElem_of_mem hx
      exact (k5 (xs.length + i) _ (by rw [List.getElem?_append_right (by omega)]; simp [hi2])).2.1
    refine h cap rest k4 hplain κ a w ⟨Φ, B ++ [b0], fun b => if b = b0 then some (.obj s.hp.length, 0) else au b, ?_⟩
    have hB : ∀ (i b : Nat), B[i]? = some b → (B ++ [b0])[i]? = some b := fun i b e => by
      rw [List.getElem?_append_left (List.getElem?_eq_some_iff.1 e).1]; exact e
    have hau : ∀ b h0 st, au b = some (h0, st) → h0 ≠ .slot i 0 → (if b = b0 then some (Holder.obj s.hp.length, 0) else au b) = some (h0, st) := fun b h0 st e hn => by
      rw [if_neg]; exact e
      rintro rfl
      rw [k1] at e; injection e with e; injection e with e _; exact hn e.symm
    have hlast : (B ++ [b0])[s.hp.length]? = some b0 := by
      rw [hi.hl, List.getElem?_append_right (Nat.le_refl _)]; simp
    refine { hi with phia := fun lb b' o v h0 st hp ha => ?_, auw := fun b' h0 st ha => ?_, pre := hi.pre.trans (List.prefix_append _ _), tl := by simpa using hi.tl, tm := fun k V u hV hu => ?_, hl := by simp [hi.hl], nb := ⟨hi.nb.1, by have := hi.nb.2; simp; omega⟩, hp := fun id' o b' ho hb' => ?_, df := ?_ }
    · split at ha
      · rename_i e; subst e
        have := hi.phia _ _ _ _ _ _ hp k1
        omega
      · exact hi.phia _ _ _ _ _ _ hp ha
    · split at ha
      · rename_i e; subst e
        exact hi.auw _ _ _ k1
      · exact hi.auw _ _ _ ha
    · simp only [List.getElem?_set] at hV
      split at hV
      · rename_i e; subst e
        injection hV with hV; subst hV
        rw [hv] at hu; injection hu with hu; subst hu
        exact ⟨.ref hlast hcap fun _ => by rw [Nat.zero_mul], trivial⟩
      · rename_i e
        obtain ⟨g1, g2⟩ := hi.tm k V u hV hu
        exact ⟨g1.mono (CM.le_refl _) hB, g2.mono fun j b st e' => ⟨hau b _ st e' (by intro hh; injection hh with hh _; exact e hh.symm), rfl⟩⟩
    · by_cases hn : id' < s.hp.length
      · rw [List.getElem?_append_left hn] at ho
        rw [List.getElem?_append_left (by rw [← hi.hl]; exact hn)] at hb'
        exact (hi.hp id' o b' ho hb').mono (CM.le_refl _) hB (fun e => ⟨hau _ _ _ e (by simp), rfl⟩) (fun j' b st e' => ⟨hau b _ st e' (by simp), rfl⟩)
      · have hn1 : id' = s.hp.length := by
          have := (List.getElem?_eq_some_iff.1 ho).1; simp at this; omega
        subst hn1
        rw [List.getElem?_append_right (by simp)] at ho
        simp at ho
        subst ho
        rw [hlast] at hb'; injection hb' with hb'; subst hb'
        intro _
        refine ⟨if_pos rfl, c1, el1, k2, by rw [k3, List.length_append, k4], fun i x hx => ?_⟩
        obtain ⟨g1, g2, g3⟩ := k5 i x hx
        refine ⟨g1, fun j d hd => ?_⟩
        obtain ⟨v, r1, r2, r3⟩ := g3 j d hd
        exact ⟨v, r1, r2, r3.mono fun _ _ _ _ e => by cases e⟩
    · obtain ⟨rs, g1, g2, g3⟩ := hi.df
      refine ⟨rs, g1, g2, fun r hr => ?_⟩
      obtain ⟨x, y, z⟩ := g3 r hr
      refine ⟨x, ?_, z⟩
      rw [if_neg]; exact y
      rintro rfl
      rw [k1] at y; cases y

/-- **An array that a variable alone names is held by it.** What lies behind it in the memory is forgotten. -/
theorem St.le_foldCell {s : St} {id j m z len cap : Nat} {cs : List V} {ys : List D} {tm : List V} (h1 : s.hp[id]? = some (.var cs)) (h2 : cs[j]? = some (.ref m z 0 len cap)) (h3 : s.hp[m]? = some (.arr z ys)) (hid : id < m) (hc : ys.length = cap) (hl : len ≤ cap)
    (hpl : ∀ y ∈ ys, y.plain = true) (ht : LeTm s.tm tm) (hlt : V.ltL m tm = true) (hlo : ltObjs m ((s.hp.set id (.var (cs.set j (.hold z (ys.take len))))).take m) = true) (hnb : s.nb ≤ m) :
    s.le ⟨tm, (s.hp.set id (.var (cs.set j (.hold z (ys.take len))))).take m, s.nb⟩ := by
  intro κ a w hr
  have hm : m < s.hp.length := (List.getElem?_eq_some_iff.1 h3).1
  -- first the array's holder is turned, then what is behind it is cut off
  suffices hs : Rel κ ⟨s.tm, s.hp.set id (.var (cs.set j (.hold z (ys.take len)))) |>.set m .free, s.nb⟩ a w by
    have := St.le_cut (s := ⟨s.tm, s.hp.set id (.var (cs.set j (.hold z (ys.take len)))) |>.set m .free, s.nb⟩) (tm := tm) m ht hlt (by
      rw [List.take_set_of_le (Nat.le_refl _)]; exact hlo) hnb (by simp; omega) κ a w hs
    simpa [List.take_set_of_le (Nat.le_refl m)] using this
  obtain ⟨Φ, B, au, hi⟩ := hr
  have hidl : id < s.hp.length := by omega
  obtain ⟨b, c0, el, hb, q1, q2, q3, q4⟩ := hi.varAt h1
  obtain ⟨v, m1, m2, m3, m4⟩ := q4 j _ h2
  have hj : j < cs.length := (List.getElem?_eq_some_iff.1 h2).1
  have hmB : m < B.length := by rw [← hi.hl]; exact hm
  have hbm : B[m]? = some B[m] := List.getElem?_eq_getElem hmB
  generalize B[m] = b0 at hbm
  have harr := hi.hp m _ b0 h3 hbm
  obtain ⟨ad, rfl⟩ : ∃ ad, v = .slice ad len cap := by cases m3 <;> exact ⟨_, rfl⟩
  have hlen : (ys.take len).length = len := by simp; omega
  by_cases hy : ys = []
  · subst hy
    have hc0 : cap = 0 := by simpa using hc.symm
    subst hc0
    have hl0 : len = 0 := by omega
    subst hl0
    refine ⟨Φ, B, au, { hi with hl := by simpa using hi.hl, nb := by simpa using hi.nb, hp := fun id' o b' ho hb' => ?_ }⟩
    rw [List.getElem?_set] at ho
    split at ho
    · split at ho
      · injection ho with ho; subst ho; trivial
      · cases ho
    · rename_i hne
      rw [List.getElem?_set] at ho
      by_cases e : id = id'
      · subst e
        rw [if_pos rfl, if_pos hidl] at ho
        injection ho with ho; subst ho
        rw [hb] at hb'; injection hb' with hb'; subst hb'
        refine ⟨q1, c0, el, q2, by simpa using q3, fun k V hk => ?_⟩
        rw [List.getElem?_set] at hk
        by_cases e2 : j = k
        · subst e2
          rw [if_pos rfl, if_pos hj] at hk
          injection hk with hk; subst hk
          exact ⟨_, m1, fun _ => trivial, .hold (xs := []) (fun h => absurd rfl h) (Nat.le_refl _), _, _, rfl, Nat.le_refl _, .inl rfl⟩
        · rw [if_neg e2] at hk
          exact q4 k V hk
      · rw [if_neg e] at ho
        exact hi.hp id' o b' ho hb'
  obtain ⟨p1, c1, el1, p2, p3, p4⟩ := harr hy
  have hpos : 0 < cap := by rw [← hc]; exact List.length_pos_iff.2 hy
  have had : ad = some ⟨b0, 0, none⟩ := by
    cases m3 with
    | ref0 => omega
    | ref hb' hle hh => rw [hbm] at hb'; injection hb' with hb'; subst hb'; rw [hh hpos, Nat.zero_mul]
  subst had
  have hau : ∀ b h0 st, au b = some (h0, st) → h0 ≠ .obj m → (if b = b0 then some (Holder.cell id j, 0) else au b) = some (h0, st) := fun b h0 st e hn => by
    rw [if_neg]; exact e
    rintro rfl
    rw [p1] at e; injection e with e; injection e with e _; exact hn e.symm
  refine ⟨Φ, B, fun b => if b = b0 then some (.cell id j, 0) else au b, { hi with phia := fun lb b' o v h0 st hp ha => ?_, auw := fun b' h0 st ha => ?_, tm := fun i V v hV hv => ?_, hl := by simpa using hi.hl, nb := by simpa using hi.nb, hp := fun id' o b' ho hb' => ?_, df := ?_ }⟩
  · split at ha
    · rename_i e; subst e
      have := hi.phia _ _ _ _ _ _ hp p1
      omega
    · exact hi.phia _ _ _ _ _ _ hp ha
  · split at ha
    · rename_i e; subst e
      exact hi.auw _ _ _ p1
    · exact hi.auw _ _ _ ha
  · obtain ⟨g1, g2⟩ := hi.tm i V v hV hv
    exact ⟨g1, g2.mono fun j b st e => ⟨hau b _ st e (by simp), rfl⟩⟩
  · rw [List.getElem?_set] at ho
    split at ho
    · split at ho
      · injection ho with ho; subst ho; trivial
      · cases ho
    · rename_i hne
      rw [List.getElem?_set] at ho
      by_cases e : id = id'
      · subst e
        rw [if_pos rfl, if_pos hidl] at ho
        injection ho with ho; subst ho
        rw [hb] at hb'; injection hb' with hb'; subst hb'
        refine ⟨hau _ _ _ q1 (by intro hh; injection hh with hh; omega), c0, el, q2, by simpa using q3, fun k V hk => ?_⟩
        rw [List.getElem?_set] at hk
        by_cases e2 : j = k
        · subst e2
          rw [if_pos rfl, if_pos hj] at hk
          injection hk with hk; subst hk
          refine ⟨_, m1, fun _ => trivial, by have := RepS.hold (Φ := Φ) (B := B) (z := z) (xs := ys.take len) (a := some ⟨b0, 0, none⟩) (cap := cap) (fun _ => ⟨_, rfl⟩) (by omega); rwa [hlen] at this, ?_⟩
          refine ⟨_, cap, by rw [hlen], by omega, .inr ⟨b0, c1, el1, ys.drop len, rfl, if_pos rfl, p2, by rw [p3, hc], by simp; omega, fun i x hx => ?_⟩⟩
          rw [List.take_append_drop] at hx
          obtain ⟨g1, g2⟩ := p4 i x hx
          have hxp := hpl x (List.mem_of_getElem? hx)
          refine ⟨g1, hxp, fun k d hd => ?_⟩
          obtain ⟨v, r1, r2, r3⟩ := g2 k d hd
          refine ⟨v, r1, r2, atom_rep r3 ?_⟩
          unfold D.plain at hxp
          rw [List.all_eq_true] at hxp
          exact hxp d (List.mem_of_getElem? hd)
        · rw [if_neg e2] at hk
          obtain ⟨x, g1, g2, g3, g4⟩ := q4 k V hk
          exact ⟨x, g1, g2, g3, g4.mono fun _ b st e => ⟨hau b _ st e (by simp), rfl⟩⟩
      · rw [if_neg e] at ho
        exact (hi.hp id' o b' ho hb').mono (CM.le_refl _) (fun _ _ h => h) (fun e' => ⟨hau _ _ _ e' (by intro hh; injection hh with hh; exact hne hh.symm), rfl⟩) (fun j' b st e' => ⟨hau b _ st e' (by simp), rfl⟩)
  · obtain ⟨rs, g1, g2, g3⟩ := hi.df
    refine ⟨rs, g1, g2, fun r hr => ?_⟩
    obtain ⟨x, y, z⟩ := g3 r hr
    refine ⟨x, ?_, z⟩
    rw [if_neg]; exact y
    rintro rfl
    rw [p1] at y; cases y
end
end Go.Idl
end
section
namespace Go.Idl
set_option linter.unusedSimpArgs false
set_option linter.unusedVariables false

/-- some slots forgotten -/
def blankS (is : List Nat) (tm : List V) : List V := is.foldl (fun t i => t.set i V.un) tm
theorem LeTm.of_un : ∀ {vs us : List V}, vs.length = us.length → (∀ (i : Nat) (u : V), us[i]? = some u → u = V.un ∨ vs[i]? = some u) → LeTm vs us
  | [], [], _, _ => .nil
  | v :: vs, u :: us, hl, h => by
    have ih := LeTm.of_un (vs := vs) (us := us) (by simpa using hl) fun i u hu => by
      have := h (i + 1) u (by simpa using hu); simpa using this
    rcases h 0 u rfl with rfl | e
    · exact .un ih
    · simp at e; subst e; exact .same ih
  | [], _ :: _, hl, _ => by simp at hl
  | _ :: _, [], hl, _ => by simp at hl
theorem blankS_len : ∀ (is : List Nat) (tm : List V), (blankS is tm).length = tm.length
  | [], _ => rfl
  | i :: is, tm => by
    show (blankS is (tm.set i .un)).length = _
    rw [blankS_len is]; simp
theorem blankS_get : ∀ (is : List Nat) (tm : List V) (i : Nat) (u : V), (blankS is tm)[i]? = some u → u = .un ∨ tm[i]? = some u
  | [], _, _, _, h => .inr h
  | k :: is, tm, i, u, h => by
    rcases blankS_get is (tm.set k .un) i u h with e | e
    · exact .inl e
    · rw [List.getElem?_set] at e
      split at e
      · split at e
        · injection e with e; exact .inl e.symm
        · cases e
      · exact .inr e
theorem blankS_le (is : List Nat) (tm : List V) : LeTm tm (blankS is tm) := LeTm.of_un (blankS_len is tm).symm (blankS_get is tm)
/-- an array that a variable alone names is held by it; some slots are forgotten -/
theorem St.le_fold {s : St} (is : List Nat) (id j m : Nat) {z len cap : Nat} {cs : List V} {ys : List D} (h1 : s.hp[id]? = some (.var cs)) (h2 : cs[j]? = some (.ref m z 0 len cap)) (h3 : s.hp[m]? = some (.arr z ys)) (hid : id < m) (hc : ys.length = cap) (hl : len ≤ cap)
    (hpl : ∀ y ∈ ys, y.plain = true) (hlt : V.ltL m (blankS is s.tm) = true) (hlo : ltObjs m ((s.hp.set id (.var (cs.set j (.hold z (ys.take len))))).take m) = true) (hnb : s.nb ≤ m) :
    s.le ⟨blankS is s.tm, (s.hp.set id (.var (cs.set j (.hold z (ys.take len))))).take m, s.nb⟩ := St.le_foldCell h1 h2 h3 hid hc hl hpl (blankS_le is s.tm) hlt hlo hnb
/-- a variable that is nil holds nothing -/
theorem St.le_nilHold {s : St} {id j z : Nat} {cs : List V} (h1 : s.hp[id]? = some (.var cs)) (h2 : cs[j]? = some (.nil z)) : s.le ⟨s.tm, s.hp.set id (.var (cs.set j (.hold z []))), s.nb⟩ := by
  rintro κ a w ⟨Φ, B, au, hi⟩
  have hid : id < s.hp.length := (List.getElem?_eq_some_iff.1 h1).1
  have hj : j < cs.length := (List.getElem?_eq_some_iff.1 h2).1
  refine ⟨Φ, B, au, { hi with hl := by simpa using hi.hl, nb := by simpa using hi.nb, hp := fun id' o b' ho hb' => ?_ }⟩
  rw [List.getElem?_set] at ho
  by_cases e : id = id'
  · subst e
    rw [if_pos rfl, if_pos hid] at ho
    injection ho with ho; subst ho
    obtain ⟨q1, c0, el, q2, q3, q4⟩ := hi.hp id _ b' h1 hb'
    refine ⟨q1, c0, el, q2, by simpa using q3, fun k V hk => ?_⟩
    rw [List.getElem?_set] at hk
    by_cases e2 : j = k
    · subst e2
      rw [if_pos rfl, if_pos hj] at hk
      injection hk with hk; subst hk
      obtain ⟨v, m1, m2, m3, _⟩ := q4 j _ h2
      obtain ⟨g1, g2⟩ := NilLe.rep (au := au) (w := w) (hd := fun _ => .cell id j) NilLe.hold m3
      exact ⟨v, m1, fun _ => m2 rfl, g1, g2⟩
    · rw [if_neg e2] at hk
      exact q4 k V hk
  · rw [if_neg e] at ho
    exact hi.hp id' o b' ho hb'
/-- of a memory that is all new, one array is kept, and the slot that names it -/
theorem St.le_pick {s : St} (d m : Nat) {z off len cap : Nat} {xs : List D} (h1 : s.hp[m]? = some (.arr z xs)) (h2 : s.tm[d]? = some (.ref m z off len cap)) (hn : s.nb = 0) :
    s.le ⟨(List.replicate s.tm.length .un).set d (.ref 0 z off len cap), [.arr z xs], 0⟩ := by
  rintro κ a w ⟨Φ, B, au, hi⟩
  have hm : m < s.hp.length := (List.getElem?_eq_some_iff.1 h1).1
  have hd : d < s.tm.length := (List.getElem?_eq_some_iff.1 h2).1
  have hmB : m < B.length := by rw [← hi.hl]; exact hm
  have hbm : B[m]? = some B[m] := List.getElem?_eq_getElem hmB
  generalize B[m] = b0 at hbm
  have harr := hi.hp m _ b0 h1 hbm
  have hκ : κ.B = [] := List.length_eq_zero_iff.1 (by have := hi.nb.1; omega)
  refine ⟨Φ, [b0], fun b => if b = b0 then (au b).map (fun p => (.obj 0, p.2)) else none, { hi with phia := fun lb b' o v h0 st hp ha => ?_, auw := fun b' h0 st ha => ?_, pre := by rw [hκ]; exact List.nil_prefix, tl := by simpa using hi.tl, tm := fun i V v hV hv => ?_, hl := rfl, nb := ⟨by rw [hκ]; exact Nat.le_refl _, Nat.zero_le _⟩, hp := fun id' o b' ho hb' => ?_, df := ?_ }⟩
  · split at ha
    · rename_i e; subst e
      simp only [Option.map_eq_some_iff] at ha
      obtain ⟨⟨h', st'⟩, e1, e2⟩ := ha
      injection e2 with e2 e3; subst e3
      exact hi.phia _ _ _ _ _ _ hp e1
    · cases ha
  · split at ha
    · rename_i e; subst e
      simp only [Option.map_eq_some_iff] at ha
      obtain ⟨⟨h', st'⟩, e1, e2⟩ := ha
      exact hi.auw _ _ _ e1
    · cases ha
  · simp only at hV
    rw [List.getElem?_set] at hV
    split at hV
    · rename_i e; subst e
      split at hV
      · injection hV with hV; subst hV
        have hr := (hi.tm d _ v h2 hv).1
        refine ⟨?_, trivial⟩
        cases hr with
        | ref0 => exact .ref0
        | ref hb' hle hh => rw [hbm] at hb'; injection hb' with hb'; subst hb'; exact .ref rfl hle hh
      · cases hV
    · have : V = .un := by
        rw [List.getElem?_replicate] at hV
        split at hV
        · injection hV with hV; exact hV.symm
        · cases hV
      subst this
      exact ⟨.un _, trivial⟩
  · cases id' with
    | succ k => simp at ho
    | zero =>
      simp at ho hb'; subst ho; subst hb'
      intro hne
      obtain ⟨p1, c1, el1, p2, p3, p4⟩ := harr hne
      exact ⟨by simp [p1], c1, el1, p2, p3, p4⟩
  · obtain ⟨rs, g1, g2, g3⟩ := hi.df
    refine ⟨rs, g1, g2, fun r hr => ?_⟩
    obtain ⟨x, y, z⟩ := g3 r hr
    refine ⟨x, ?_, z⟩
    split
    · simp [y]
    · rfl
/-- of what is new in a memory, one array is kept, that the one slot names -/
theorem St.le_keep {m z off len cap n : Nat} {xs : List D} {hp' A : List IObj} {nb : Nat} (hA : hp'.take n = A) (hn : A.length = n) (hlt : ltObjs n A = true) (hm : n ≤ m) (h1 : hp'[m]? = some (.arr z xs)) (hnb : nb ≤ n) :
    (⟨[.ref m z off len cap], hp', nb⟩ : St).le ⟨[.ref n z off len cap], A ++ [.arr z xs], nb⟩ := by
  rintro κ a w ⟨Φ, B, au, hi⟩
  have hml : m < hp'.length := (List.getElem?_eq_some_iff.1 h1).1
  have hBl : hp'.length = B.length := hi.hl
  have hbm : B[m]? = some B[m] := List.getElem?_eq_getElem (by omega)
  generalize B[m] = b0 at hbm
  have harr := hi.hp m _ b0 h1 hbm
  have htl : (B.take n).length = n := by simp; omega
  have hB : ∀ (i b : Nat), (B.take n)[i]? = some b → (B.take n ++ [b0])[i]? = some b := fun i b e => by
    rw [List.getElem?_append_left (List.getElem?_eq_some_iff.1 e).1]; exact e
  have hlast : (B.take n ++ [b0])[n]? = some b0 := by
    rw [List.getElem?_append_right (by omega)]; simp [htl]
  have hpre : κ.B <+: B.take n ++ [b0] := by
    obtain ⟨t, e⟩ := hi.pre
    have hle : κ.B.length ≤ n := Nat.le_trans hi.nb.1 hnb
    refine ⟨t.take (n - κ.B.length) ++ [b0], ?_⟩
    rw [← List.append_assoc, ← e, List.take_append, List.take_of_length_le hle]
  -- whose blocks are
  obtain ⟨au', ha1, ha2, ha3, ha4⟩ : ∃ au' : Auth, (∀ b h0 st, au' b = some (h0, st) → ∃ h1 st1, au b = some (h1, st1) ∧ (b = b0 → st1 = 0 → st = 0) ∧ (b ≠ b0 ∨ xs = [] → h1 = h0 ∧ st1 = st)) ∧ (∀ b h0 st, au b = some (h0, st) → h0 ≠ .obj m → au' b = some (h0, st)) ∧ (xs ≠ [] → au' b0 = some (.obj n, 0)) ∧ (∀ b, au b = none → au' b = none) := by
    by_cases hx : xs = []
    · exact ⟨au, fun b h0 st e => ⟨h0, st, e, fun _ h => h, fun _ => ⟨rfl, rfl⟩⟩, fun b h0 st e _ => e, fun h => absurd hx h, fun b e => e⟩
    · have h2 := (harr hx).1
      refine ⟨fun b => if b = b0 then some (.obj n, 0) else au b, fun b h0 st e => ?_, fun b h0 st e hne => ?_, fun _ => if_pos rfl, fun b e => ?_⟩
      · simp only at e
        split at e
        · rename_i e'; subst e'
          injection e with e; injection e with _ e; subst e
          exact ⟨_, _, h2, fun _ _ => rfl, fun h => h.elim (fun h => absurd rfl h) fun h => absurd h hx⟩
        · exact ⟨h0, st, e, fun _ h => h, fun _ => ⟨rfl, rfl⟩⟩
      · show (if b = b0 then some (Holder.obj n, 0) else au b) = _
        rw [if_neg]; exact e
        rintro rfl
        rw [h2] at e; injection e with e; injection e with e _; exact hne e.symm
      · show (if b = b0 then some (Holder.obj n, 0) else au b) = _
        rw [if_neg]; exact e
        rintro rfl
        rw [h2] at e; cases e
  refine ⟨Φ, B.take n ++ [b0], au', { hi with phia := fun lb b' o v h0 st hp ha => ?_, auw := fun b' h0 st ha => ?_, pre := hpre, tl := hi.tl, tm := fun i V v hV hv => ?_, hl := by simp [hn]; omega, nb := ⟨hi.nb.1, by simp [hn]; omega⟩, hp := fun id' o b' ho hb' => ?_, df := ?_ }⟩
  · obtain ⟨g1, g2, e1, e2, e3⟩ := ha1 _ _ _ ha
    have hlt2 := hi.phia _ _ _ _ _ _ hp e1
    by_cases hb0 : b' = b0
    · by_cases hx : xs = []
      · rw [← (e3 (.inr hx)).2]; exact hlt2
      · subst hb0
        have h2 := (harr hx).1
        rw [h2] at e1; injection e1 with e1; injection e1 with _ e1; subst e1
        omega
    · rw [← (e3 (.inl hb0)).2]; exact hlt2
  · obtain ⟨g1, g2, e1, e2, e3⟩ := ha1 _ _ _ ha
    exact hi.auw _ _ _ e1
  · cases i with
    | succ i => simp at hV
    | zero =>
      simp at hV; subst hV
      have hr := (hi.tm 0 _ v rfl hv).1
      refine ⟨?_, trivial⟩
      cases hr with
      | ref0 => exact .ref0
      | ref hb' hle hh => rw [hbm] at hb'; injection hb' with hb'; subst hb'; exact .ref hlast hle hh
  · by_cases hid : id' < n
    · rw [List.getElem?_append_left (by omega)] at ho
      rw [List.getElem?_append_left (by omega)] at hb'
      have ho' : hp'[id']? = some o := by
        rw [← hA, List.getElem?_take_of_lt hid] at ho; exact ho
      have hb2 : B[id']? = some b' := by
        rw [List.getElem?_take_of_lt hid] at hb'; exact hb'
      exact ((hi.hp id' o b' ho' hb2).lt (ltObjs_get hlt id' o ho)).mono (CM.le_refl _) hB (fun e => ⟨ha2 _ _ _ e (by intro hh; injection hh with hh; omega), rfl⟩) (fun j b st e => ⟨ha2 _ _ _ e (by simp), rfl⟩)
    · have hn1 : id' = n := by
        have := (List.getElem?_eq_some_iff.1 ho).1; simp [hn] at this; omega
      subst hn1
      rw [List.getElem?_append_right (by omega)] at ho
      simp [hn] at ho
      subst ho
      rw [hlast] at hb'; injection hb' with hb'; subst hb'
      intro hx
      obtain ⟨p1, c1, el1, p2, p3, p4⟩ := harr hx
      exact ⟨ha3 hx, c1, el1, p2, p3, p4⟩
  · obtain ⟨rs, g1, g2, g3⟩ := hi.df
    refine ⟨rs, g1, g2, fun r hr => ?_⟩
    obtain ⟨x, y, z⟩ := g3 r hr
    exact ⟨x, ha4 _ y, z⟩
/-- **A call that answers an array that is new**: the rest of what is new is forgotten. -/
theorem callK_keep {P : Program} {f : FuncId} {args : List V} {hp : List IObj} {K : V → List IObj → Prop} (hlt : ltObjs hp.length hp = true)
    (h : CallK P f args hp fun r hp' => ∃ m z off len cap xs, r = .ref m z off len cap ∧ hp.length ≤ m ∧ hp'[m]? = some (.arr z xs) ∧ hp'.take hp.length = hp ∧ K (.ref hp.length z off len cap) (hp ++ [.arr z xs])) : CallK P f args hp K := by
  intro Φ B au w cargs hi
  refine (h Φ B au w cargs hi).mono ?_
  rintro e w' ⟨v, r, hp', rfl, ⟨m, z, off, len, cap, xs, rfl, h1, h2, h3, h4⟩, hrel⟩
  exact ⟨v, _, _, rfl, h4, St.le_keep h3 rfl hlt h1 h2 (Nat.le_refl _) _ _ _ hrel⟩
end Go.Idl
end
section
namespace Go.Idl
open Go.Proofs
set_option linter.unusedSimpArgs false
set_option linter.unusedVariables false
set_option maxRecDepth 8000
set_option maxHeartbeats 2000000
variable (b : Bool)

theorem I_plain {l : List Int} : ∀ y ∈ l.map I, y.plain = true := fun y hy => by
  obtain ⟨v, _, rfl⟩ := List.mem_map.1 hy
  rfl
theorem appendSeq_hold (l : List Q) (id : Int) (hl : l.length ≤ 64) (hr : Rises l) {K : V → List IObj → Prop} (hk : ∀ hp', K (.hold 1 ((down l id).map I)) hp') : CallK Try.prog 128 [.nil 1, .fn (.func 129) [.ptr 0 0, .ptr 1 0]] [.var [.d (encL b l)], .var [.d (I id)]] K := by
  have hdl := down_len l id
  refine callS (fn := Try.f128) [] [(1, 2000000), (3, 2000000)] mixed (bodyOf Try.f128) [.tmp 4] Try.func128 rfl rfl (by decide) 11 rfl (by kernel_rfl) ?_
  simp -implicitDefEqProofs [↓gd_tt, ↓gd_ff, ↓gd_tf, ↓gd_ft, bodyOf, Try.f128, stripC, stripL, stripM, onsOf, upto, hintOf, freeOf, List.replicate]
  refine SemC.pre (St.le_nilHold (id := 2) (j := 0) rfl rfl) ?_
  refine regionRf [] ?_
  simp -implicitDefEqProofs [↓gd_tt, ↓gd_ff, ↓gd_tf, ↓gd_ft, stripL, onsOf, hintOf]
  refine ⟨_, St.le_refl _, ?_⟩
  simp -implicitDefEqProofs [↓gd_tt, ↓gd_ff, ↓gd_tf, ↓gd_ft]
  refine rangeYl mixed (down_yields b l id 0 1 (max64 hl) hr) (by simp) (by simp) (by simp) (by simp) (by simp) (by intro y hy; obtain ⟨p, _, rfl⟩ := List.mem_map.1 hy; simp [yI]) (fun k hp => hp = [.var [.d (encL b l)], .var [.d (I id)], .var [.hold 1 (((down l id).take k).map I)]] ∧ k ≤ (down l id).length) ⟨by simp, Nat.zero_le _⟩ (by rintro k hp ⟨rfl, _⟩; simp [ltObjs, IObj.lt, V.ltL, V.lt]) ?_ ?_
  · rintro k hp ⟨rfl, hk⟩ hi L0 L1 hL1
    have hA : L1.lt 4 = true := IObj.lt_mono (by simp) hL1
    have hB : L1.lt 5 = true := IObj.lt_mono (by simp) hL1
    have hk' : k < (down l id).length := by simpa using hi
    have hst : ((down l id).take (k + 1)).map I = ((down l id).take k).map I ++ [I (down l id)[k]] := by rw [List.take_add_one, List.getElem?_eq_getElem hk', Option.toList_some, List.map_append]; rfl
    have hYl : ((down l id).take k).length ≤ 64 := by simp; omega
    rw [hst]
    simp only [List.getElem_map, yI]
    generalize (down l id)[k] = p at *
    generalize (down l id).take k = Y at *
    have bY : (Y.length + 1) * 8 ≤ 140737488355328 := by omega
    simp -implicitDefEqProofs [↓gd_tt, ↓gd_ff, ↓gd_tf, ↓gd_ft]
    refine SemC.thawCell (id := 2) (j := 0) rfl rfl fun cap rest hcr hrest => ?_
    refine regionRf [] ?_
    simp -implicitDefEqProofs [↓gd_tt, ↓gd_ff, ↓gd_tf, ↓gd_ft, stripL, onsOf, hintOf]
    have hcr2 : Y.length + rest.length = cap := by simpa using hcr
    have htk : ∀ Z : List D, List.take (Y.length + 1) (List.map I Y ++ I p :: Z) = List.map I Y ++ [I p] := fun Z => by
      rw [show List.map I Y ++ I p :: Z = (List.map I Y ++ [I p]) ++ Z by simp]
      exact List.take_left' (by simp)
    refine ⟨by omega, by omega, by omega, fun hfit => ⟨_, St.le_fold [8, 11] 2 0 4 (z := 1) rfl rfl rfl (by decide) (by simp; omega) (by omega) ?_ ?_ ?_ (by show 4 ≤ 4; decide), ?_⟩, fun hgrow cap' hc' => ⟨_, St.le_fold [8, 11] 2 0 5 (z := 1) rfl rfl rfl (by decide) (by simp; omega) (by omega) ?_ ?_ ?_ (by show 4 ≤ 5; decide), ?_⟩⟩
    · intro y hy
      rcases List.mem_append.1 hy with hy | hy
      · exact I_plain y hy
      · rcases List.mem_cons.1 hy with rfl | hy
        · rfl
        · rcases List.mem_append.1 (List.mem_of_mem_drop hy) with hy | hy
          · exact I_plain y hy
          · exact hrest y hy
    · simp [blankS, V.ltL, V.lt]
    · simp [ltObjs, IObj.lt, V.ltL, V.lt]
      exact hA
    · simp -implicitDefEqProofs [↓gd_tt, ↓gd_ff, ↓gd_tf, ↓gd_ft, htk, blankS]
      exact hk'
    · intro y hy
      rcases List.mem_append.1 hy with hy | hy
      · exact I_plain y hy
      · rcases List.mem_cons.1 hy with rfl | hy
        · rfl
        · rw [(List.mem_replicate.1 hy).2]; rfl
    · simp [blankS, V.ltL, V.lt]
    · simp [ltObjs, IObj.lt, V.ltL, V.lt]
      exact hB
    · simp -implicitDefEqProofs [↓gd_tt, ↓gd_ff, ↓gd_tf, ↓gd_ft, htk, blankS]
      exact hk'
  · rintro hp ⟨rfl, hk2⟩
    rw [List.take_of_length_le (by simp)]
    simp -implicitDefEqProofs [↓gd_tt, ↓gd_ff, ↓gd_tf, ↓gd_ft]
    exact hk _
theorem collect_hold (l : List Q) (id : Int) (hl : l.length ≤ 64) (hr : Rises l) {K : V → List IObj → Prop} (hk : ∀ hp', K (.hold 1 ((down l id).map I)) hp') : CallK Try.prog 70 [.fn (.func 129) [.ptr 0 0, .ptr 1 0]] [.var [.d (encL b l)], .var [.d (I id)]] K := by
  refine callS (fn := Try.f70) [] [] mixed (bodyOf Try.f70) [.tmp 2] Try.func70 rfl rfl (by decide) 4 rfl (by kernel_rfl) ?_
  simp -implicitDefEqProofs [↓gd_tt, ↓gd_ff, ↓gd_tf, ↓gd_ft, bodyOf, Try.f70, stripC, stripL, stripM, onsOf, upto, hintOf, freeOf, List.replicate]
  refine appendSeq_hold b l id hl hr fun hp' => ?_
  simp -implicitDefEqProofs [↓gd_tt, ↓gd_ff, ↓gd_tf, ↓gd_ft]
  exact hk _
/-- what Below answers, its list held -/
def belowH (l : List Q) (id : Int) : V := if there l id = 0 then .tup [.hold 1 ((below l id).map I), .d (I 0)] else .tup [.nil 1, .d (I (there l id))]
theorem qbelow_hold (l : List Q) (id : Int) (hl : l.length ≤ maxLen) : PCall Try.prog 20 [encL b l, I id] (belowH l id) := by
  unfold PCall
  simp only [List.map_cons, List.map_nil]
  refine callS (fn := Try.f20) [] [] mixed (bodyOf Try.f20) [.tmp 4, .tmp 5] Try.func20 rfl rfl (by decide) 15 rfl (by kernel_rfl) ?_
  simp -implicitDefEqProofs [↓gd_tt, ↓gd_ff, ↓gd_tf, ↓gd_ft, bodyOf, Try.f20, stripC, stripL, stripM, onsOf, upto, hintOf, freeOf, List.replicate]
  refine callK_pcall (qthere_spec b l id hl) rfl rfl ?_
  simp -implicitDefEqProofs [↓gd_tt, ↓gd_ff, ↓gd_tf, ↓gd_ft]
  refine ⟨fun h => by simp [belowH, h], fun h => ?_⟩
  obtain ⟨hc, hh⟩ := there_zero.1 h
  have hv : belowH l id = .tup [.hold 1 ((down l id).map I), .d (I 0)] := by simp [belowH, h, down_below (check_form hc)]
  rw [hv]
  refine down_spec b l id _ _ ?_
  simp -implicitDefEqProofs [↓gd_tt, ↓gd_ff, ↓gd_tf, ↓gd_ft]
  refine collect_hold b l id (check_len hc).2 (check_rises hc) fun hp' => ?_
  simp -implicitDefEqProofs [↓gd_tt, ↓gd_ff, ↓gd_tf, ↓gd_ft]
theorem permI1 (m : List Int) (e : Int) : V.permP (.tup [.d (encI false m), .d (I e)]) := by
  intro v hv
  rcases List.mem_cons.1 hv with rfl | hv
  · exact ⟨rfl, permL_map fun x _ => trivial⟩
  · simp at hv; subst hv; exact trivial
theorem permN1 (e : Int) : V.permP (.tup [.nil 1, .d (I e)]) := by
  intro v hv
  rcases List.mem_cons.1 hv with rfl | hv
  · trivial
  · simp at hv; subst hv; exact trivial
theorem belowH_ok (l : List Q) (id : Int) : (belowH l id).data = true ∧ (belowH l id).permP := by
  unfold belowH
  split
  · refine ⟨rfl, ?_⟩
    intro v hv
    rcases List.mem_cons.1 hv with rfl | hv
    · trivial
    · simp at hv; subst hv; exact trivial
  · exact ⟨rfl, permN1 _⟩
theorem belowV_ok (l : List Q) (id : Int) : (belowV l id).data = true ∧ (belowV l id).permP := by
  unfold belowV
  split
  · exact ⟨rfl, permI1 _ _⟩
  · exact ⟨rfl, permN1 _⟩
theorem twin_keep (l : List Q) (hl : (l.length + 1) * 56 ≤ 140737488355328) {hp : List IObj} (hlt : ltObjs hp.length hp = true) {K : V → List IObj → Prop} (hk : ∀ cap xs, l.length + 1 ≤ cap → cap ≤ l.length + 1 + xs.length → K (.ref hp.length 7 0 l.length cap) (hp ++ [.arr 7 (l.map encQ ++ encQ ⟨71, 0, 0, 0, 0, 0, 0⟩ :: xs)])) : CallK Try.prog 18 [.d (encL b l)] hp K :=
  callK_keep hlt (twin_mem b l hl fun id cap hp' xs k0 k1 k2 k3 k4 => ⟨id, 7, 0, l.length, cap, _, rfl, k0, k1, k4, hk cap xs k2 k3⟩)
theorem apart_spec (l : List Q) (q : Q) (id : Int) (hl : l.length ≤ maxLen) (hr : l.length * 56 ≤ reachBytes) : PCall Try.prog 5 [encL false l, encQ q, I id] (.d (.bool true)) := by
  have hl2 : (l.length + 1) * 56 ≤ 140737488355328 := by
    have : reachBytes = 140737488351232 := rfl
    omega
  refine pcallS (fn := Try.f5) [] [(13, 2000000)] mixed (bodyOf Try.f5) [.tmp 6] Try.func5 rfl rfl (by decide) 119 rfl (by kernel_rfl) ?_
  simp -implicitDefEqProofs [↓gd_tt, ↓gd_ff, ↓gd_tf, ↓gd_ft, bodyOf, Try.f5, stripC, stripL, stripM, onsOf, upto, hintOf, freeOf, List.replicate]
  refine callK_pcall awake_spec rfl rfl ?_
  simp -implicitDefEqProofs [↓gd_tt, ↓gd_ff, ↓gd_tf, ↓gd_ft]
  refine twin_keep false l hl2 (by simp) fun cap xs k2 k3 => ?_
  have hlen : l.length ≤ cap := by omega
  have hlen2 : cap ≤ l.length + (xs.length + 1) := by omega
  have hbl : there l id = 0 → (below l id).length ≤ maxLen := fun h => by
    rw [← down_below (check_form (there_zero.1 h).1)]
    exact Nat.le_trans (down_len l id) hl
  have hxx : ∀ d : D, lendL [.var [.d (I q.Id), .d (I q.Par), .d (I q.Wt), .d (I q.QC), .d (I q.QM), .d (I q.MC), .d (I q.MM)], .arr 7 (l.map encQ ++ encQ ⟨71, 0, 0, 0, 0, 0, 0⟩ :: xs)] [.ref 1 7 0 l.length cap, .d d] = some [encL true l, d] := fun d => by
    have : List.take l.length (l.map encQ ++ encQ ⟨71, 0, 0, 0, 0, 0, 0⟩ :: xs) = l.map encQ := List.take_left' (by simp)
    simp [hlen, hlen2]
  simp -implicitDefEqProofs [↓gd_tt, ↓gd_ff, ↓gd_tf, ↓gd_ft]
  refine callK_lend (qadd_spec true l q hl) (hxx _) (addP_ok l q).1 (addP_ok l q).2 ?_
  rcases addP_res l q with ⟨ra, la, ea⟩ | ⟨ra, ea⟩
  all_goals
    rw [ea]
    simp -implicitDefEqProofs [↓gd_tt, ↓gd_ff, ↓gd_tf, ↓gd_ft]
    refine callK_lend (qbelow_hold true l id hl) (hxx _) (belowH_ok l id).1 (belowH_ok l id).2 ?_
    by_cases hth : there l id = 0
  case neg =>
    rw [show belowH l id = (.tup [.nil 1, .d (I (there l id))]) by simp [belowH, hth]]
    simp -implicitDefEqProofs [↓gd_tt, ↓gd_ff, ↓gd_tf, ↓gd_ft]
    refine callK_lend (qbelow_spec true l id hl) (hxx _) (belowV_ok l id).1 (belowV_ok l id).2 ?_
    rw [show belowV l id = (.tup [.nil 1, .d (I (there l id))]) by simp [belowV, hth]]
    simp -implicitDefEqProofs [↓gd_tt, ↓gd_ff, ↓gd_tf, ↓gd_ft]
    refine callK_lend (qset_spec true l q hl) (hxx _) (setP_ok l q).1 (setP_ok l q).2 ?_
    rcases setP_res l q with ⟨rb, lb, eb⟩ | ⟨rb, eb⟩
    all_goals
      rw [eb]
      simp -implicitDefEqProofs [↓gd_tt, ↓gd_ff, ↓gd_tf, ↓gd_ft]
      refine loopA mixed [false, false, false, false, false, false, false, false, false, false, false, false, false, false, false, false, true, false, false, false, false, false, false, false, false, false, false, false, false, false, false, false, false, false, false, false, false, false, false, false, false, false, false, false, false, false, false, false, false, false, false, false, false, false, true, true, true, true, true, true, true, true] (fun (x : Nat × List D) => [(54, .d (I x.1))]) (fun (x : Nat × List D) => [.var [.d (I q.Id), .d (I q.Par), .d (I q.Wt), .d (I q.QC), .d (I q.QM), .d (I q.MC), .d (I q.MM)], .arr 7 x.2]) (fun (x : Nat × List D) => x.1 ≤ l.length ∧ x.2.length = l.length + 1 + xs.length) (fun (x : Nat × List D) => l.length - x.1) ((0, l.map encQ ++ encQ ⟨71, 0, 0, 0, 0, 0, 0⟩ :: xs)) (⟨Nat.zero_le _, by simp; omega⟩) (by simp) ?_
      rintro x hx
      obtain ⟨i, ys⟩ := x
      obtain ⟨hi, hy⟩ := hx
      simp only at hi hy ⊢
      rcases Nat.lt_or_eq_of_le hi with hi | hi
      · have hwi := wrap1 hl hi
        have hiy : i < ys.length := by omega
        have hcy : cap ≤ ys.length := by omega
        simp -implicitDefEqProofs [↓gd_tt, ↓gd_ff, ↓gd_tf, ↓gd_ft, hi, hlen, hcy, hwi, List.getElem?_eq_getElem hiy]
        exact ⟨i + 1, _, ⟨by omega, by simp [hy]⟩, by omega, rfl, rfl⟩
      simp -implicitDefEqProofs [↓gd_tt, ↓gd_ff, ↓gd_tf, ↓gd_ft, hi]
      clear hi
      refine regionRf [] ?_
      simp -implicitDefEqProofs [↓gd_tt, ↓gd_ff, ↓gd_tf, ↓gd_ft, stripL, onsOf, hintOf]
      refine ⟨_, St.le_refl _, ?_⟩
      simp -implicitDefEqProofs [↓gd_tt, ↓gd_ff, ↓gd_tf, ↓gd_ft]
      refine loopA mixed [false, false, false, false, false, false, false, false, false, false, false, false, false, false, false, false, false, true, false, false, false, false, false, false, false, false, false, false, false, false, false, false, false, false, false, false, false, false, false, false, false, false, false, false, false, false, false, false, false, false, false, false, false, false, false, false, false, false, false, false, false, false, false, false, true, true, true, true, true, true, true] (fun (x : Nat) => [(64, .d (I x))]) (fun (x : Nat) => [.var [.d (I q.Id), .d (I q.Par), .d (I q.Wt), .d (I q.QC), .d (I q.QM), .d (I q.MC), .d (I q.MM)], .arr 7 ys]) (fun (x : Nat) => x = 0) (fun (x : Nat) => 0 - x) (0) (rfl) (by simp) ?_
      rintro x hx
      subst hx
      simp -implicitDefEqProofs [↓gd_tt, ↓gd_ff, ↓gd_tf, ↓gd_ft]
      refine callK_pcall (refAdd_spec false l q hl hr) rfl (addP_ok l q).1 ?_
      rw [show addV l q = addP l q from rfl, ea]
      simp -implicitDefEqProofs [↓gd_tt, ↓gd_ff, ↓gd_tf, ↓gd_ft]
      refine callK_pcall (refBelow_spec false l id hl) rfl (belowV_ok l id).1 ?_
      rw [show belowV l id = (.tup [.nil 1, .d (I (there l id))]) by simp [belowV, hth]]
      simp -implicitDefEqProofs [↓gd_tt, ↓gd_ff, ↓gd_tf, ↓gd_ft]
      refine callK_pcall (rset_spec false l q hl hr) rfl (setP_ok l q).1 ?_
      rw [show setV l q = setP l q from rfl, eb]
      simp -implicitDefEqProofs [↓gd_tt, ↓gd_ff, ↓gd_tf, ↓gd_ft]
      first | refine callK_pcall (same_spec false false ra ra la) rfl rfl ?_ | refine callK_pcall (same_spec false false [] [] (Nat.zero_le _)) rfl rfl ?_
      simp -implicitDefEqProofs [↓gd_tt, ↓gd_ff, ↓gd_tf, ↓gd_ft]
      first | refine callK_pcall (ints_spec false false (below l id) (below l id) (hbl hth)) rfl rfl ?_ | refine callK_pcall (ints_spec false false [] [] (Nat.zero_le _)) rfl rfl ?_
      simp -implicitDefEqProofs [↓gd_tt, ↓gd_ff, ↓gd_tf, ↓gd_ft]
      first | refine callK_pcall (same_spec false false rb rb lb) rfl rfl ?_ | refine callK_pcall (same_spec false false [] [] (Nat.zero_le _)) rfl rfl ?_
      simp -implicitDefEqProofs [↓gd_tt, ↓gd_ff, ↓gd_tf, ↓gd_ft]
  case neg =>
    rw [show belowH l id = (.tup [.nil 1, .d (I (there l id))]) by simp [belowH, hth]]
    simp -implicitDefEqProofs [↓gd_tt, ↓gd_ff, ↓gd_tf, ↓gd_ft]
    refine callK_lend (qbelow_spec true l id hl) (hxx _) (belowV_ok l id).1 (belowV_ok l id).2 ?_
    rw [show belowV l id = (.tup [.nil 1, .d (I (there l id))]) by simp [belowV, hth]]
    simp -implicitDefEqProofs [↓gd_tt, ↓gd_ff, ↓gd_tf, ↓gd_ft]
    refine callK_lend (qset_spec true l q hl) (hxx _) (setP_ok l q).1 (setP_ok l q).2 ?_
    rcases setP_res l q with ⟨rb, lb, eb⟩ | ⟨rb, eb⟩
    all_goals
      rw [eb]
      simp -implicitDefEqProofs [↓gd_tt, ↓gd_ff, ↓gd_tf, ↓gd_ft]
      refine loopA mixed [false, false, false, false, false, false, false, false, false, false, false, false, false, false, false, false, true, false, false, false, false, false, false, false, false, false, false, false, false, false, false, false, false, false, false, false, false, false, false, false, false, false, false, false, false, false, false, false, false, false, false, false, false, false, true, true, true, true, true, true, true, true] (fun (x : Nat × List D) => [(54, .d (I x.1))]) (fun (x : Nat × List D) => [.var [.d (I q.Id), .d (I q.Par), .d (I q.Wt), .d (I q.QC), .d (I q.QM), .d (I q.MC), .d (I q.MM)], .arr 7 x.2]) (fun (x : Nat × List D) => x.1 ≤ l.length ∧ x.2.length = l.length + 1 + xs.length) (fun (x : Nat × List D) => l.length - x.1) ((0, l.map encQ ++ encQ ⟨71, 0, 0, 0, 0, 0, 0⟩ :: xs)) (⟨Nat.zero_le _, by simp; omega⟩) (by simp) ?_
      rintro x hx
      obtain ⟨i, ys⟩ := x
      obtain ⟨hi, hy⟩ := hx
      simp only at hi hy ⊢
      rcases Nat.lt_or_eq_of_le hi with hi | hi
      · have hwi := wrap1 hl hi
        have hiy : i < ys.length := by omega
        have hcy : cap ≤ ys.length := by omega
        simp -implicitDefEqProofs [↓gd_tt, ↓gd_ff, ↓gd_tf, ↓gd_ft, hi, hlen, hcy, hwi, List.getElem?_eq_getElem hiy]
        exact ⟨i + 1, _, ⟨by omega, by simp [hy]⟩, by omega, rfl, rfl⟩
      simp -implicitDefEqProofs [↓gd_tt, ↓gd_ff, ↓gd_tf, ↓gd_ft, hi]
      clear hi
      refine regionRf [] ?_
      simp -implicitDefEqProofs [↓gd_tt, ↓gd_ff, ↓gd_tf, ↓gd_ft, stripL, onsOf, hintOf]
      refine ⟨_, St.le_refl _, ?_⟩
      simp -implicitDefEqProofs [↓gd_tt, ↓gd_ff, ↓gd_tf, ↓gd_ft]
      refine loopA mixed [false, false, false, false, false, false, false, false, false, false, false, false, false, false, false, false, false, true, false, false, false, false, false, false, false, false, false, false, false, false, false, false, false, false, false, false, false, false, false, false, false, false, false, false, false, false, false, false, false, false, false, false, false, false, false, false, false, false, false, false, false, false, false, false, true, true, true, true, true, true, true] (fun (x : Nat) => [(64, .d (I x))]) (fun (x : Nat) => [.var [.d (I q.Id), .d (I q.Par), .d (I q.Wt), .d (I q.QC), .d (I q.QM), .d (I q.MC), .d (I q.MM)], .arr 7 ys]) (fun (x : Nat) => x = 0) (fun (x : Nat) => 0 - x) (0) (rfl) (by simp) ?_
      rintro x hx
      subst hx
      simp -implicitDefEqProofs [↓gd_tt, ↓gd_ff, ↓gd_tf, ↓gd_ft]
      refine callK_pcall (refAdd_spec false l q hl hr) rfl (addP_ok l q).1 ?_
      rw [show addV l q = addP l q from rfl, ea]
      simp -implicitDefEqProofs [↓gd_tt, ↓gd_ff, ↓gd_tf, ↓gd_ft]
      refine callK_pcall (refBelow_spec false l id hl) rfl (belowV_ok l id).1 ?_
      rw [show belowV l id = (.tup [.nil 1, .d (I (there l id))]) by simp [belowV, hth]]
      simp -implicitDefEqProofs [↓gd_tt, ↓gd_ff, ↓gd_tf, ↓gd_ft]
      refine callK_pcall (rset_spec false l q hl hr) rfl (setP_ok l q).1 ?_
      rw [show setV l q = setP l q from rfl, eb]
      simp -implicitDefEqProofs [↓gd_tt, ↓gd_ff, ↓gd_tf, ↓gd_ft]
      first | refine callK_pcall (same_spec false false ra ra la) rfl rfl ?_ | refine callK_pcall (same_spec false false [] [] (Nat.zero_le _)) rfl rfl ?_
      simp -implicitDefEqProofs [↓gd_tt, ↓gd_ff, ↓gd_tf, ↓gd_ft]
      first | refine callK_pcall (ints_spec false false (below l id) (below l id) (hbl hth)) rfl rfl ?_ | refine callK_pcall (ints_spec false false [] [] (Nat.zero_le _)) rfl rfl ?_
      simp -implicitDefEqProofs [↓gd_tt, ↓gd_ff, ↓gd_tf, ↓gd_ft]
      first | refine callK_pcall (same_spec false false rb rb lb) rfl rfl ?_ | refine callK_pcall (same_spec false false [] [] (Nat.zero_le _)) rfl rfl ?_
      simp -implicitDefEqProofs [↓gd_tt, ↓gd_ff, ↓gd_tf, ↓gd_ft]
  all_goals
    rw [show belowH l id = (.tup [.hold 1 ((below l id).map I), .d (I 0)]) by simp [belowH, hth]]
    simp -implicitDefEqProofs [↓gd_tt, ↓gd_ff, ↓gd_tf, ↓gd_ft]
    refine callK_lend (qbelow_spec true l id hl) (hxx _) (belowV_ok l id).1 (belowV_ok l id).2 ?_
    rw [show belowV l id = (.tup [.d (encI false (below l id)), .d (I 0)]) by simp [belowV, hth]]
    simp -implicitDefEqProofs [↓gd_tt, ↓gd_ff, ↓gd_tf, ↓gd_ft]
    refine callK_lend (qset_spec true l q hl) (hxx _) (setP_ok l q).1 (setP_ok l q).2 ?_
    rcases setP_res l q with ⟨rb, lb, eb⟩ | ⟨rb, eb⟩
  all_goals
    rw [eb]
    simp -implicitDefEqProofs [↓gd_tt, ↓gd_ff, ↓gd_tf, ↓gd_ft]
    refine loopA mixed [false, false, false, false, false, false, false, false, false, false, false, false, false, false, false, false, true, false, false, false, false, false, false, false, false, false, false, false, false, false, false, false, false, false, false, false, false, false, false, false, false, false, false, false, false, false, false, false, false, false, false, false, false, false, true, true, true, true, true, true, true, true] (fun (x : Nat × List D) => [(54, .d (I x.1))]) (fun (x : Nat × List D) => [.var [.d (I q.Id), .d (I q.Par), .d (I q.Wt), .d (I q.QC), .d (I q.QM), .d (I q.MC), .d (I q.MM)], .arr 7 x.2]) (fun (x : Nat × List D) => x.1 ≤ l.length ∧ x.2.length = l.length + 1 + xs.length) (fun (x : Nat × List D) => l.length - x.1) ((0, l.map encQ ++ encQ ⟨71, 0, 0, 0, 0, 0, 0⟩ :: xs)) (⟨Nat.zero_le _, by simp; omega⟩) (by simp) ?_
    rintro x hx
    obtain ⟨i, ys⟩ := x
    obtain ⟨hi, hy⟩ := hx
    simp only at hi hy ⊢
    rcases Nat.lt_or_eq_of_le hi with hi | hi
    · have hwi := wrap1 hl hi
      have hiy : i < ys.length := by omega
      have hcy : cap ≤ ys.length := by omega
      simp -implicitDefEqProofs [↓gd_tt, ↓gd_ff, ↓gd_tf, ↓gd_ft, hi, hlen, hcy, hwi, List.getElem?_eq_getElem hiy]
      exact ⟨i + 1, _, ⟨by omega, by simp [hy]⟩, by omega, rfl, rfl⟩
    simp -implicitDefEqProofs [↓gd_tt, ↓gd_ff, ↓gd_tf, ↓gd_ft, hi]
    clear hi
    have hbm := hbl hth
    refine SemC.thawSlot 10 rfl fun capb rest hcb hrb => ?_
    refine regionRf [] ?_
    simp -implicitDefEqProofs [↓gd_tt, ↓gd_ff, ↓gd_tf, ↓gd_ft, stripL, onsOf, hintOf]
    refine ⟨_, St.le_refl _, ?_⟩
    simp -implicitDefEqProofs [↓gd_tt, ↓gd_ff, ↓gd_tf, ↓gd_ft]
    have hcb2 : (below l id).length + rest.length = capb := by simpa using hcb
    refine loopA mixed [false, false, false, false, false, false, false, false, false, false, false, false, false, false, false, false, false, true, false, false, false, false, false, false, false, false, false, false, false, false, false, false, false, false, false, false, false, false, false, false, false, false, false, false, false, false, false, false, false, false, false, false, false, false, false, false, false, false, false, false, false, false, false, false, true, true, true, true, true, true, true] (fun (x : Nat × List D) => [(64, .d (I x.1))]) (fun (x : Nat × List D) => [.var [.d (I q.Id), .d (I q.Par), .d (I q.Wt), .d (I q.QC), .d (I q.QM), .d (I q.MC), .d (I q.MM)], .arr 7 ys, .arr 1 x.2]) (fun (x : Nat × List D) => x.1 ≤ (below l id).length ∧ x.2.length = capb) (fun (x : Nat × List D) => (below l id).length - x.1) ((0, (below l id).map I ++ rest)) (⟨Nat.zero_le _, by simpa using hcb⟩) (by simp) ?_
    rintro x hx
    obtain ⟨i, zs⟩ := x
    obtain ⟨hi, hz⟩ := hx
    simp only at hi hz ⊢
    rcases Nat.lt_or_eq_of_le hi with hi | hi
    · have hwi := wrap1 hbm hi
      have hiz : i < zs.length := by omega
      have hcz : (below l id).length ≤ capb := by omega
      simp -implicitDefEqProofs [↓gd_tt, ↓gd_ff, ↓gd_tf, ↓gd_ft, hi, hz, hcz, hwi, List.getElem?_eq_getElem hiz]
      exact ⟨i + 1, _, ⟨by omega, by simp [hz]⟩, by omega, rfl, rfl⟩
    simp -implicitDefEqProofs [↓gd_tt, ↓gd_ff, ↓gd_tf, ↓gd_ft, hi]
    refine callK_pcall (refAdd_spec false l q hl hr) rfl (addP_ok l q).1 ?_
    rw [show addV l q = addP l q from rfl, ea]
    simp -implicitDefEqProofs [↓gd_tt, ↓gd_ff, ↓gd_tf, ↓gd_ft]
    refine callK_pcall (refBelow_spec false l id hl) rfl (belowV_ok l id).1 ?_
    rw [show belowV l id = (.tup [.d (encI false (below l id)), .d (I 0)]) by simp [belowV, hth]]
    simp -implicitDefEqProofs [↓gd_tt, ↓gd_ff, ↓gd_tf, ↓gd_ft]
    refine callK_pcall (rset_spec false l q hl hr) rfl (setP_ok l q).1 ?_
    rw [show setV l q = setP l q from rfl, eb]
    simp -implicitDefEqProofs [↓gd_tt, ↓gd_ff, ↓gd_tf, ↓gd_ft]
    first | refine callK_pcall (same_spec false false ra ra la) rfl rfl ?_ | refine callK_pcall (same_spec false false [] [] (Nat.zero_le _)) rfl rfl ?_
    simp -implicitDefEqProofs [↓gd_tt, ↓gd_ff, ↓gd_tf, ↓gd_ft]
    first | refine callK_pcall (ints_spec false false (below l id) (below l id) (hbl hth)) rfl rfl ?_ | refine callK_pcall (ints_spec false false [] [] (Nat.zero_le _)) rfl rfl ?_
    simp -implicitDefEqProofs [↓gd_tt, ↓gd_ff, ↓gd_tf, ↓gd_ft]
    first | refine callK_pcall (same_spec false false rb rb lb) rfl rfl ?_ | refine callK_pcall (same_spec false false [] [] (Nat.zero_le _)) rfl rfl ?_
    simp -implicitDefEqProofs [↓gd_tt, ↓gd_ff, ↓gd_tf, ↓gd_ft]
end Go.Idl
end
