/- One operation. Part 4: the small ones.; One operation. Part 5: arithmetic, comparisons, conversions, functions, tuples, slicing. -/
import Derived.Laws.StructEq
import Derived.Test.YtkfpaffcglijeaaQueueApartPart02
set_option linter.all false
section
namespace Go.Idl

theorem setAt_flat {x : D} {j : Nat} {y : List D} (hl : j + y.length ≤ x.flat.length) (hn : (∃ cs, x = .agg cs) ∨ y = []) :
    (x.setAt j y).flat.length = x.flat.length ∧ ∀ k, (x.setAt j y).flat[k]? = if j ≤ k ∧ k < j + y.length then y[k - j]? else x.flat[k]? := by
  rcases hn with ⟨cs, rfl⟩ | rfl
  · simp only [D.setAt, D.flat] at *
    refine ⟨by simp; omega, fun k => ?_⟩
    split
    · rename_i h
      rw [List.append_assoc, List.getElem?_append_right (by simp; omega), List.getElem?_append_left (by simp; omega)]
      congr 1; simp; omega
    · rename_i h
      by_cases hk : k < j
      · rw [List.append_assoc, List.getElem?_append_left (by simp; omega), List.getElem?_take, if_pos hk]
      · rw [List.getElem?_append_right (by simp; omega), List.getElem?_drop]
        congr 1; simp; omega
  · cases x <;> simp [D.setAt, D.flat] <;> (intro k h1 h2; omega)

section
variable {P : Program} {κ : Ctx} {Φ : CM} {B : List Nat} {au : Auth} {s : St} {a : Act} {w : World} {K : St → Prop} {o : Oper}

theorem does_store {t : TypeId} {x y : Operand} {r : List Oper} (h : Inv κ Φ B au s a w) (ho : o.op = .store t x y) (hk : stepK P o r s K) : Does P κ o a w K := by
  simp only [stepK, ho] at hk
  unfold storeK at hk
  split at hk
  · rename_i id off e
    split at hk
    · rename_i cs ecs
      obtain ⟨h1, h2, h3, h4, h5⟩ := hk
      exact does_store_var (r := r) h ho e ecs h1 h2 h3 h4 h5
    · exact hk.elim
  · rename_i id z i j e
    split at hk
    · rename_i z' xs yd exs eyd
      split at hk
      · rename_i xd exd
        obtain ⟨hkd, rfl, hfl, hj, hk⟩ := hk
        have hr := ev_rep (P := P) h 0 x
        rw [e] at hr
        obtain ⟨b, c, el, hb, h1, h2, h3, h4⟩ := h.arrAt exs (by rintro rfl; simp at exd)
        have hp : a.eval x = .pointer (some ⟨b, i * z + j, none⟩) := by
          generalize a.eval x = v at hr
          cases hr with | aptr e2 => rw [hb] at e2; injection e2 with e2; rw [e2]
        have hy := ev_d? (P := P) h eyd
        have hyl := hy.flat
        obtain ⟨f1, f2⟩ := hyl.get
        have hil : i < xs.length := (List.getElem?_eq_some_iff.1 exd).1
        have hiz : i * z + z ≤ xs.length * z := by
          have : (i + 1) * z ≤ xs.length * z := Nat.mul_le_mul_right z hil
          rw [Nat.add_mul] at this; omega
        have hcells : ∀ x ∈ (a.eval y).cells.toList, okCell x := by
          intro x hx
          obtain ⟨k, hk, rfl⟩ := List.getElem_of_mem hx
          have hk' : k < yd.flat.length := by rw [f1]; exact hk
          exact (f2 k _ _ (List.getElem?_eq_getElem hk') (List.getElem?_eq_getElem hk)).1
        obtain ⟨w', g1, g2⟩ := run_storeAt (P := P) (t := t) (off := i * z + j) hkd (by rw [← hfl, f1]; simp) h2 (by rw [h3]; omega) hcells
        have hx : (execOp a.eval o).run P w = .ok .skip w' := by
          unfold execOp; rw [ho]; refine run_u ?_
          simp only [hp]; exact g1
        obtain ⟨c', q1, q2, q3, q4⟩ := g2.here
        have hlen : (a.eval y).cells.toList.length = sizeD P t := by rw [← f1, hfl]
        obtain ⟨hxz, hxc⟩ := h4 i xd exd
        -- the new element
        have hnew : ∃ x', x' = (if j = 0 ∧ sizeD P t = z then yd else xd.setAt j yd.flat) ∧ x'.flat.length = z ∧ ∀ k, x'.flat[k]? = if j ≤ k ∧ k < j + sizeD P t then yd.flat[k - j]? else xd.flat[k]? := by
          refine ⟨_, rfl, ?_⟩
          split
          · rename_i hh
            obtain ⟨rfl, hz⟩ := hh
            refine ⟨by rw [hfl, hz], fun k => ?_⟩
            split
            · simp
            · rw [List.getElem?_eq_none (by omega), List.getElem?_eq_none (by omega)]
          · rename_i hh
            obtain ⟨m1, m2⟩ := setAt_flat (x := xd) (j := j) (y := yd.flat) (by rw [hfl, hxz]; exact hj) (by
              cases xd with
              | agg cs => exact .inl ⟨cs, rfl⟩
              | _ =>
                right
                simp [D.flat] at hxz
                have : yd.flat.length = 0 := by
                  rw [hfl]
                  by_cases hs0 : sizeD P t = 0
                  · exact hs0
                  · exact absurd ⟨by omega, by omega⟩ hh
                exact List.length_eq_zero_iff.1 this)
            exact ⟨m1.trans hxz, fun k => by rw [m2, hfl]⟩
        obtain ⟨x', ex', hx'z, hx'c⟩ := hnew
        rw [← ex'] at hk
        have hO : RepO Φ B au w' id b (.arr z (xs.set i x')) := by
          refine fun _ => ⟨h1, c', el, q1, by rw [q2, h3]; simp, fun i' xv hxv => ?_⟩
          rw [List.getElem?_set] at hxv
          by_cases ei : i = i'
          · subst ei
            simp [hil] at hxv; subst hxv
            refine ⟨hx'z, fun k d hd => ?_⟩
            have hkz : k < z := by rw [← hx'z]; exact (List.getElem?_eq_some_iff.1 hd).1
            rw [hx'c] at hd
            split at hd
            · rename_i hkr
              have hk2 : k - j < (a.eval y).cells.toList.length := by rw [← f1]; exact (List.getElem?_eq_some_iff.1 hd).1
              obtain ⟨m1, m2⟩ := f2 _ d _ hd (List.getElem?_eq_getElem hk2)
              refine ⟨_, ?_, m1, m2⟩
              rw [q3 _ (by omega) (by rw [hlen]; omega), show i * z + k - (i * z + j) = k - j by omega]
              exact List.getElem?_eq_getElem hk2
            · rename_i hkr
              obtain ⟨v, m1, m2, m3⟩ := hxc k d hd
              exact ⟨v, by rw [q4 _ (by rw [hlen]; omega)]; exact m1, m2, m3⟩
          · simp [ei] at hxv
            obtain ⟨m1, m2⟩ := h4 i' xv hxv
            refine ⟨m1, fun k d hd => ?_⟩
            obtain ⟨v, k1, k2, k3⟩ := m2 k d hd
            have hkz : k < z := by rw [← m1]; exact (List.getElem?_eq_some_iff.1 hd).1
            refine ⟨v, ?_, k2, k3⟩
            rw [q4]; exact k1
            rw [hlen]
            rcases Nat.lt_or_gt_of_ne ei with hlt | hgt
            · right
              have : (i + 1) * z ≤ i' * z := Nat.mul_le_mul_right z hlt
              rw [Nat.add_mul] at this; omega
            · left
              have : (i' + 1) * z ≤ i * z := Nat.mul_le_mul_right z hgt
              rw [Nat.add_mul] at this; omega
        have hfin := h.write (o' := .arr z (xs.set i x')) hb h1 g2.size g2.there g2.tape g2.os g2.out (fun r hr => by rw [h2] at hr; cases hr) hO
        exact does_skip hx hk ⟨Φ, B, au, hfin.put o.dst (.un _) fun _ _ => trivial⟩
      · exact hk.elim
    · exact hk.elim
  · exact hk.elim

theorem run_fieldAt {t : TypeId} {f n : Nat} {ft : TypeId} {b off : Nat} (e : fieldOff P t f = some (n, ft)) :
    (Instr.fieldAt t (.pointer (some ⟨b, off, none⟩)) f).run P w = .ok (.pointer (some ⟨b, off + n, none⟩)) w := by
  unfold fieldOff at e
  cases hu : P.underlying t with
  | none => simp [hu] at e
  | some d =>
    cases d <;> simp [hu] at e
    rename_i fs
    cases hf : fs[f]? with
    | none => simp [hf] at e
    | some x =>
      simp only [hf] at e
      cases hi : P.info? x.type with
      | none => simp [hi] at e
      | some i =>
        simp only [hi] at e
        split at e
        · simp at e
        · rename_i hz
          simp at e
          obtain ⟨rfl, rfl⟩ := e
          unfold Instr.fieldAt
          rw [Sem.run_bind, run_underlying hu]; simp only [Result.andThen_ok, hf]
          simp only [Instr.sureAddr, pure_bind, Sem.run_bind]
          unfold fieldPlace
          rw [Sem.run_bind, run_sizeOf hi]; simp only [Result.andThen_ok]
          rw [if_neg hz, addr_add]; rfl

theorem does_fieldAddr {t : TypeId} {x : Operand} {f : Nat} {r : List Oper} (h : Inv κ Φ B au s a w) (ho : o.op = .fieldAddr t x f) (hk : stepK P o r s K) : Does P κ o a w K := by
  simp only [stepK, ho] at hk
  have hr := ev_rep (P := P) h 0 x
  have hx : ∀ {b off n ft}, a.eval x = .pointer (some ⟨b, off, none⟩) → fieldOff P t f = some (n, ft) → (execOp a.eval o).run P w = .ok (.value (.pointer (some ⟨b, off + n, none⟩))) w := by
    intro b off n ft e1 e2
    unfold execOp; rw [ho]; refine run_v ?_
    simp only [e1]; exact run_fieldAt e2
  split at hk
  · rename_i id off n ft e1 e2
    rw [e1] at hr
    generalize hv : a.eval x = v at hr
    cases hr with | ptr hb => exact does_plain h (hx hv e2) (.ptr hb) (fun _ => trivial) hk
  · rename_i z xs i j n ft e1 e2
    rw [e1] at hr
    generalize hv : a.eval x = v at hr
    cases hr with
    | lptr he =>
      have := hx hv e2
      rw [Nat.add_assoc] at this
      exact does_plain h this (.lptr he) (fun _ => trivial) hk
  · rename_i id z i j n ft e1 e2
    rw [e1] at hr
    generalize hv : a.eval x = v at hr
    cases hr with
    | aptr hb =>
      have := hx hv e2
      rw [Nat.add_assoc] at this
      exact does_plain h this (.aptr hb) (fun _ => trivial) hk
  · exact hk.elim

theorem run_part {t : TypeId} {cs : List Value} {ds : List D} {j : Nat} {d : D} (hl : RepL Φ ds cs) (e : partD P t (.agg ds) j = some d) : ∃ v, (part t cs.toArray j).run P w = .ok v w ∧ RepD Φ d v := by
  obtain ⟨h1, h2⟩ := hl.get
  unfold partD at e
  cases hk : kindD P t with
  | none => simp [hk] at e
  | some k =>
    obtain ⟨td, i, _, hi, hz, hagg⟩ := kind_info hk
    simp only [hk] at e
    unfold part
    rw [Sem.run_bind, hagg]; simp only [Result.andThen_ok]
    cases k with
    | false =>
      simp only [D.flat] at e
      have hj : j < cs.length := by rw [← h1]; exact (List.getElem?_eq_some_iff.1 e).1
      refine ⟨cs[j], ?_, (h2 j d _ e (List.getElem?_eq_getElem hj)).2⟩
      simp [hj]
    | true =>
      simp only at e
      simp only [if_true]
      rw [Sem.run_bind, run_sizeOf hi]; simp only [Result.andThen_ok]
      have key : ∀ (ds' : List D), ds' = (ds.drop j).take i.size → RepD Φ (.agg ds') (.agg (cs.toArray.extract j (j + i.size))) := by
        rintro ds' rfl
        have : cs.toArray.extract j (j + i.size) = ((cs.drop j).take i.size).toArray := by simp [List.extract_eq_take_drop]
        rw [this]
        refine .agg (RepL.of (by simp [h1]) fun k d c hd hc => ?_)
        rw [List.getElem?_take] at hd hc
        split at hd
        · rename_i hk; simp only [hk, if_true] at hc; rw [List.getElem?_drop] at hd hc; exact h2 _ d c hd hc
        · cases hd
      rw [hz] at e
      split at e
      · rename_i hj; injection e with e; subst e
        exact ⟨_, rfl, key ds (by rw [hj.1, List.drop_zero, List.take_of_length_le (by omega)])⟩
      · split at e
        · injection e with e; subst e; exact ⟨_, rfl, key _ rfl⟩
        · cases e

theorem run_partV {t : TypeId} {cs : List Value} {Vs : List V} {j : Nat} {V : V} (hl : RepSL Φ B Vs cs) (ok : ∀ c ∈ cs, okCell c) (q : ∀ V ∈ Vs, V.cp = V ∧ V.known = true) (e : partV P t Vs j = some V) :
    ∃ v, (part t cs.toArray j).run P w = .ok v w ∧ RepS Φ B V v ∧ ∀ au w h, OwnV au w h V v := by
  obtain ⟨h1, h2⟩ := hl.get
  unfold partV at e
  cases hk : kindD P t with
  | none => simp [hk] at e
  | some k =>
    obtain ⟨td, i, _, hi, hz, hagg⟩ := kind_info hk
    simp only [hk] at e
    unfold part
    rw [Sem.run_bind, hagg]; simp only [Result.andThen_ok]
    cases k with
    | false =>
      cases hj : Vs[j]? with
      | none => simp [hj] at e
      | some V' =>
        simp [hj] at e; subst e
        have hlt : j < cs.length := by rw [← h1]; exact (List.getElem?_eq_some_iff.1 hj).1
        refine ⟨cs[j], ?_, (h2 j V' _ hj (List.getElem?_eq_getElem hlt)).cp, fun _ _ _ => OwnV_cp⟩
        simp [hlt]
    | true =>
      simp only at e
      split at e
      · rename_i hlen
        injection e with e; subst e
        simp only [if_true]
        rw [Sem.run_bind, run_sizeOf hi]; simp only [Result.andThen_ok]
        have hx : cs.toArray.extract j (j + i.size) = ((cs.drop j).take (sizeD P t)).toArray := by rw [hz]; simp [List.extract_eq_take_drop]
        have hkn : allKnown ((Vs.drop j).take (sizeD P t)) = true := by
          have aux : ∀ l : List Idl.V, (∀ V ∈ l, V.known = true) → allKnown l = true := by
            intro l
            induction l with
            | nil => intro _; rfl
            | cons x l ih => intro h; simp only [allKnown, Bool.and_eq_true]; exact ⟨h x (by simp), ih fun V hV => h V (by simp [hV])⟩
          exact aux _ fun V hV => (q V (List.mem_of_mem_drop (List.mem_of_mem_take hV))).2
        obtain ⟨r1, r2⟩ := mkAgg_rep (Φ := Φ) (B := B) (vs := (cs.drop j).take (sizeD P t)) hkn (by simp [h1]) fun k V v hV hv => by
          rw [List.getElem?_take] at hV hv
          split at hV
          · rename_i hk'
            rw [if_pos hk'] at hv
            rw [List.getElem?_drop] at hV hv
            exact ⟨ok v (List.mem_of_getElem? hv), h2 _ V v hV hv⟩
          · cases hV
        refine ⟨.agg (cs.toArray.extract j (j + i.size)), rfl, by rw [hx]; exact r1, fun au w h => r2 au w h _⟩
      · cases e

theorem does_field {t : TypeId} {x : Operand} {f : Nat} {r : List Oper} (h : Inv κ Φ B au s a w) (ho : o.op = .field t x f) (hk : stepK P o r s K) : Does P κ o a w K := by
  simp only [stepK, ho] at hk
  split at hk
  · rename_i d n ft e1 e2
    split at hk
    · rename_i y ey
      obtain ⟨hd, hk⟩ := hk
      have hr := ev_d h e1
      cases d <;> simp only at hd
      rename_i ds
      generalize hv : a.eval x = v at hr
      cases hr with
      | agg hl =>
        obtain ⟨v, g1, g2⟩ := run_part (w := w) hl ey
        refine does_plain h ?_ (.d g2) (fun _ => trivial) hk
        unfold execOp; rw [ho]; refine run_v ?_
        unfold fieldOff at e2
        cases hu : P.underlying t with
        | none => simp [hu] at e2
        | some d =>
          cases d <;> simp [hu] at e2
          rename_i fs
          cases hf : fs[f]? with
          | none => simp [hf] at e2
          | some x' =>
            simp only [hf] at e2
            cases hi : P.info? x'.type with
            | none => simp [hi] at e2
            | some i =>
              simp only [hi] at e2
              split at e2
              · simp at e2
              · simp at e2
                obtain ⟨rfl, rfl⟩ := e2
                unfold Instr.field
                rw [Sem.run_bind, run_underlying hu]; simp only [Result.andThen_ok, hf, hv, asAgg, pure_bind]
                exact g1
    · exact hk.elim
  · rename_i Vs n ft e1 e2
    split at hk
    · rename_i y ey
      have hr := ev_rep (P := P) h t x
      rw [e1] at hr
      generalize hv : a.eval x = v at hr
      cases hr with
      | st hl ok q =>
        obtain ⟨v, g1, g2, g3⟩ := run_partV (w := w) hl ok q ey
        refine does_plain h ?_ g2 (fun _ => g3 _ _ _) hk
        unfold execOp; rw [ho]; refine run_v ?_
        unfold fieldOff at e2
        cases hu : P.underlying t with
        | none => simp [hu] at e2
        | some d =>
          cases d <;> simp [hu] at e2
          rename_i fs
          cases hf : fs[f]? with
          | none => simp [hf] at e2
          | some x' =>
            simp only [hf] at e2
            cases hi : P.info? x'.type with
            | none => simp [hi] at e2
            | some i =>
              simp only [hi] at e2
              split at e2
              · simp at e2
              · simp at e2
                obtain ⟨rfl, rfl⟩ := e2
                unfold Instr.field
                rw [Sem.run_bind, run_underlying hu]; simp only [Result.andThen_ok, hf, hv, asAgg, pure_bind]
                exact g1
    · exact hk.elim
  · exact hk.elim

theorem elI_inv {t : TypeId} {z y : Nat} (e : elI P t = some (z, y)) : ∃ el i zv, P.underlying t = some (.slice el) ∧ P.info? el = some i ∧ i.zero = some zv ∧ i.size = z ∧ i.bytes = y ∧ zv.cells.size = z := by
  unfold elI at e
  cases hu : P.underlying t with
  | none => simp [hu] at e
  | some d =>
    cases d <;> simp [hu] at e
    rename_i el
    cases hi : P.info? el with
    | none => simp [hi] at e
    | some i =>
      simp only [hi] at e
      cases hz : i.zero with
      | none => simp [hz] at e
      | some zv =>
        simp only [hz] at e
        split at e
        · rename_i hs
          simp at e
          exact ⟨el, i, zv, rfl, hi, hz, e.1, e.2, hs.trans e.1⟩
        · cases e

theorem elI_map {t : TypeId} {z : Nat} (e : (elI P t).map (·.1) = some z) : ∃ el i zv, P.underlying t = some (.slice el) ∧ P.info? el = some i ∧ i.zero = some zv ∧ i.size = z := by
  cases h : elI P t with
  | none => simp [h] at e
  | some p =>
    obtain ⟨z', y⟩ := p
    simp [h] at e; subst e
    obtain ⟨el, i, zv, a, b, c, d, _⟩ := elI_inv h
    exact ⟨el, i, zv, a, b, c, d⟩

theorem does_indexAddr {t : TypeId} {x ix : Operand} {r : List Oper} (h : Inv κ Φ B au s a w) (ho : o.op = .indexAddr t x ix) (hk : stepK P o r s K) : Does P κ o a w K := by
  simp only [stepK, ho] at hk
  have hr := (ev_rep (P := P) h t x).cp
  split at hk
  · rename_i z xs k n e1 e2
    obtain ⟨hz, h0, h1, hk⟩ := hk
    obtain ⟨el, i, zv, hu, hi, _, hsz⟩ := elI_map hz
    have hn := repD_int (ev_d h e2)
    rw [e1] at hr
    generalize hv : a.eval x = v at hr
    cases hr with
    | d hd =>
      cases hd with
      | sl0 => simp at h1; omega
      | sl hne hcap hel =>
        rename_i b off cap
        refine does_plain (v := .pointer (some ⟨b, off + n.toNat * z + 0, none⟩)) h ?_ (.lptr hel) (fun _ => trivial) hk
        unfold execOp; rw [ho]; refine run_v ?_
        unfold Instr.indexAt
        simp only [hn, hv, asIntOf, pure_bind]
        rw [Sem.run_bind, run_underlying hu]; simp only [Result.andThen_ok, pure_bind]
        rw [Sem.run_bind, run_underlying hu]; simp only [Result.andThen_ok]
        rw [if_pos ⟨h0, h1⟩, Sem.run_bind, run_sizeOf hi]; simp only [Result.andThen_ok, addr_add, hsz, Nat.add_zero]; rfl
  · rename_i id z off len cap k n e1 e2
    obtain ⟨hz, h0, h1, hk⟩ := hk
    obtain ⟨el, i, zv, hu, hi, _, hsz⟩ := elI_map hz
    have hn := repD_int (ev_d h e2)
    rw [e1] at hr
    generalize hv : a.eval x = v at hr
    cases hr with
    | ref0 => omega
    | ref hb hcap had =>
      rename_i b ad
      obtain rfl := had (by omega)
      have hxx : (execOp a.eval o).run P w = .ok (.value (.pointer (some ⟨b, (off + n.toNat) * z, none⟩))) w := by
        unfold execOp; rw [ho]; refine run_v ?_
        unfold Instr.indexAt
        simp only [hn, hv, asIntOf, pure_bind]
        rw [Sem.run_bind, run_underlying hu]; simp only [Result.andThen_ok, pure_bind]
        rw [Sem.run_bind, run_underlying hu]; simp only [Result.andThen_ok]
        rw [if_pos ⟨h0, h1⟩, Sem.run_bind, run_sizeOf hi]; simp only [Result.andThen_ok, addr_add, hsz, Nat.add_mul]; rfl
      split at hk
      · exact does_plain h hxx (.ptr hb) (fun _ => trivial) hk
      · exact does_plain (V := .aptr id z (off + n.toNat) 0) h hxx (by have := RepS.aptr (Φ := Φ) (z := z) (i := off + n.toNat) (j := 0) hb; simpa using this) (fun _ => trivial) hk
  · rename_i id off k n e1 e2
    split at hk
    · rename_i m z ea
      obtain ⟨h0, h1, hk⟩ := hk
      have hn := repD_int (ev_d h e2)
      rw [e1] at hr
      generalize hv : a.eval x = v at hr
      cases hr with
      | ptr hb =>
        rename_i b
        refine does_plain (v := .pointer (some ⟨b, off + n.toNat * z, none⟩)) h ?_ (.ptr hb) (fun _ => trivial) hk
        unfold arrI at ea
        cases hu : P.underlying t with
        | none => simp [hu] at ea
        | some d =>
          cases d <;> simp [hu] at ea
          rename_i el
          cases hi : P.info? el with
          | none => simp [hi] at ea
          | some i =>
            simp [hi] at ea
            obtain ⟨rfl, rfl⟩ := ea
            unfold execOp; rw [ho]; refine run_v ?_
            unfold Instr.indexAt
            simp only [hn, hv, asIntOf, pure_bind]
            rw [Sem.run_bind, run_underlying hu]; simp only [Result.andThen_ok, Instr.sureAddr, pure_bind]
            rw [Sem.run_bind, run_underlying hu]; simp only [Result.andThen_ok]
            rw [if_pos ⟨h0, h1⟩, Sem.run_bind, run_sizeOf hi]; simp only [Result.andThen_ok, addr_add]; rfl
    · exact hk.elim
  · exact hk.elim

end
end Go.Idl
end
section
namespace Go.Idl

section
variable {P : Program} {κ : Ctx} {Φ : CM} {B : List Nat} {au : Auth} {s : St} {a : Act} {w : World} {K : St → Prop} {o : Oper}

theorem run_intOp {op : BinOp} {t : TypeId} {k : IntKind} {x y : Int} {d : D} (e : intOp op k x y = some d) : ∃ v, (binOp op t (.int k x) (.int k y)).run P w = .ok v w ∧ RepD Φ d v := by
  cases op <;> simp [intOp] at e <;> subst e
  · exact ⟨_, by simp [binOp, Op.intArith, pure, Sem.run], .int _ _⟩
  · exact ⟨_, by simp [binOp, Op.intArith, pure, Sem.run], .int _ _⟩
  · exact ⟨_, by simp [binOp, Op.intArith, pure, Sem.run], .int _ _⟩
  · exact ⟨_, by simp [binOp, Op.intBits, pure, Sem.run], .int _ _⟩
  · exact ⟨_, by simp [binOp, Op.intBits, pure, Sem.run], .int _ _⟩
  · exact ⟨_, by simp [binOp, Op.intBits, pure, Sem.run], .int _ _⟩
  · exact ⟨_, by simp [binOp, Op.intBits, pure, Sem.run], .int _ _⟩
  · refine ⟨.bool (decide (x = y)), ?_, .bool _⟩
    simp only [binOp, Op.intCmp, ne_eq, not_true_eq_false, if_false, Sem.run, pure]
    congr 2
  · refine ⟨.bool (!decide (x = y)), ?_, .bool _⟩
    simp only [binOp, Op.intCmp, ne_eq, not_true_eq_false, if_false, Sem.run, pure]
    congr 2
  all_goals
    refine ⟨_, ?_, .bool _⟩
    simp only [binOp, Op.intCmp, ne_eq, not_true_eq_false, if_false, Sem.run, pure]

theorem run_eqGuard_plain {op : BinOp} {t : TypeId} {x y : Operand} {u v : Value} (h1 : ∀ xs, u ≠ .agg xs) (h2 : u ≠ .nilIface) : (eqGuard op t x y u v).run P w = .ok () w := by
  cases u <;> first | exact absurd rfl h2 | exact absurd rfl (h1 _) | (cases op <;> rfl)

theorem run_bin {op : BinOp} {t t' : TypeId} {x y : Operand} {v : Value} (ho : o.op = .binOp op t x y t') (hg : (eqGuard op t x y (a.eval x) (a.eval y)).run P w = .ok () w) (hb : (binOp op t (a.eval x) (a.eval y)).run P w = .ok v w) :
    (execOp a.eval o).run P w = .ok (.value v) w := by
  unfold execOp; rw [ho]; refine run_v ?_
  rw [Sem.run_bind, hg]; simp only [Result.andThen_ok]; exact hb

theorem eqAt_append {xs ys : List D} : ∀ {l l' : List (Nat × Nat)} {r : Bool}, eqAt xs ys (l ++ l') = some r → ∃ r1 r2, eqAt xs ys l = some r1 ∧ eqAt xs ys l' = some r2 ∧ r = (r1 && r2)
  | [], l', r, h => ⟨true, r, rfl, h, by simp⟩
  | (i, k) :: l, l', r, h => by
    simp only [List.cons_append, eqAt] at h
    split at h <;> simp at h
    · rename_i j x k' y t e1 e2 e3
      obtain ⟨r1, r2, g1, g2, rfl⟩ := eqAt_append e3
      obtain ⟨rfl, h⟩ := h
      refine ⟨(decide (x = y) && r1), r2, ?_, g2, by rw [← h, Bool.and_assoc]⟩
      simp [eqAt, e1, e2, g1]
    · rename_i x y t e1 e2 e3
      obtain ⟨r1, r2, g1, g2, rfl⟩ := eqAt_append e3
      refine ⟨((x == y) && r1), r2, ?_, g2, by rw [← h, Bool.and_assoc]⟩
      simp [eqAt, e1, e2, g1]
    · rename_i x y t e1 e2 e3
      obtain ⟨r1, r2, g1, g2, rfl⟩ := eqAt_append e3
      refine ⟨((x == y) && r1), r2, ?_, g2, by rw [← h, Bool.and_assoc]⟩
      simp [eqAt, e1, e2, g1]

theorem eqAt_congr {xs ys xs' ys' : List D} {f : Nat → Nat} : ∀ {l : List (Nat × Nat)}, (∀ p ∈ l, xs[f p.1]? = xs'[p.1]? ∧ ys[f p.1]? = ys'[p.1]?) → eqAt xs ys (l.map fun p => (f p.1, p.2)) = eqAt xs' ys' l
  | [], _ => rfl
  | (i, k) :: l, h => by
    have h1 := h (i, k) (by simp)
    simp only [List.map_cons, eqAt, eqAt_congr (l := l) (fun p hp => h p (by simp [hp])), h1.1, h1.2]

theorem repL_sub {ds : List D} {cs : List Value} (hl : RepL Φ ds cs) (j n : Nat) : RepD Φ (.agg ((ds.drop j).take n)) (.agg (cs.toArray.extract j (j + n))) := by
  obtain ⟨h1, h2⟩ := hl.get
  have : cs.toArray.extract j (j + n) = ((cs.drop j).take n).toArray := by simp [List.extract_eq_take_drop]
  rw [this]
  refine .agg (RepL.of (by simp [h1]) fun k d c hd hc => ?_)
  rw [List.getElem?_take] at hd hc
  split at hd
  · rename_i hk; simp only [hk, if_true] at hc; rw [List.getElem?_drop] at hd hc; exact h2 _ d c hd hc
  · cases hd

theorem eqFields_cons {d : Nat} {xs ys : Array Value} {f : Field} {fs : List Field} {u v : Value} {r s' : Bool} (hn : f.name ≠ "_") (ha : (part f.type xs f.offset).run P w = .ok u w) (hb : (part f.type ys f.offset).run P w = .ok v w)
    (he : (Op.equalIn d f.type u v).run P w = .ok r w) (hr : (Op.eqFields d xs ys fs).run P w = .ok s' w) : (Op.eqFields d xs ys (f :: fs)).run P w = .ok (r && s') w := by
  rw [Op.eqFields]
  simp only [if_pos hn, Sem.run_bind, ha, hb, he, Result.andThen_ok]
  cases r
  · simp
  · simpa using hr

theorem eqAt_int {x y : D} {r : Bool} (h : eqAt [x] [y] [(0, 0)] = some r) : ∃ k n m, x = .int k n ∧ y = .int k m ∧ r = decide (n = m) := by
  cases x <;> cases y <;> simp [eqAt] at h
  obtain ⟨rfl, h⟩ := h
  exact ⟨_, _, _, rfl, rfl, h.symm⟩
theorem eqAt_bool {x y : D} {r : Bool} (h : eqAt [x] [y] [(0, 1)] = some r) : ∃ n m, x = .bool n ∧ y = .bool m ∧ r = (n == m) := by
  cases x <;> cases y <;> simp [eqAt] at h
  exact ⟨_, _, rfl, rfl, h.symm⟩
theorem eqAt_str {x y : D} {r : Bool} (h : eqAt [x] [y] [(0, 2)] = some r) : ∃ n m, x = .str n ∧ y = .str m ∧ r = (n == m) := by
  cases x <;> cases y <;> simp [eqAt] at h
  exact ⟨_, _, rfl, rfl, h.symm⟩

/-- Structs of plain leaves: compared leaf by leaf. -/
theorem run_equalIn_plain : ∀ (n : Nat) (t : TypeId) (l : List (Nat × Nat)), leafOffs P n t = some l → ∀ (d : Nat), n ≤ d → ∀ (r : Bool),
    (∀ (xs ys : List D) (us vs : List Value) (fs : Array Field), P.underlying t = some (.struct fs) → RepL Φ xs us → RepL Φ ys vs → eqAt xs ys l = some r → (Op.equalIn d t (.agg us.toArray) (.agg vs.toArray)).run P w = .ok r w) ∧
    (∀ (x y : D) (u v : Value), (∀ fs, P.underlying t ≠ some (.struct fs)) → RepD Φ x u → RepD Φ y v → eqAt [x] [y] l = some r → (Op.equalIn d t u v).run P w = .ok r w)
  | 0, _, _, h, _, _, _ => by simp [leafOffs] at h
  | n + 1, t, l, h, d, hd, r => by
    obtain ⟨d, rfl⟩ : ∃ d', d = d' + 1 := ⟨d - 1, by omega⟩
    simp only [leafOffs] at h
    cases hu : P.underlying t with
    | none => simp [hu] at h
    | some td =>
      simp only [hu] at h
      refine ⟨fun xs ys us vs fs ht hx hy he => ?_, fun x y u v ht hx hy he => ?_⟩
      · injection ht with ht; subst ht
        simp only at h
        split at h
        · cases h
        · rename_i hst
          have hfo : P.fieldsOf t = fs := by simp [Program.fieldsOf, hu]
          rw [run_equalIn_struct (P := P) w d t us.toArray vs.toArray (by rw [hfo]; exact hu) (by simpa using hst), hfo]
          have key : ∀ (fl : List Field) (l : List (Nat × Nat)) (r : Bool), fl.foldr (fun f acc => match leafOffs P n f.type, acc, P.info? f.type with
              | some l, some r, some i => if f.name = "_" ∨ l.all (fun x => decide (x.1 < i.size)) = false then none else some (l.map (fun x => (f.offset + x.1, x.2)) ++ r)
              | _, _, _ => none) (some []) = some l → eqAt xs ys l = some r → (Op.eqFields d us.toArray vs.toArray fl).run P w = .ok r w := by
            intro fl
            induction fl with
            | nil => intro l r h1 h2; simp at h1; subst h1; simp [eqAt] at h2; subst h2; simp [Op.eqFields]
            | cons f fl ih =>
              intro l r h1 h2
              simp only [List.foldr_cons] at h1
              split at h1
              · rename_i l1 l2 i e1 e2 e3
                split at h1
                · cases h1
                · rename_i hcond
                  injection h1 with h1; subst h1
                  obtain ⟨r1, r2, g1, g2, rfl⟩ := eqAt_append h2
                  have hname : f.name ≠ "_" := fun hh => hcond (.inl hh)
                  have hall : ∀ p ∈ l1, p.1 < i.size := by
                    intro p hp
                    have : l1.all (fun x => decide (x.1 < i.size)) = true := by
                      cases hb : l1.all (fun x => decide (x.1 < i.size)) with
                      | true => rfl
                      | false => exact absurd (.inr hb) hcond
                    simpa using List.all_eq_true.1 this p hp
                  obtain ⟨ih1, ih2⟩ := run_equalIn_plain n f.type l1 e1 d (by omega) r1
                  by_cases hstr : ∃ gs, P.underlying f.type = some (.struct gs)
                  · obtain ⟨gs, hgs⟩ := hstr
                    have hagg : (isAgg f.type).run P w = .ok true w := by
                      unfold isAgg; rw [Sem.run_bind, run_underlying hgs]; rfl
                    have hpart : ∀ cs : List Value, (part f.type cs.toArray f.offset).run P w = .ok (.agg (cs.toArray.extract f.offset (f.offset + i.size))) w := by
                      intro cs
                      unfold part; rw [Sem.run_bind, hagg]; simp only [Result.andThen_ok, if_true]
                      rw [Sem.run_bind, run_sizeOf e3]; rfl
                    refine eqFields_cons hname (hpart us) (hpart vs) ?_ (ih l2 r2 e2 g2)
                    have e5 := repL_sub hx f.offset i.size
                    have e6 := repL_sub hy f.offset i.size
                    generalize hA : us.toArray.extract f.offset (f.offset + i.size) = A at e5
                    generalize hB : vs.toArray.extract f.offset (f.offset + i.size) = B' at e6
                    have hA' : A = A.toList.toArray := by simp
                    have hB' : B' = B'.toList.toArray := by simp
                    rw [hA', hB']
                    refine ih1 ((xs.drop f.offset).take i.size) ((ys.drop f.offset).take i.size) A.toList B'.toList gs hgs ?_ ?_ ?_
                    · cases e5 with | agg e5 => simpa using e5
                    · cases e6 with | agg e6 => simpa using e6
                    · rw [← g1]
                      refine (eqAt_congr (f := fun k => f.offset + k) fun p hp => ?_).symm
                      have := hall p hp
                      simp [List.getElem?_take, List.getElem?_drop, this]
                  · have hns : ∀ gs, P.underlying f.type ≠ some (.struct gs) := fun gs hgs => hstr ⟨gs, hgs⟩
                    have hl1 : ∃ k, l1 = [(0, k)] ∧ (isAgg f.type).run P w = .ok false w := by
                      cases n with
                      | zero => simp [leafOffs] at e1
                      | succ n =>
                        simp only [leafOffs] at e1
                        cases hu' : P.underlying f.type with
                        | none => simp [hu'] at e1
                        | some td' =>
                          have hisA : ∀ b, (match td' with | .struct _ | .array _ _ => true | _ => false) = b → (isAgg f.type).run P w = .ok b w := by
                            rintro b rfl
                            unfold isAgg; rw [Sem.run_bind, run_underlying hu']; cases td' <;> rfl
                          simp only [hu'] at e1
                          cases td' <;> simp at e1
                          · exact ⟨1, e1.symm, hisA _ rfl⟩
                          · exact ⟨0, e1.symm, hisA _ rfl⟩
                          · exact ⟨2, e1.symm, hisA _ rfl⟩
                          · exact absurd hu' (hns _)
                    obtain ⟨k, rfl, hagg⟩ := hl1
                    simp only [List.map_cons, List.map_nil, Nat.add_zero] at g1
                    -- the leaf is there
                    have hleaf : ∃ x y, xs[f.offset]? = some x ∧ ys[f.offset]? = some y := by
                      simp only [eqAt] at g1
                      split at g1 <;> first | exact ⟨_, _, ‹_›, ‹_›⟩ | cases g1
                    obtain ⟨x, y, hxo, hyo⟩ := hleaf
                    obtain ⟨q1, q2⟩ := hx.get
                    obtain ⟨p1, p2⟩ := hy.get
                    have hux : f.offset < us.length := by rw [← q1]; exact (List.getElem?_eq_some_iff.1 hxo).1
                    have huy : f.offset < vs.length := by rw [← p1]; exact (List.getElem?_eq_some_iff.1 hyo).1
                    have hpart : ∀ (cs : List Value) (hc : f.offset < cs.length), (part f.type cs.toArray f.offset).run P w = .ok cs[f.offset] w := by
                      intro cs hc
                      unfold part; rw [Sem.run_bind, hagg]; simp [hc]
                    refine eqFields_cons hname (hpart us hux) (hpart vs huy) ?_ (ih l2 r2 e2 g2)
                    refine ih2 x y _ _ hns (q2 _ x _ hxo (List.getElem?_eq_getElem hux)).2 (p2 _ y _ hyo (List.getElem?_eq_getElem huy)).2 ?_
                    rw [← g1]
                    simp only [eqAt, hxo, hyo, List.getElem?_cons_zero]
              · cases h1
          exact key fs.toList l r h he
      · unfold Op.equalIn
        rw [Sem.run_bind, run_underlying hu]; simp only [Result.andThen_ok]
        cases td <;> simp at h
        · subst h
          obtain ⟨n, m, rfl, rfl, rfl⟩ := eqAt_bool he
          cases hx; cases hy; rfl
        · subst h
          obtain ⟨k, n, m, rfl, rfl, rfl⟩ := eqAt_int he
          cases hx; cases hy
          simp only [if_true]; rfl
        · subst h
          obtain ⟨n, m, rfl, rfl, rfl⟩ := eqAt_str he
          cases hx; cases hy; rfl
        · exact absurd rfl (ht _)

theorem RepD.sl_inv' {Φ : CM} {lb : Bool} {z : Nat} {xs : List D} {v : Value} (h : RepD Φ (.sl lb z xs) v) : ∃ a cap, v = .slice a xs.length cap ∧ xs.length ≤ cap ∧
    (xs ≠ [] → ∃ b o, a = some ⟨b, o, none⟩) := by
  cases h with
  | sl0 => exact ⟨_, _, rfl, Nat.zero_le _, fun h => absurd rfl h⟩
  | sl h1 h2 h3 => exact ⟨_, _, rfl, h2, fun _ => ⟨_, _, rfl⟩⟩

theorem run_eq_nil {t : TypeId} {v : Value} {a : Option Addr} {n c : Nat} (hu : (elemTy P t).isSome = true) (hv : v = .slice a n c) : (Op.equal t v (.slice none 0 0)).run P w = .ok a.isNone w := by
  subst hv
  obtain ⟨et, hut⟩ : ∃ et, P.underlying t = some (.slice et) := by
    unfold elemTy at hu
    split at hu
    · exact ⟨_, ‹_›⟩
    · cases hu
  unfold Op.equal Op.maxDepth Op.equalIn
  rw [Sem.run_bind, run_underlying hut]
  cases a <;> rfl

theorem does_nil {op : BinOp} {t t' : TypeId} {x y : Operand} (h : Inv κ Φ B au s a w) (ho : o.op = .binOp op t x y t') (hy : isNilC y = true) (hk : nilK P op t (ev P t s x) fun v => K (s.put o.dst v)) : Does P κ o a w K := by
  have hyv : a.eval y = .slice none 0 0 := by
    unfold isNilC at hy
    split at hy
    · rfl
    · cases hy
  obtain ⟨hu, hk⟩ := hk
  have hx := ev_rep (P := P) h t x
  have fin : ∀ (ad : Option Addr) n c, a.eval x = .slice ad n c → ((op = .eql ∧ K (s.put o.dst (.d (.bool ad.isNone)))) ∨ (op = .neq ∧ K (s.put o.dst (.d (.bool !ad.isNone))))) → Does P κ o a w K := by
    intro ad n c e hc
    have hg : (eqGuard op t x y (a.eval x) (a.eval y)).run P w = .ok () w := by
      rw [e]; exact run_eqGuard_plain (by simp) (by simp)
    rcases hc with ⟨rfl, hc⟩ | ⟨rfl, hc⟩
    · refine does_plain h (run_bin ho hg ?_) (.d (.bool _)) (fun _ => trivial) hc
      have h2 := run_eq_nil (w := w) hu e
      rw [hyv]; rw [e] at h2 ⊢
      show (do pure (.bool (← Op.equal t (.slice ad n c) (.slice none 0 0))) : Sem Value).run P w = _
      rw [Sem.run_bind, h2]; rfl
    · refine does_plain h (run_bin ho hg ?_) (.d (.bool _)) (fun _ => trivial) hc
      have h2 := run_eq_nil (w := w) hu e
      rw [hyv]; rw [e] at h2 ⊢
      show (do pure (.bool !(← Op.equal t (.slice ad n c) (.slice none 0 0))) : Sem Value).run P w = _
      rw [Sem.run_bind, h2]; rfl
  have sl : ∀ (l : Bool) z xs, RepD Φ (.sl l z xs) (a.eval x) → ∃ ad n c, a.eval x = .slice ad n c ∧ (xs ≠ [] → ad.isNone = false) := by
    intro l z xs q
    obtain ⟨ad, c, q1, _, q2⟩ := q.sl_inv'
    exact ⟨ad, _, c, q1, fun hn => by obtain ⟨b, o, e⟩ := q2 hn; rw [e]; rfl⟩
  split at hk
  · rename_i ex
    rw [ex] at hx
    generalize hv : a.eval x = v at hx
    cases hx with | d q =>
    obtain ⟨ad, n, c, e, q2⟩ := sl _ _ _ (hv ▸ q)
    refine fin ad n c e (.inl ⟨rfl, ?_⟩)
    rename_i xs
    by_cases hn : xs = []
    · exact hk.2 hn _
    · rw [q2 hn]; exact hk.1 hn
  · rename_i ex
    rw [ex] at hx
    generalize hv : a.eval x = v at hx
    cases hx with | own q =>
    obtain ⟨ad, n, c, e, q2⟩ := sl _ _ _ (hv ▸ q)
    refine fin ad n c e (.inl ⟨rfl, ?_⟩)
    rename_i xs
    by_cases hn : xs = []
    · exact hk.2 hn _
    · rw [q2 hn]; exact hk.1 hn
  · rename_i ex
    rw [ex] at hx
    generalize hv : a.eval x = v at hx
    cases hx with | d q =>
    obtain ⟨ad, n, c, e, q2⟩ := sl _ _ _ (hv ▸ q)
    refine fin ad n c e (.inr ⟨rfl, ?_⟩)
    rename_i xs
    by_cases hn : xs = []
    · exact hk.2 hn _
    · rw [q2 hn]; exact hk.1 hn
  · rename_i ex
    rw [ex] at hx
    generalize hv : a.eval x = v at hx
    cases hx with | own q =>
    obtain ⟨ad, n, c, e, q2⟩ := sl _ _ _ (hv ▸ q)
    refine fin ad n c e (.inr ⟨rfl, ?_⟩)
    rename_i xs
    by_cases hn : xs = []
    · exact hk.2 hn _
    · rw [q2 hn]; exact hk.1 hn
  · rename_i ex
    rw [ex] at hx
    generalize hv : a.eval x = v at hx
    cases hx with
    | ref hb hc hd =>
      rename_i cap b ad
      refine fin ad _ _ hv (.inl ⟨rfl, ?_⟩)
      rcases Nat.eq_zero_or_pos cap with h0 | h0
      · exact hk.2 h0 _
      · rw [hd h0]; exact hk.1 h0
    | ref0 => exact fin _ _ _ hv (.inl ⟨rfl, hk.2 rfl _⟩)
  · rename_i ex
    rw [ex] at hx
    generalize hv : a.eval x = v at hx
    cases hx with
    | ref hb hc hd =>
      rename_i cap b ad
      refine fin ad _ _ hv (.inr ⟨rfl, ?_⟩)
      rcases Nat.eq_zero_or_pos cap with h0 | h0
      · exact hk.2 h0 _
      · rw [hd h0]; exact hk.1 h0
    | ref0 => exact fin _ _ _ hv (.inr ⟨rfl, hk.2 rfl _⟩)
  · rename_i ex
    rw [ex] at hx
    generalize hv : a.eval x = v at hx
    cases hx with | nil => exact fin _ _ _ hv (.inl ⟨rfl, hk _⟩)
  · rename_i ex
    rw [ex] at hx
    generalize hv : a.eval x = v at hx
    cases hx with | nil => exact fin _ _ _ hv (.inr ⟨rfl, hk _⟩)
  · exact hk.elim

theorem does_binOp {op : BinOp} {t t' : TypeId} {x y : Operand} {r : List Oper} (h : Inv κ Φ B au s a w) (ho : o.op = .binOp op t x y t') (hk : stepK P o r s K) : Does P κ o a w K := by
  simp only [stepK, ho] at hk
  cases hy : isNilC y with
  | true => rw [hy] at hk; exact does_nil h ho hy hk
  | false =>
  rw [hy] at hk
  simp only [cond_false] at hk
  unfold binK at hk
  split at hk
  · rename_i k n k' m e1 e2
    have h1 := repD_int (ev_d h e1)
    have h2 := repD_int (ev_d h e2)
    have hg : (eqGuard op t x y (a.eval x) (a.eval y)).run P w = .ok () w := by
      rw [h1]; exact run_eqGuard_plain (by simp) (by simp)
    split at hk
    · obtain ⟨rfl, hm, hk⟩ := hk
      refine does_plain h (run_bin ho hg ?_) (.d (.int _ _)) (fun _ => trivial) hk
      rw [h1, h2]; simp [binOp, Op.intDiv, hm, pure, Sem.run]
    · obtain ⟨rfl, hm, hk⟩ := hk
      refine does_plain h (run_bin ho hg ?_) (.d (.int _ _)) (fun _ => trivial) hk
      rw [h1, h2]; simp [binOp, Op.intDiv, hm, pure, Sem.run]
    · obtain ⟨hm, hk⟩ := hk
      refine does_plain h (run_bin ho hg ?_) (.d (.int _ _)) (fun _ => trivial) hk
      rw [h1, h2]; simp [binOp, Op.shift, Int.not_lt.2 hm, pure, Sem.run]
    · obtain ⟨hm, hk⟩ := hk
      refine does_plain h (run_bin ho hg ?_) (.d (.int _ _)) (fun _ => trivial) hk
      rw [h1, h2]; simp [binOp, Op.shift, Int.not_lt.2 hm, pure, Sem.run]
    · split at hk
      · rename_i d ed
        obtain ⟨rfl, hk⟩ := hk
        obtain ⟨v, g1, g2⟩ := run_intOp (P := P) (Φ := Φ) (w := w) (t := t) ed
        refine does_plain h (run_bin ho hg ?_) (.d g2) (fun _ => trivial) hk
        rw [h1, h2]; exact g1
      · exact hk.elim
  · rename_i p q e1 e2
    have h1 := repD_bool (ev_d h e1)
    have h2 := repD_bool (ev_d h e2)
    have hg : (eqGuard op t x y (a.eval x) (a.eval y)).run P w = .ok () w := by
      rw [h1]; exact run_eqGuard_plain (by simp) (by simp)
    split at hk
    · obtain ⟨hu, hk⟩ := hk
      refine does_plain h (run_bin ho hg ?_) (.d (.bool _)) (fun _ => trivial) hk
      rw [h1, h2]
      show (do pure (.bool (← Op.equal t (.bool p) (.bool q))) : Sem Value).run P w = _
      rw [Sem.run_bind]
      unfold Op.equal Op.maxDepth Op.equalIn
      rw [Sem.run_bind, run_underlying hu]; simp [pure, Sem.run]
    · obtain ⟨hu, hk⟩ := hk
      refine does_plain h (run_bin ho hg ?_) (.d (.bool _)) (fun _ => trivial) hk
      rw [h1, h2]
      show (do pure (.bool !(← Op.equal t (.bool p) (.bool q))) : Sem Value).run P w = _
      rw [Sem.run_bind]
      unfold Op.equal Op.maxDepth Op.equalIn
      rw [Sem.run_bind, run_underlying hu]; simp [pure, Sem.run, bne]
    · exact hk.elim
  · rename_i p q e1 e2
    have h1 := repD_str (ev_d h e1)
    have h2 := repD_str (ev_d h e2)
    have hg : (eqGuard op t x y (a.eval x) (a.eval y)).run P w = .ok () w := by
      rw [h1]; exact run_eqGuard_plain (by simp) (by simp)
    split at hk
    · refine does_plain h (run_bin ho hg ?_) (.d (.bool _)) (fun _ => trivial) hk
      rw [h1, h2]; rfl
    · refine does_plain h (run_bin ho hg ?_) (.d (.bool _)) (fun _ => trivial) hk
      rw [h1, h2]; rfl
    · refine does_plain h (run_bin ho hg ?_) (.d (.bool _)) (fun _ => trivial) hk
      rw [h1, h2]; rfl
    · obtain ⟨hm, hk⟩ := hk
      refine does_plain h (run_bin ho hg ?_) (.d (.str _)) (fun _ => trivial) hk
      rw [h1, h2]
      show (Op.stringOp .add p q).run P w = _
      unfold Op.stringOp
      simp only
      rw [if_neg]
      · rfl
      · have : IntKind.i64.max = 9223372036854775807 := by decide
        rw [this]; omega
    · exact hk.elim
  · rename_i xs ys e1 e2
    obtain ⟨hgd, hkd, hk⟩ := hk
    have h1 := ev_d h e1
    have h2 := ev_d h e2
    generalize hu : a.eval x = u at h1
    generalize hv : a.eval y = v at h2
    cases h1 with
    | agg l1 =>
      cases h2 with
      | agg l2 =>
        rename_i us vs
        cases hle : leafOffs P 8 t with
        | none => simp [hle] at hk
        | some l =>
          simp only [hle, Option.bind_some] at hk
          have hg : (eqGuard op t x y (a.eval x) (a.eval y)).run P w = .ok () w := by
            rw [hu, hv]
            cases op <;> first | rfl | (simp [eqGuard, Sem.run_bind, run_program, hgd]; done)
          have hstruct : ∃ fs, P.underlying t = some (.struct fs) := by
            simp only [leafOffs] at hle
            cases hut : P.underlying t with
            | none => simp [hut] at hle
            | some td =>
              simp only [hut] at hle
              simp only [kindD, hut] at hkd
              cases td <;> simp at hle hkd
              exact ⟨_, rfl⟩
          obtain ⟨fs, hfs⟩ := hstruct
          have hxs : ∀ r, eqAt xs ys l = some r → (Op.equal t (.agg us.toArray) (.agg vs.toArray)).run P w = .ok r w := fun r he =>
            (run_equalIn_plain 8 t l hle Op.maxDepth (by decide) r).1 xs ys us vs fs hfs l1 l2 he
          split at hk
          · rename_i r' hr'
            refine does_plain h (run_bin ho hg ?_) (.d (.bool _)) (fun _ => trivial) hk
            rw [hu, hv]
            show (do pure (.bool (← Op.equal t (.agg us.toArray) (.agg vs.toArray))) : Sem Value).run P w = _
            rw [Sem.run_bind, hxs _ hr']; rfl
          · rename_i r' hr'
            refine does_plain h (run_bin ho hg ?_) (.d (.bool _)) (fun _ => trivial) hk
            rw [hu, hv]
            show (do pure (.bool !(← Op.equal t (.agg us.toArray) (.agg vs.toArray))) : Sem Value).run P w = _
            rw [Sem.run_bind, hxs _ hr']; rfl
          · exact hk.elim
  · split at hk
    · rename_i r' er
      obtain ⟨hp, hk⟩ := hk
      obtain ⟨el, hu⟩ : ∃ el, P.underlying t = some (.pointer el) := by
        unfold isPtr at hp
        split at hp
        · exact ⟨_, ‹_›⟩
        · cases hp
      have key : ∃ p q, a.eval x = .pointer p ∧ a.eval y = .pointer q ∧ (∀ w, (Op.equal t (a.eval x) (a.eval y)).run P w = .ok r' w) := by
        have hx := ev_rep (P := P) h t x
        have hy := ev_rep (P := P) h t y
        generalize ev P t s x = X at hx er
        generalize ev P t s y = Y at hy er
        generalize a.eval x = u at hx
        generalize a.eval y = v at hy
        have e1 : ∀ q w, (Op.equal t (.pointer none) (.pointer q)).run P w = .ok q.isNone w := fun q w => by
          unfold Op.equal Op.maxDepth Op.equalIn
          rw [Sem.run_bind, run_underlying hu]; rfl
        have e2 : ∀ q w, (Op.equal t (.pointer (some q)) (.pointer none)).run P w = .ok false w := fun q w => by
          unfold Op.equal Op.maxDepth Op.equalIn
          rw [Sem.run_bind, run_underlying hu]; rfl
        unfold ptrEq at er
        split at er
        · injection er with er; subst er
          cases hx with | d hx => cases hx with | con _ _ => cases hy with | d hy => cases hy with | con _ _ => exact ⟨_, _, rfl, rfl, e1 _⟩
        · injection er with er; subst er
          cases hx with | ptr _ => cases hy with | d hy => cases hy with | con _ _ => exact ⟨_, _, rfl, rfl, e2 _⟩
        · injection er with er; subst er
          cases hx with | aptr _ => cases hy with | d hy => cases hy with | con _ _ => exact ⟨_, _, rfl, rfl, e2 _⟩
        · injection er with er; subst er
          cases hy with | ptr _ => cases hx with | d hx => cases hx with | con _ _ => exact ⟨_, _, rfl, rfl, e1 _⟩
        · injection er with er; subst er
          cases hy with | aptr _ => cases hx with | d hx => cases hx with | con _ _ => exact ⟨_, _, rfl, rfl, e1 _⟩
        · cases er
      obtain ⟨p, q, e1, e2, e3⟩ := key
      have hg : (eqGuard op t x y (a.eval x) (a.eval y)).run P w = .ok () w := by
        rw [e1]; exact run_eqGuard_plain (by simp) (by simp)
      split at hk
      · refine does_plain h (run_bin ho hg ?_) (.d (.bool _)) (fun _ => trivial) hk
        rw [e1, e2] at e3 ⊢
        show (do pure (.bool (← Op.equal t (.pointer p) (.pointer q))) : Sem Value).run P w = _
        rw [Sem.run_bind, e3]; rfl
      · refine does_plain h (run_bin ho hg ?_) (.d (.bool _)) (fun _ => trivial) hk
        rw [e1, e2] at e3 ⊢
        show (do pure (.bool !(← Op.equal t (.pointer p) (.pointer q))) : Sem Value).run P w = _
        rw [Sem.run_bind, e3]; rfl
      · exact hk.elim
    · exact hk.elim

theorem does_unOp {op : UnOp} {t : TypeId} {x : Operand} {r : List Oper} (h : Inv κ Φ B au s a w) (ho : o.op = .unOp op t x) (hk : stepK P o r s K) : Does P κ o a w K := by
  simp only [stepK, ho] at hk
  split at hk
  · rename_i b e
    have h1 := repD_bool (ev_d h e)
    refine does_plain h ?_ (.d (.bool _)) (fun _ => trivial) hk
    unfold execOp; rw [ho]; refine run_v ?_
    simp only [h1]; rfl
  · rename_i k n e
    have h1 := repD_int (ev_d h e)
    refine does_plain h ?_ (.d (.int _ _)) (fun _ => trivial) hk
    unfold execOp; rw [ho]; refine run_v ?_
    simp only [h1]; rfl
  · rename_i k n e
    have h1 := repD_int (ev_d h e)
    refine does_plain h ?_ (.d (.int _ _)) (fun _ => trivial) hk
    unfold execOp; rw [ho]; refine run_v ?_
    simp only [h1]; rfl
  · exact hk.elim

theorem does_convert {src dst : TypeId} {x : Operand} {r : List Oper} (h : Inv κ Φ B au s a w) (ho : o.op = .convert src dst x) (hk : stepK P o r s K) : Does P κ o a w K := by
  simp only [stepK, ho] at hk
  split at hk
  · rename_i k n e
    have h1 := repD_int (ev_d h e)
    split at hk
    · rename_i k' hd
      obtain ⟨hs, hk⟩ := hk
      obtain ⟨sd, hs⟩ := Option.isSome_iff_exists.1 hs
      refine does_plain h ?_ (.d (.int _ _)) (fun _ => trivial) hk
      unfold execOp; rw [ho]; refine run_v ?_
      simp only [h1]
      unfold convert
      rw [Sem.run_bind, run_underlying hs]; simp only [Result.andThen_ok]
      rw [Sem.run_bind, run_underlying hd]; simp only [Result.andThen_ok]
      cases sd <;> rfl
    · exact hk.elim
  · rename_i b e
    have h1 := repD_str (ev_d h e)
    obtain ⟨hd, hs, hk⟩ := hk
    refine does_plain h ?_ (.d (.str _)) (fun _ => trivial) hk
    unfold execOp; rw [ho]; refine run_v ?_
    simp only [h1]
    unfold convert
    rw [Sem.run_bind, run_underlying hs]; simp only [Result.andThen_ok]
    rw [Sem.run_bind, run_underlying hd]; rfl
  · exact hk.elim

theorem does_makeFunc {f : Fn} {fs caps : Array Operand} {r : List Oper} (h : Inv κ Φ B au s a w) (ho : o.op = .makeFunc f fs caps) (hk : stepK P o r s K) : Does P κ o a w K := by
  simp only [stepK, ho] at hk
  obtain ⟨rfl, hk⟩ := hk
  refine does_plain (v := .func f #[] (caps.toList.map a.eval).toArray) h ?_ (.fn (RepSL.of (by simp) fun j d c hd hc => ?_)) (fun _ => trivial) hk
  · unfold execOp; rw [ho]; refine run_v ?_
    unfold Instr.makeFunc
    have : Array.map a.eval caps = (List.map a.eval caps.toList).toArray := by cases caps; simp
    have e0 : Array.map a.eval #[] = #[] := by simp
    rw [this, e0]; rfl
  · simp only [List.getElem?_map, Option.map_eq_some_iff] at hd hc
    obtain ⟨x, hx, rfl⟩ := hd
    obtain ⟨y, hy, rfl⟩ := hc
    rw [hx] at hy; injection hy with hy; subst hy
    exact (ev_rep h 0 x).cp

theorem does_extract {x : Operand} {ix : Nat} {r : List Oper} (h : Inv κ Φ B au s a w) (ho : o.op = .extract x ix) (hk : stepK P o r s K) : Does P κ o a w K := by
  simp only [stepK, ho] at hk
  split at hk
  · rename_i vs e
    split at hk
    · rename_i V eV
      obtain ⟨hnt, hk⟩ := hk
      cases x with
      | tmp i =>
        have e' : s.tm.getD i .un = .tup vs := e
        obtain ⟨g1, g2⟩ := tm_get h i
        rw [e'] at g1 g2
        generalize hv : a.tmps.getD i undef = v at g1 g2
        cases g1 with
        | tup hl =>
          rename_i cs
          obtain ⟨q1, q2⟩ := hl.get
          have hix : ix < cs.length := by rw [← q1]; exact (List.getElem?_eq_some_iff.1 eV).1
          have hc : cs[ix]? = some cs[ix] := List.getElem?_eq_getElem hix
          have hrep := q2 ix V _ eV hc
          have hx : (execOp a.eval o).run P w = .ok (.value cs[ix]) w := by
            unfold execOp; rw [ho]; refine run_v ?_
            show (Instr.extract (a.tmps.getD i undef) ix).run P w = _
            rw [hv]; unfold Instr.extract
            simp [hix]
          -- what the component owns goes over to the place
          have hstrip : ∀ au', (∀ j b st, j ≠ ix → au b = some (.slot i j, st) → au' b = some (.slot i j, st)) → RepS Φ B (.tup (vs.set ix V.cp)) (.tuple cs.toArray) ∧ OwnV au' w (.slot i) (.tup (vs.set ix V.cp)) (.tuple cs.toArray) := by
            intro au' hau
            refine ⟨.tup (RepSL.of (by simpa using q1) fun j d c hd hcj => ?_), ?_⟩
            · rw [List.getElem?_set] at hd
              split at hd
              · rename_i ej; subst ej
                split at hd
                · injection hd with hd; subst hd
                  rw [hc] at hcj; injection hcj with hcj; subst hcj
                  exact hrep.cp
                · cases hd
              · exact q2 j d c hd hcj
            · constructor
              · rintro j z xs cs' c ecs hd hcj
                injection ecs with ecs; subst ecs
                rw [List.getElem?_set] at hd
                split at hd
                · rename_i ej; subst ej
                  split at hd
                  · injection hd with hd
                    cases V <;> simp [Idl.V.cp] at hd
                  · cases hd
                · rename_i ej
                  exact (g2.1 j z xs _ c rfl hd hcj).mono fun b st hh => ⟨hau j b st (Ne.symm ej) hh, rfl⟩
              · rintro j z xs cs' c ecs hd hcj
                injection ecs with ecs; subst ecs
                rw [List.getElem?_set] at hd
                split at hd
                · rename_i ej; subst ej
                  split at hd
                  · injection hd with hd
                    cases V <;> simp [Idl.V.cp] at hd
                  · cases hd
                · rename_i ej
                  exact (g2.2 j z xs _ c rfl hd hcj).mono fun b st hh => ⟨hau j b st (Ne.symm ej) hh, rfl⟩
          cases hd : o.dst with
          | none =>
            rw [hd] at hk
            refine does_value hx hk ⟨Φ, B, au, ?_⟩
            rw [hd]
            refine h.islot i fun V' v' hV' hv' => ?_
            have : v' = .tuple cs.toArray := by
              rw [← hv]; simp [Array.getD, (Array.getElem?_eq_some_iff.1 hv').1, (Array.getElem?_eq_some_iff.1 hv').2]
            subst this
            exact hstrip au fun _ _ _ _ e => e
          | some d =>
            rw [hd] at hk
            let au' : Auth := fun b => match au b with
              | some (.slot k j, st) => if k = i ∧ j = ix then some (.slot d 0, st) else some (.slot k j, st)
              | x => x
            have au_none : ∀ b, au b = none → au' b = none := fun b e => by simp only [au', e]
            have au_inv : ∀ b h0 st, au' b = some (h0, st) → ∃ h1, au b = some (h1, st) := by
              intro b h0 st e
              simp only [au'] at e
              split at e
              · rename_i e2; split at e <;> (injection e with e; injection e with _ e; subst e; exact ⟨_, e2⟩)
              · exact ⟨_, e⟩
            have au_other : ∀ b h0 st, au b = some (h0, st) → h0 ≠ .slot i ix → au' b = some (h0, st) := by
              intro b h0 st e hn
              simp only [au', e]
              cases h0 with
              | slot k j => simp only; rw [if_neg]; rintro ⟨rfl, rfl⟩; exact hn rfl
              | cell _ _ => rfl
              | obj _ => rfl
            have au_same : ∀ b st, au b = some (.slot i ix, st) → au' b = some (.slot d 0, st) := by
              intro b st e; simp only [au', e]; simp
            -- first the tuple is stripped, under the new owners
            have hi : Inv κ Φ B au' { s with tm := s.tm.set i (.tup (vs.set ix V.cp)) } a w := by
              refine { h with phia := fun lb b o v h0 st hp ha => ?_, auw := fun b h0 st ha => ?_, tl := by simpa using h.tl, tm := fun k V' v' hV' hv' => ?_, hp := fun id o b ho hb => ?_, df := ?_ }
              · obtain ⟨h1, e⟩ := au_inv _ _ _ ha; exact h.phia _ b o v h1 st hp e
              · obtain ⟨h1, e⟩ := au_inv _ _ _ ha; exact h.auw b h1 st e
              · simp only [List.getElem?_set] at hV'
                by_cases ek : i = k
                · subst ek
                  have : v' = .tuple cs.toArray := by
                    rw [← hv]; simp [Array.getD, (Array.getElem?_eq_some_iff.1 hv').1, (Array.getElem?_eq_some_iff.1 hv').2]
                  subst this
                  have hl : i < s.tm.length := by
                    have := (Array.getElem?_eq_some_iff.1 hv').1; rw [h.tl]; exact this
                  simp [hl] at hV'; subst hV'
                  exact hstrip au' fun j b st hj e => au_other b _ st e (by intro hh; injection hh with _ hh; exact hj hh)
                · simp [ek] at hV'
                  obtain ⟨k1, k2⟩ := h.tm k V' v' hV' hv'
                  exact ⟨k1, k2.mono fun j b st hh => ⟨au_other b _ st hh (by intro hh'; injection hh' with hh' _; exact ek hh'.symm), rfl⟩⟩
              · exact (h.hp id o b ho hb).mono (CM.le_refl _) (fun _ _ h => h) (fun hh => ⟨au_other b _ _ hh (by simp), rfl⟩) (fun j b st hh => ⟨au_other b _ _ hh (by simp), rfl⟩)
              · obtain ⟨rs, h1, h2, h3⟩ := h.df
                exact ⟨rs, h1, h2, fun r hr => let ⟨x, y, z⟩ := h3 r hr; ⟨x, au_none _ y, z⟩⟩
            refine does_value hx hk ⟨Φ, B, au', ?_⟩
            rw [hd]
            refine hi.slot d hrep ?_
            cases V with
            | own z xs => exact (g2.1 ix z xs _ _ rfl eV (by simpa using hc)).mono fun b st hh => ⟨au_same b st hh, rfl⟩
            | hold z xs => exact (g2.2 ix z xs _ _ rfl eV (by simpa using hc)).mono fun b st hh => ⟨au_same b st hh, rfl⟩
            | tup ws => simp [Idl.V.isTup] at hnt
            | _ => trivial
      | const v => have := (constV_rep (P := P) (t := 0) (v := v) (Φ := Φ) (B := B) (au := au) (w := w) (h := fun _ => .obj 0)).2.2.2; simp only [ev] at e; rw [e] at this; cases this
      | «global» g => cases e
      | func f => cases e
    · exact hk.elim
  · exact hk.elim

end
end Go.Idl
end
