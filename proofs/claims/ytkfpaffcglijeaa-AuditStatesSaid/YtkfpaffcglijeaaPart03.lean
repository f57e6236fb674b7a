/- One operation. Part 5: arithmetic, comparisons, conversions, functions, tuples, slicing.; One operation. Part 6: slices: slicing, literals, make, append.; One operation. Part 7: slicing, literals, make. -/
import Derived.Laws.StructEq
import Derived.Laws.Append
import Derived.Test.YtkfpaffcglijeaaPart02
set_option linter.all false
section
namespace Go.Idl

section
variable {P : Program} {κ : Ctx} {Φ : CM} {B : List Nat} {au : Auth} {s : St} {a : Act} {w : World} {K : St → Prop} {o : Oper}

theorem run_intOp {op : BinOp} {t : TypeId} {k : IntKind} {x y : Int} {d : D} (e : intOp op k x y = some d) : ∃ v, (binOp op t (.int k x) (.int k y)).run P w = .ok v w ∧ RepD Φ d v := by
  cases op <;> simp [intOp] at e <;> subst e
  · exact ⟨_, by simp [binOp, Op.intArith, pure, Sem.run], .int _ _⟩
  · exact ⟨_, by simp [binOp, Op.intArith, pure, Sem.run], .int _ _⟩
  · exact ⟨_, by simp [binOp, Op.intArith, pure, Sem.run], .int _ _⟩
  · exact ⟨_, by simp [binOp, Op.intBits, pure, Sem.run], .int _ _⟩
  · exact ⟨_, by simp [binOp, Op.intBits, pure, Sem.run], .int _ _⟩
  · exact ⟨_, by simp [binOp, Op.intBits, pure, Sem.run], .int _ _⟩
  · exact ⟨_, by simp [binOp, Op.intBits, pure, Sem.run], .int _ _⟩
  · refine ⟨.bool (decide (x = y)), ?_, .bool _⟩
    simp only [binOp, Op.intCmp, ne_eq, not_true_eq_false, if_false, Sem.run, pure]
    congr 2
  · refine ⟨.bool (!decide (x = y)), ?_, .bool _⟩
    simp only [binOp, Op.intCmp, ne_eq, not_true_eq_false, if_false, Sem.run, pure]
    congr 2
  all_goals
    refine ⟨_, ?_, .bool _⟩
    simp only [binOp, Op.intCmp, ne_eq, not_true_eq_false, if_false, Sem.run, pure]

theorem run_eqGuard_plain {op : BinOp} {t : TypeId} {x y : Operand} {u v : Value} (h1 : ∀ xs, u ≠ .agg xs) (h2 : u ≠ .nilIface) : (eqGuard op t x y u v).run P w = .ok () w := by
  cases u <;> first | exact absurd rfl h2 | exact absurd rfl (h1 _) | (cases op <;> rfl)

theorem run_bin {op : BinOp} {t t' : TypeId} {x y : Operand} {v : Value} (ho : o.op = .binOp op t x y t') (hg : (eqGuard op t x y (a.eval x) (a.eval y)).run P w = .ok () w) (hb : (binOp op t (a.eval x) (a.eval y)).run P w = .ok v w) :
    (execOp a.eval o).run P w = .ok (.value v) w := by
  unfold execOp; rw [ho]; refine run_v ?_
  rw [Sem.run_bind, hg]; simp only [Result.andThen_ok]; exact hb

theorem eqAt_append {xs ys : List D} : ∀ {l l' : List (Nat × Nat)} {r : Bool}, eqAt xs ys (l ++ l') = some r → ∃ r1 r2, eqAt xs ys l = some r1 ∧ eqAt xs ys l' = some r2 ∧ r = (r1 && r2)
  | [], l', r, h => ⟨true, r, rfl, h, by simp⟩
  | (i, k) :: l, l', r, h => by
    simp only [List.cons_append, eqAt] at h
    split at h <;> simp at h
    · rename_i j x k' y t e1 e2 e3
      obtain ⟨r1, r2, g1, g2, rfl⟩ := eqAt_append e3
      obtain ⟨rfl, h⟩ := h
      refine ⟨(decide (x = y) && r1), r2, ?_, g2, by rw [← h, Bool.and_assoc]⟩
      simp [eqAt, e1, e2, g1]
    · rename_i x y t e1 e2 e3
      obtain ⟨r1, r2, g1, g2, rfl⟩ := eqAt_append e3
      refine ⟨((x == y) && r1), r2, ?_, g2, by rw [← h, Bool.and_assoc]⟩
      simp [eqAt, e1, e2, g1]
    · rename_i x y t e1 e2 e3
      obtain ⟨r1, r2, g1, g2, rfl⟩ := eqAt_append e3
      refine ⟨((x == y) && r1), r2, ?_, g2, by rw [← h, Bool.and_assoc]⟩
      simp [eqAt, e1, e2, g1]

theorem eqAt_congr {xs ys xs' ys' : List D} {f : Nat → Nat} : ∀ {l : List (Nat × Nat)}, (∀ p ∈ l, xs[f p.1]? = xs'[p.1]? ∧ ys[f p.1]? = ys'[p.1]?) → eqAt xs ys (l.map fun p => (f p.1, p.2)) = eqAt xs' ys' l
  | [], _ => rfl
  | (i, k) :: l, h => by
    have h1 := h (i, k) (by simp)
    simp only [List.map_cons, eqAt, eqAt_congr (l := l) (fun p hp => h p (by simp [hp])), h1.1, h1.2]

theorem repL_sub {ds : List D} {cs : List Value} (hl : RepL Φ ds cs) (j n : Nat) : RepD Φ (.agg ((ds.drop j).take n)) (.agg (cs.toArray.extract j (j + n))) := by
  obtain ⟨h1, h2⟩ := hl.get
  have : cs.toArray.extract j (j + n) = ((cs.drop j).take n).toArray := by simp [List.extract_eq_take_drop]
  rw [this]
  refine .agg (RepL.of (by simp [h1]) fun k d c hd hc => ?_)
  rw [List.getElem?_take] at hd hc
  split at hd
  · rename_i hk; simp only [hk, if_true] at hc; rw [List.getElem?_drop] at hd hc; exact h2 _ d c hd hc
  · cases hd

theorem eqFields_cons {d : Nat} {xs ys : Array Value} {f : Field} {fs : List Field} {u v : Value} {r s' : Bool} (hn : f.name ≠ "_") (ha : (part f.type xs f.offset).run P w = .ok u w) (hb : (part f.type ys f.offset).run P w = .ok v w)
    (he : (Op.equalIn d f.type u v).run P w = .ok r w) (hr : (Op.eqFields d xs ys fs).run P w = .ok s' w) : (Op.eqFields d xs ys (f :: fs)).run P w = .ok (r && s') w := by
  rw [Op.eqFields]
  simp only [if_pos hn, Sem.run_bind, ha, hb, he, Result.andThen_ok]
  cases r
  · simp
  · simpa using hr

theorem eqAt_int {x y : D} {r : Bool} (h : eqAt [x] [y] [(0, 0)] = some r) : ∃ k n m, x = .int k n ∧ y = .int k m ∧ r = decide (n = m) := by
  cases x <;> cases y <;> simp [eqAt] at h
  obtain ⟨rfl, h⟩ := h
  exact ⟨_, _, _, rfl, rfl, h.symm⟩
theorem eqAt_bool {x y : D} {r : Bool} (h : eqAt [x] [y] [(0, 1)] = some r) : ∃ n m, x = .bool n ∧ y = .bool m ∧ r = (n == m) := by
  cases x <;> cases y <;> simp [eqAt] at h
  exact ⟨_, _, rfl, rfl, h.symm⟩
theorem eqAt_str {x y : D} {r : Bool} (h : eqAt [x] [y] [(0, 2)] = some r) : ∃ n m, x = .str n ∧ y = .str m ∧ r = (n == m) := by
  cases x <;> cases y <;> simp [eqAt] at h
  exact ⟨_, _, rfl, rfl, h.symm⟩

/-- Structs of plain leaves: compared leaf by leaf. -/
theorem run_equalIn_plain : ∀ (n : Nat) (t : TypeId) (l : List (Nat × Nat)), leafOffs P n t = some l → ∀ (d : Nat), n ≤ d → ∀ (r : Bool),
    (∀ (xs ys : List D) (us vs : List Value) (fs : Array Field), P.underlying t = some (.struct fs) → RepL Φ xs us → RepL Φ ys vs → eqAt xs ys l = some r → (Op.equalIn d t (.agg us.toArray) (.agg vs.toArray)).run P w = .ok r w) ∧
    (∀ (x y : D) (u v : Value), (∀ fs, P.underlying t ≠ some (.struct fs)) → RepD Φ x u → RepD Φ y v → eqAt [x] [y] l = some r → (Op.equalIn d t u v).run P w = .ok r w)
  | 0, _, _, h, _, _, _ => by simp [leafOffs] at h
  | n + 1, t, l, h, d, hd, r => by
    obtain ⟨d, rfl⟩ : ∃ d', d = d' + 1 := ⟨d - 1, by omega⟩
    simp only [leafOffs] at h
    cases hu : P.underlying t with
    | none => simp [hu] at h
    | some td =>
      simp only [hu] at h
      refine ⟨fun xs ys us vs fs ht hx hy he => ?_, fun x y u v ht hx hy he => ?_⟩
      · injection ht with ht; subst ht
        simp only at h
        split at h
        · cases h
        · rename_i hst
          have hfo : P.fieldsOf t = fs := by simp [Program.fieldsOf, hu]
          rw [run_equalIn_struct (P := P) w d t us.toArray vs.toArray (by rw [hfo]; exact hu) (by simpa using hst), hfo]
          have key : ∀ (fl : List Field) (l : List (Nat × Nat)) (r : Bool), fl.foldr (fun f acc => match leafOffs P n f.type, acc, P.info? f.type with
              | some l, some r, some i => if f.name = "_" ∨ l.all (fun x => decide (x.1 < i.size)) = false then none else some (l.map (fun x => (f.offset + x.1, x.2)) ++ r)
              | _, _, _ => none) (some []) = some l → eqAt xs ys l = some r → (Op.eqFields d us.toArray vs.toArray fl).run P w = .ok r w := by
            intro fl
            induction fl with
            | nil => intro l r h1 h2; simp at h1; subst h1; simp [eqAt] at h2; subst h2; simp [Op.eqFields]
            | cons f fl ih =>
              intro l r h1 h2
              simp only [List.foldr_cons] at h1
              split at h1
              · rename_i l1 l2 i e1 e2 e3
                split at h1
                · cases h1
                · rename_i hcond
                  injection h1 with h1; subst h1
                  obtain ⟨r1, r2, g1, g2, rfl⟩ := eqAt_append h2
                  have hname : f.name ≠ "_" := fun hh => hcond (.inl hh)
                  have hall : ∀ p ∈ l1, p.1 < i.size := by
                    intro p hp
                    have : l1.all (fun x => decide (x.1 < i.size)) = true := by
                      cases hb : l1.all (fun x => decide (x.1 < i.size)) with
                      | true => rfl
                      | false => exact absurd (.inr hb) hcond
                    simpa using List.all_eq_true.1 this p hp
                  obtain ⟨ih1, ih2⟩ := run_equalIn_plain n f.type l1 e1 d (by omega) r1
                  by_cases hstr : ∃ gs, P.underlying f.type = some (.struct gs)
                  · obtain ⟨gs, hgs⟩ := hstr
                    have hagg : (isAgg f.type).run P w = .ok true w := by
                      unfold isAgg; rw [Sem.run_bind, run_underlying hgs]; rfl
                    have hpart : ∀ cs : List Value, (part f.type cs.toArray f.offset).run P w = .ok (.agg (cs.toArray.extract f.offset (f.offset + i.size))) w := by
                      intro cs
                      unfold part; rw [Sem.run_bind, hagg]; simp only [Result.andThen_ok, if_true]
                      rw [Sem.run_bind, run_sizeOf e3]; rfl
                    refine eqFields_cons hname (hpart us) (hpart vs) ?_ (ih l2 r2 e2 g2)
                    have e5 := repL_sub hx f.offset i.size
                    have e6 := repL_sub hy f.offset i.size
                    generalize hA : us.toArray.extract f.offset (f.offset + i.size) = A at e5
                    generalize hB : vs.toArray.extract f.offset (f.offset + i.size) = B' at e6
                    have hA' : A = A.toList.toArray := by simp
                    have hB' : B' = B'.toList.toArray := by simp
                    rw [hA', hB']
                    refine ih1 ((xs.drop f.offset).take i.size) ((ys.drop f.offset).take i.size) A.toList B'.toList gs hgs ?_ ?_ ?_
                    · cases e5 with | agg e5 => simpa using e5
                    · cases e6 with | agg e6 => simpa using e6
                    · rw [← g1]
                      refine (eqAt_congr (f := fun k => f.offset + k) fun p hp => ?_).symm
                      have := hall p hp
                      simp [List.getElem?_take, List.getElem?_drop, this]
                  · have hns : ∀ gs, P.underlying f.type ≠ some (.struct gs) := fun gs hgs => hstr ⟨gs, hgs⟩
                    have hl1 : ∃ k, l1 = [(0, k)] ∧ (isAgg f.type).run P w = .ok false w := by
                      cases n with
                      | zero => simp [leafOffs] at e1
                      | succ n =>
                        simp only [leafOffs] at e1
                        cases hu' : P.underlying f.type with
                        | none => simp [hu'] at e1
                        | some td' =>
                          have hisA : ∀ b, (match td' with | .struct _ | .array _ _ => true | _ => false) = b → (isAgg f.type).run P w = .ok b w := by
                            rintro b rfl
                            unfold isAgg; rw [Sem.run_bind, run_underlying hu']; cases td' <;> rfl
                          simp only [hu'] at e1
                          cases td' <;> simp at e1
                          · exact ⟨1, e1.symm, hisA _ rfl⟩
                          · exact ⟨0, e1.symm, hisA _ rfl⟩
                          · exact ⟨2, e1.symm, hisA _ rfl⟩
                          · exact absurd hu' (hns _)
                    obtain ⟨k, rfl, hagg⟩ := hl1
                    simp only [List.map_cons, List.map_nil, Nat.add_zero] at g1
                    -- the leaf is there
                    have hleaf : ∃ x y, xs[f.offset]? = some x ∧ ys[f.offset]? = some y := by
                      simp only [eqAt] at g1
                      split at g1 <;> first | exact ⟨_, _, ‹_›, ‹_›⟩ | cases g1
                    obtain ⟨x, y, hxo, hyo⟩ := hleaf
                    obtain ⟨q1, q2⟩ := hx.get
                    obtain ⟨p1, p2⟩ := hy.get
                    have hux : f.offset < us.length := by rw [← q1]; exact (List.getElem?_eq_some_iff.1 hxo).1
                    have huy : f.offset < vs.length := by rw [← p1]; exact (List.getElem?_eq_some_iff.1 hyo).1
                    have hpart : ∀ (cs : List Value) (hc : f.offset < cs.length), (part f.type cs.toArray f.offset).run P w = .ok cs[f.offset] w := by
                      intro cs hc
                      unfold part; rw [Sem.run_bind, hagg]; simp [hc]
                    refine eqFields_cons hname (hpart us hux) (hpart vs huy) ?_ (ih l2 r2 e2 g2)
                    refine ih2 x y _ _ hns (q2 _ x _ hxo (List.getElem?_eq_getElem hux)).2 (p2 _ y _ hyo (List.getElem?_eq_getElem huy)).2 ?_
                    rw [← g1]
                    simp only [eqAt, hxo, hyo, List.getElem?_cons_zero]
              · cases h1
          exact key fs.toList l r h he
      · unfold Op.equalIn
        rw [Sem.run_bind, run_underlying hu]; simp only [Result.andThen_ok]
        cases td <;> simp at h
        · subst h
          obtain ⟨n, m, rfl, rfl, rfl⟩ := eqAt_bool he
          cases hx; cases hy; rfl
        · subst h
          obtain ⟨k, n, m, rfl, rfl, rfl⟩ := eqAt_int he
          cases hx; cases hy
          simp only [if_true]; rfl
        · subst h
          obtain ⟨n, m, rfl, rfl, rfl⟩ := eqAt_str he
          cases hx; cases hy; rfl
        · exact absurd rfl (ht _)

theorem RepD.sl_inv' {Φ : CM} {lb : Bool} {z : Nat} {xs : List D} {v : Value} (h : RepD Φ (.sl lb z xs) v) : ∃ a cap, v = .slice a xs.length cap ∧ xs.length ≤ cap ∧
    (xs ≠ [] → ∃ b o, a = some ⟨b, o, none⟩) := by
  cases h with
  | sl0 => exact ⟨_, _, rfl, Nat.zero_le _, fun h => absurd rfl h⟩
  | sl h1 h2 h3 => exact ⟨_, _, rfl, h2, fun _ => ⟨_, _, rfl⟩⟩

theorem run_eq_nil {t : TypeId} {v : Value} {a : Option Addr} {n c : Nat} (hu : (elemTy P t).isSome = true) (hv : v = .slice a n c) : (Op.equal t v (.slice none 0 0)).run P w = .ok a.isNone w := by
  subst hv
  obtain ⟨et, hut⟩ : ∃ et, P.underlying t = some (.slice et) := by
    unfold elemTy at hu
    split at hu
    · exact ⟨_, ‹_›⟩
    · cases hu
  unfold Op.equal Op.maxDepth Op.equalIn
  rw [Sem.run_bind, run_underlying hut]
  cases a <;> rfl

theorem does_nil {op : BinOp} {t t' : TypeId} {x y : Operand} (h : Inv κ Φ B au s a w) (ho : o.op = .binOp op t x y t') (hy : isNilC y = true) (hk : nilK P op t (ev P t s x) fun v => K (s.put o.dst v)) : Does P κ o a w K := by
  have hyv : a.eval y = .slice none 0 0 := by
    unfold isNilC at hy
    split at hy
    · rfl
    · cases hy
  obtain ⟨hu, hk⟩ := hk
  have hx := ev_rep (P := P) h t x
  have fin : ∀ (ad : Option Addr) n c, a.eval x = .slice ad n c → ((op = .eql ∧ K (s.put o.dst (.d (.bool ad.isNone)))) ∨ (op = .neq ∧ K (s.put o.dst (.d (.bool !ad.isNone))))) → Does P κ o a w K := by
    intro ad n c e hc
    have hg : (eqGuard op t x y (a.eval x) (a.eval y)).run P w = .ok () w := by
      rw [e]; exact run_eqGuard_plain (by simp) (by simp)
    rcases hc with ⟨rfl, hc⟩ | ⟨rfl, hc⟩
    · refine does_plain h (run_bin ho hg ?_) (.d (.bool _)) (fun _ => trivial) hc
      have h2 := run_eq_nil (w := w) hu e
      rw [hyv]; rw [e] at h2 ⊢
      show (do pure (.bool (← Op.equal t (.slice ad n c) (.slice none 0 0))) : Sem Value).run P w = _
      rw [Sem.run_bind, h2]; rfl
    · refine does_plain h (run_bin ho hg ?_) (.d (.bool _)) (fun _ => trivial) hc
      have h2 := run_eq_nil (w := w) hu e
      rw [hyv]; rw [e] at h2 ⊢
      show (do pure (.bool !(← Op.equal t (.slice ad n c) (.slice none 0 0))) : Sem Value).run P w = _
      rw [Sem.run_bind, h2]; rfl
  have sl : ∀ (l : Bool) z xs, RepD Φ (.sl l z xs) (a.eval x) → ∃ ad n c, a.eval x = .slice ad n c ∧ (xs ≠ [] → ad.isNone = false) := by
    intro l z xs q
    obtain ⟨ad, c, q1, _, q2⟩ := q.sl_inv'
    exact ⟨ad, _, c, q1, fun hn => by obtain ⟨b, o, e⟩ := q2 hn; rw [e]; rfl⟩
  split at hk
  · rename_i ex
    rw [ex] at hx
    generalize hv : a.eval x = v at hx
    cases hx with | d q =>
    obtain ⟨ad, n, c, e, q2⟩ := sl _ _ _ (hv ▸ q)
    refine fin ad n c e (.inl ⟨rfl, ?_⟩)
    rename_i xs
    by_cases hn : xs = []
    · exact hk.2 hn _
    · rw [q2 hn]; exact hk.1 hn
  · rename_i ex
    rw [ex] at hx
    generalize hv : a.eval x = v at hx
    cases hx with | own q =>
    obtain ⟨ad, n, c, e, q2⟩ := sl _ _ _ (hv ▸ q)
    refine fin ad n c e (.inl ⟨rfl, ?_⟩)
    rename_i xs
    by_cases hn : xs = []
    · exact hk.2 hn _
    · rw [q2 hn]; exact hk.1 hn
  · rename_i ex
    rw [ex] at hx
    generalize hv : a.eval x = v at hx
    cases hx with | d q =>
    obtain ⟨ad, n, c, e, q2⟩ := sl _ _ _ (hv ▸ q)
    refine fin ad n c e (.inr ⟨rfl, ?_⟩)
    rename_i xs
    by_cases hn : xs = []
    · exact hk.2 hn _
    · rw [q2 hn]; exact hk.1 hn
  · rename_i ex
    rw [ex] at hx
    generalize hv : a.eval x = v at hx
    cases hx with | own q =>
    obtain ⟨ad, n, c, e, q2⟩ := sl _ _ _ (hv ▸ q)
    refine fin ad n c e (.inr ⟨rfl, ?_⟩)
    rename_i xs
    by_cases hn : xs = []
    · exact hk.2 hn _
    · rw [q2 hn]; exact hk.1 hn
  · rename_i ex
    rw [ex] at hx
    generalize hv : a.eval x = v at hx
    cases hx with
    | ref hb hc hd =>
      rename_i cap b ad
      refine fin ad _ _ hv (.inl ⟨rfl, ?_⟩)
      rcases Nat.eq_zero_or_pos cap with h0 | h0
      · exact hk.2 h0 _
      · rw [hd h0]; exact hk.1 h0
    | ref0 => exact fin _ _ _ hv (.inl ⟨rfl, hk.2 rfl _⟩)
  · rename_i ex
    rw [ex] at hx
    generalize hv : a.eval x = v at hx
    cases hx with
    | ref hb hc hd =>
      rename_i cap b ad
      refine fin ad _ _ hv (.inr ⟨rfl, ?_⟩)
      rcases Nat.eq_zero_or_pos cap with h0 | h0
      · exact hk.2 h0 _
      · rw [hd h0]; exact hk.1 h0
    | ref0 => exact fin _ _ _ hv (.inr ⟨rfl, hk.2 rfl _⟩)
  · rename_i ex
    rw [ex] at hx
    generalize hv : a.eval x = v at hx
    cases hx with | nil => exact fin _ _ _ hv (.inl ⟨rfl, hk _⟩)
  · rename_i ex
    rw [ex] at hx
    generalize hv : a.eval x = v at hx
    cases hx with | nil => exact fin _ _ _ hv (.inr ⟨rfl, hk _⟩)
  · exact hk.elim

theorem does_binOp {op : BinOp} {t t' : TypeId} {x y : Operand} {r : List Oper} (h : Inv κ Φ B au s a w) (ho : o.op = .binOp op t x y t') (hk : stepK P o r s K) : Does P κ o a w K := by
  simp only [stepK, ho] at hk
  cases hy : isNilC y with
  | true => rw [hy] at hk; exact does_nil h ho hy hk
  | false =>
  rw [hy] at hk
  simp only [cond_false] at hk
  unfold binK at hk
  split at hk
  · rename_i k n k' m e1 e2
    have h1 := repD_int (ev_d h e1)
    have h2 := repD_int (ev_d h e2)
    have hg : (eqGuard op t x y (a.eval x) (a.eval y)).run P w = .ok () w := by
      rw [h1]; exact run_eqGuard_plain (by simp) (by simp)
    split at hk
    · obtain ⟨rfl, hm, hk⟩ := hk
      refine does_plain h (run_bin ho hg ?_) (.d (.int _ _)) (fun _ => trivial) hk
      rw [h1, h2]; simp [binOp, Op.intDiv, hm, pure, Sem.run]
    · obtain ⟨rfl, hm, hk⟩ := hk
      refine does_plain h (run_bin ho hg ?_) (.d (.int _ _)) (fun _ => trivial) hk
      rw [h1, h2]; simp [binOp, Op.intDiv, hm, pure, Sem.run]
    · obtain ⟨hm, hk⟩ := hk
      refine does_plain h (run_bin ho hg ?_) (.d (.int _ _)) (fun _ => trivial) hk
      rw [h1, h2]; simp [binOp, Op.shift, Int.not_lt.2 hm, pure, Sem.run]
    · obtain ⟨hm, hk⟩ := hk
      refine does_plain h (run_bin ho hg ?_) (.d (.int _ _)) (fun _ => trivial) hk
      rw [h1, h2]; simp [binOp, Op.shift, Int.not_lt.2 hm, pure, Sem.run]
    · split at hk
      · rename_i d ed
        obtain ⟨rfl, hk⟩ := hk
        obtain ⟨v, g1, g2⟩ := run_intOp (P := P) (Φ := Φ) (w := w) (t := t) ed
        refine does_plain h (run_bin ho hg ?_) (.d g2) (fun _ => trivial) hk
        rw [h1, h2]; exact g1
      · exact hk.elim
  · rename_i p q e1 e2
    have h1 := repD_bool (ev_d h e1)
    have h2 := repD_bool (ev_d h e2)
    have hg : (eqGuard op t x y (a.eval x) (a.eval y)).run P w = .ok () w := by
      rw [h1]; exact run_eqGuard_plain (by simp) (by simp)
    split at hk
    · obtain ⟨hu, hk⟩ := hk
      refine does_plain h (run_bin ho hg ?_) (.d (.bool _)) (fun _ => trivial) hk
      rw [h1, h2]
      show (do pure (.bool (← Op.equal t (.bool p) (.bool q))) : Sem Value).run P w = _
      rw [Sem.run_bind]
      unfold Op.equal Op.maxDepth Op.equalIn
      rw [Sem.run_bind, run_underlying hu]; simp [pure, Sem.run]
    · obtain ⟨hu, hk⟩ := hk
      refine does_plain h (run_bin ho hg ?_) (.d (.bool _)) (fun _ => trivial) hk
      rw [h1, h2]
      show (do pure (.bool !(← Op.equal t (.bool p) (.bool q))) : Sem Value).run P w = _
      rw [Sem.run_bind]
      unfold Op.equal Op.maxDepth Op.equalIn
      rw [Sem.run_bind, run_underlying hu]; simp [pure, Sem.run, bne]
    · exact hk.elim
  · rename_i p q e1 e2
    have h1 := repD_str (ev_d h e1)
    have h2 := repD_str (ev_d h e2)
    have hg : (eqGuard op t x y (a.eval x) (a.eval y)).run P w = .ok () w := by
      rw [h1]; exact run_eqGuard_plain (by simp) (by simp)
    split at hk
    · refine does_plain h (run_bin ho hg ?_) (.d (.bool _)) (fun _ => trivial) hk
      rw [h1, h2]; rfl
    · refine does_plain h (run_bin ho hg ?_) (.d (.bool _)) (fun _ => trivial) hk
      rw [h1, h2]; rfl
    · refine does_plain h (run_bin ho hg ?_) (.d (.bool _)) (fun _ => trivial) hk
      rw [h1, h2]; rfl
    · obtain ⟨hm, hk⟩ := hk
      refine does_plain h (run_bin ho hg ?_) (.d (.str _)) (fun _ => trivial) hk
      rw [h1, h2]
      show (Op.stringOp .add p q).run P w = _
      unfold Op.stringOp
      simp only
      rw [if_neg]
      · rfl
      · have : IntKind.i64.max = 9223372036854775807 := by decide
        rw [this]; omega
    · exact hk.elim
  · rename_i xs ys e1 e2
    obtain ⟨hgd, hkd, hk⟩ := hk
    have h1 := ev_d h e1
    have h2 := ev_d h e2
    generalize hu : a.eval x = u at h1
    generalize hv : a.eval y = v at h2
    cases h1 with
    | agg l1 =>
      cases h2 with
      | agg l2 =>
        rename_i us vs
        cases hle : leafOffs P 8 t with
        | none => simp [hle] at hk
        | some l =>
          simp only [hle, Option.bind_some] at hk
          have hg : (eqGuard op t x y (a.eval x) (a.eval y)).run P w = .ok () w := by
            rw [hu, hv]
            cases op <;> first | rfl | (simp [eqGuard, Sem.run_bind, run_program, hgd]; done)
          have hstruct : ∃ fs, P.underlying t = some (.struct fs) := by
            simp only [leafOffs] at hle
            cases hut : P.underlying t with
            | none => simp [hut] at hle
            | some td =>
              simp only [hut] at hle
              simp only [kindD, hut] at hkd
              cases td <;> simp at hle hkd
              exact ⟨_, rfl⟩
          obtain ⟨fs, hfs⟩ := hstruct
          have hxs : ∀ r, eqAt xs ys l = some r → (Op.equal t (.agg us.toArray) (.agg vs.toArray)).run P w = .ok r w := fun r he =>
            (run_equalIn_plain 8 t l hle Op.maxDepth (by decide) r).1 xs ys us vs fs hfs l1 l2 he
          split at hk
          · rename_i r' hr'
            refine does_plain h (run_bin ho hg ?_) (.d (.bool _)) (fun _ => trivial) hk
            rw [hu, hv]
            show (do pure (.bool (← Op.equal t (.agg us.toArray) (.agg vs.toArray))) : Sem Value).run P w = _
            rw [Sem.run_bind, hxs _ hr']; rfl
          · rename_i r' hr'
            refine does_plain h (run_bin ho hg ?_) (.d (.bool _)) (fun _ => trivial) hk
            rw [hu, hv]
            show (do pure (.bool !(← Op.equal t (.agg us.toArray) (.agg vs.toArray))) : Sem Value).run P w = _
            rw [Sem.run_bind, hxs _ hr']; rfl
          · exact hk.elim
  · split at hk
    · rename_i r' er
      obtain ⟨hp, hk⟩ := hk
      obtain ⟨el, hu⟩ : ∃ el, P.underlying t = some (.pointer el) := by
        unfold isPtr at hp
        split at hp
        · exact ⟨_, ‹_›⟩
        · cases hp
      have key : ∃ p q, a.eval x = .pointer p ∧ a.eval y = .pointer q ∧ (∀ w, (Op.equal t (a.eval x) (a.eval y)).run P w = .ok r' w) := by
        have hx := ev_rep (P := P) h t x
        have hy := ev_rep (P := P) h t y
        generalize ev P t s x = X at hx er
        generalize ev P t s y = Y at hy er
        generalize a.eval x = u at hx
        generalize a.eval y = v at hy
        have e1 : ∀ q w, (Op.equal t (.pointer none) (.pointer q)).run P w = .ok q.isNone w := fun q w => by
          unfold Op.equal Op.maxDepth Op.equalIn
          rw [Sem.run_bind, run_underlying hu]; rfl
        have e2 : ∀ q w, (Op.equal t (.pointer (some q)) (.pointer none)).run P w = .ok false w := fun q w => by
          unfold Op.equal Op.maxDepth Op.equalIn
          rw [Sem.run_bind, run_underlying hu]; rfl
        unfold ptrEq at er
        split at er
        · injection er with er; subst er
          cases hx with | d hx => cases hx with | con _ _ => cases hy with | d hy => cases hy with | con _ _ => exact ⟨_, _, rfl, rfl, e1 _⟩
        · injection er with er; subst er
          cases hx with | ptr _ => cases hy with | d hy => cases hy with | con _ _ => exact ⟨_, _, rfl, rfl, e2 _⟩
        · injection er with er; subst er
          cases hx with | aptr _ => cases hy with | d hy => cases hy with | con _ _ => exact ⟨_, _, rfl, rfl, e2 _⟩
        · injection er with er; subst er
          cases hy with | ptr _ => cases hx with | d hx => cases hx with | con _ _ => exact ⟨_, _, rfl, rfl, e1 _⟩
        · injection er with er; subst er
          cases hy with | aptr _ => cases hx with | d hx => cases hx with | con _ _ => exact ⟨_, _, rfl, rfl, e1 _⟩
        · cases er
      obtain ⟨p, q, e1, e2, e3⟩ := key
      have hg : (eqGuard op t x y (a.eval x) (a.eval y)).run P w = .ok () w := by
        rw [e1]; exact run_eqGuard_plain (by simp) (by simp)
      split at hk
      · refine does_plain h (run_bin ho hg ?_) (.d (.bool _)) (fun _ => trivial) hk
        rw [e1, e2] at e3 ⊢
        show (do pure (.bool (← Op.equal t (.pointer p) (.pointer q))) : Sem Value).run P w = _
        rw [Sem.run_bind, e3]; rfl
      · refine does_plain h (run_bin ho hg ?_) (.d (.bool _)) (fun _ => trivial) hk
        rw [e1, e2] at e3 ⊢
        show (do pure (.bool !(← Op.equal t (.pointer p) (.pointer q))) : Sem Value).run P w = _
        rw [Sem.run_bind, e3]; rfl
      · exact hk.elim
    · exact hk.elim

theorem does_unOp {op : UnOp} {t : TypeId} {x : Operand} {r : List Oper} (h : Inv κ Φ B au s a w) (ho : o.op = .unOp op t x) (hk : stepK P o r s K) : Does P κ o a w K := by
  simp only [stepK, ho] at hk
  split at hk
  · rename_i b e
    have h1 := repD_bool (ev_d h e)
    refine does_plain h ?_ (.d (.bool _)) (fun _ => trivial) hk
    unfold execOp; rw [ho]; refine run_v ?_
    simp only [h1]; rfl
  · rename_i k n e
    have h1 := repD_int (ev_d h e)
    refine does_plain h ?_ (.d (.int _ _)) (fun _ => trivial) hk
    unfold execOp; rw [ho]; refine run_v ?_
    simp only [h1]; rfl
  · rename_i k n e
    have h1 := repD_int (ev_d h e)
    refine does_plain h ?_ (.d (.int _ _)) (fun _ => trivial) hk
    unfold execOp; rw [ho]; refine run_v ?_
    simp only [h1]; rfl
  · exact hk.elim

theorem does_convert {src dst : TypeId} {x : Operand} {r : List Oper} (h : Inv κ Φ B au s a w) (ho : o.op = .convert src dst x) (hk : stepK P o r s K) : Does P κ o a w K := by
  simp only [stepK, ho] at hk
  split at hk
  · rename_i k n e
    have h1 := repD_int (ev_d h e)
    split at hk
    · rename_i k' hd
      obtain ⟨hs, hk⟩ := hk
      obtain ⟨sd, hs⟩ := Option.isSome_iff_exists.1 hs
      refine does_plain h ?_ (.d (.int _ _)) (fun _ => trivial) hk
      unfold execOp; rw [ho]; refine run_v ?_
      simp only [h1]
      unfold convert
      rw [Sem.run_bind, run_underlying hs]; simp only [Result.andThen_ok]
      rw [Sem.run_bind, run_underlying hd]; simp only [Result.andThen_ok]
      cases sd <;> rfl
    · exact hk.elim
  · rename_i b e
    have h1 := repD_str (ev_d h e)
    obtain ⟨hd, hs, hk⟩ := hk
    refine does_plain h ?_ (.d (.str _)) (fun _ => trivial) hk
    unfold execOp; rw [ho]; refine run_v ?_
    simp only [h1]
    unfold convert
    rw [Sem.run_bind, run_underlying hs]; simp only [Result.andThen_ok]
    rw [Sem.run_bind, run_underlying hd]; rfl
  · exact hk.elim

theorem does_makeFunc {f : Fn} {fs caps : Array Operand} {r : List Oper} (h : Inv κ Φ B au s a w) (ho : o.op = .makeFunc f fs caps) (hk : stepK P o r s K) : Does P κ o a w K := by
  simp only [stepK, ho] at hk
  obtain ⟨rfl, hk⟩ := hk
  refine does_plain (v := .func f #[] (caps.toList.map a.eval).toArray) h ?_ (.fn (RepSL.of (by simp) fun j d c hd hc => ?_)) (fun _ => trivial) hk
  · unfold execOp; rw [ho]; refine run_v ?_
    unfold Instr.makeFunc
    have : Array.map a.eval caps = (List.map a.eval caps.toList).toArray := by cases caps; simp
    have e0 : Array.map a.eval #[] = #[] := by simp
    rw [this, e0]; rfl
  · simp only [List.getElem?_map, Option.map_eq_some_iff] at hd hc
    obtain ⟨x, hx, rfl⟩ := hd
    obtain ⟨y, hy, rfl⟩ := hc
    rw [hx] at hy; injection hy with hy; subst hy
    exact (ev_rep h 0 x).cp

theorem does_extract {x : Operand} {ix : Nat} {r : List Oper} (h : Inv κ Φ B au s a w) (ho : o.op = .extract x ix) (hk : stepK P o r s K) : Does P κ o a w K := by
  simp only [stepK, ho] at hk
  split at hk
  · rename_i vs e
    split at hk
    · rename_i V eV
      obtain ⟨hnt, hk⟩ := hk
      cases x with
      | tmp i =>
        have e' : s.tm.getD i .un = .tup vs := e
        obtain ⟨g1, g2⟩ := tm_get h i
        rw [e'] at g1 g2
        generalize hv : a.tmps.getD i undef = v at g1 g2
        cases g1 with
        | tup hl =>
          rename_i cs
          obtain ⟨q1, q2⟩ := hl.get
          have hix : ix < cs.length := by rw [← q1]; exact (List.getElem?_eq_some_iff.1 eV).1
          have hc : cs[ix]? = some cs[ix] := List.getElem?_eq_getElem hix
          have hrep := q2 ix V _ eV hc
          have hx : (execOp a.eval o).run P w = .ok (.value cs[ix]) w := by
            unfold execOp; rw [ho]; refine run_v ?_
            show (Instr.extract (a.tmps.getD i undef) ix).run P w = _
            rw [hv]; unfold Instr.extract
            simp [hix]
          -- what the component owns goes over to the place
          have hstrip : ∀ au', (∀ j b st, j ≠ ix → au b = some (.slot i j, st) → au' b = some (.slot i j, st)) → RepS Φ B (.tup (vs.set ix V.cp)) (.tuple cs.toArray) ∧ OwnV au' w (.slot i) (.tup (vs.set ix V.cp)) (.tuple cs.toArray) := by
            intro au' hau
            refine ⟨.tup (RepSL.of (by simpa using q1) fun j d c hd hcj => ?_), ?_⟩
            · rw [List.getElem?_set] at hd
              split at hd
              · rename_i ej; subst ej
                split at hd
                · injection hd with hd; subst hd
                  rw [hc] at hcj; injection hcj with hcj; subst hcj
                  exact hrep.cp
                · cases hd
              · exact q2 j d c hd hcj
            · rintro j z xs cs' c ecs hd hcj
              injection ecs with ecs; subst ecs
              rw [List.getElem?_set] at hd
              split at hd
              · rename_i ej; subst ej
                split at hd
                · injection hd with hd
                  cases V <;> simp [Idl.V.cp] at hd
                · cases hd
              · rename_i ej
                exact (g2 j z xs _ c rfl hd hcj).mono fun b st hh => ⟨hau j b st (Ne.symm ej) hh, rfl⟩
          cases hd : o.dst with
          | none =>
            rw [hd] at hk
            refine does_value hx hk ⟨Φ, B, au, ?_⟩
            rw [hd]
            refine h.islot i fun V' v' hV' hv' => ?_
            have : v' = .tuple cs.toArray := by
              rw [← hv]; simp [Array.getD, (Array.getElem?_eq_some_iff.1 hv').1, (Array.getElem?_eq_some_iff.1 hv').2]
            subst this
            exact hstrip au fun _ _ _ _ e => e
          | some d =>
            rw [hd] at hk
            let au' : Auth := fun b => match au b with
              | some (.slot k j, st) => if k = i ∧ j = ix then some (.slot d 0, st) else some (.slot k j, st)
              | x => x
            have au_none : ∀ b, au b = none → au' b = none := fun b e => by simp only [au', e]
            have au_inv : ∀ b h0 st, au' b = some (h0, st) → ∃ h1, au b = some (h1, st) := by
              intro b h0 st e
              simp only [au'] at e
              split at e
              · rename_i e2; split at e <;> (injection e with e; injection e with _ e; subst e; exact ⟨_, e2⟩)
              · exact ⟨_, e⟩
            have au_other : ∀ b h0 st, au b = some (h0, st) → h0 ≠ .slot i ix → au' b = some (h0, st) := by
              intro b h0 st e hn
              simp only [au', e]
              cases h0 with
              | slot k j => simp only; rw [if_neg]; rintro ⟨rfl, rfl⟩; exact hn rfl
              | cell _ _ => rfl
              | obj _ => rfl
            have au_same : ∀ b st, au b = some (.slot i ix, st) → au' b = some (.slot d 0, st) := by
              intro b st e; simp only [au', e]; simp
            -- first the tuple is stripped, under the new owners
            have hi : Inv κ Φ B au' { s with tm := s.tm.set i (.tup (vs.set ix V.cp)) } a w := by
              refine { h with phia := fun lb b o v h0 st hp ha => ?_, auw := fun b h0 st ha => ?_, tl := by simpa using h.tl, tm := fun k V' v' hV' hv' => ?_, hp := fun id o b ho hb => ?_, df := ?_ }
              · obtain ⟨h1, e⟩ := au_inv _ _ _ ha; exact h.phia _ b o v h1 st hp e
              · obtain ⟨h1, e⟩ := au_inv _ _ _ ha; exact h.auw b h1 st e
              · simp only [List.getElem?_set] at hV'
                by_cases ek : i = k
                · subst ek
                  have : v' = .tuple cs.toArray := by
                    rw [← hv]; simp [Array.getD, (Array.getElem?_eq_some_iff.1 hv').1, (Array.getElem?_eq_some_iff.1 hv').2]
                  subst this
                  have hl : i < s.tm.length := by
                    have := (Array.getElem?_eq_some_iff.1 hv').1; rw [h.tl]; exact this
                  simp [hl] at hV'; subst hV'
                  exact hstrip au' fun j b st hj e => au_other b _ st e (by intro hh; injection hh with _ hh; exact hj hh)
                · simp [ek] at hV'
                  obtain ⟨k1, k2⟩ := h.tm k V' v' hV' hv'
                  exact ⟨k1, k2.mono fun j b st hh => ⟨au_other b _ st hh (by intro hh'; injection hh' with hh' _; exact ek hh'.symm), rfl⟩⟩
              · exact (h.hp id o b ho hb).mono (CM.le_refl _) (fun _ _ h => h) (fun hh => ⟨au_other b _ _ hh (by simp), rfl⟩) (fun j b st hh => ⟨au_other b _ _ hh (by simp), rfl⟩)
              · obtain ⟨rs, h1, h2, h3⟩ := h.df
                exact ⟨rs, h1, h2, fun r hr => let ⟨x, y, z⟩ := h3 r hr; ⟨x, au_none _ y, z⟩⟩
            refine does_value hx hk ⟨Φ, B, au', ?_⟩
            rw [hd]
            refine hi.slot d hrep ?_
            cases V with
            | own z xs => exact (g2 ix z xs _ _ rfl eV (by simpa using hc)).mono fun b st hh => ⟨au_same b st hh, rfl⟩
            | tup ws => simp [Idl.V.isTup] at hnt
            | _ => trivial
      | const v => have := (constV_rep (P := P) (t := 0) (v := v) (Φ := Φ) (B := B) (au := au) (w := w) (h := fun _ => .obj 0)).2.2.2; simp only [ev] at e; rw [e] at this; cases this
      | «global» g => cases e
      | func f => cases e
    · exact hk.elim
  · exact hk.elim

end
end Go.Idl
end
section
namespace Go.Idl

theorem flat_length {z : Nat} {xs : List D} (h : ∀ x ∈ xs, x.flat.length = z) : (xs.flatMap D.flat).length = xs.length * z := by
  induction xs with
  | nil => simp
  | cons x xs ih =>
    simp only [List.flatMap_cons, List.length_append, List.length_cons]
    rw [ih (fun y hy => h y (by simp [hy])), h x (by simp), Nat.add_mul]; omega

theorem CellsAt.append {Φ : CM} {lb : Bool} {b o : Nat} {ds es : List D} (h : CellsAt Φ lb b o ds) (h' : CellsAt Φ lb b (o + ds.length) es) : CellsAt Φ lb b o (ds ++ es) := by
  induction ds generalizing o with
  | nil => simpa using h'
  | cons d ds ih =>
    cases h with
    | cons e ok hd ht => exact .cons e ok hd (ih ht (by rw [show o + 1 + ds.length = o + (d :: ds).length by simp; omega]; exact h'))

theorem ElemsAt.flat {Φ : CM} {lb : Bool} {z b o : Nat} {xs : List D} (h : ElemsAt Φ lb z b o xs) : CellsAt Φ lb b o (xs.flatMap D.flat) ∧ ∀ x ∈ xs, x.flat.length = z := by
  induction xs generalizing o with
  | nil => exact ⟨.nil, by simp⟩
  | cons x xs ih =>
    cases h with
    | cons e c t =>
      obtain ⟨h1, h2⟩ := ih t
      refine ⟨?_, by simpa using ⟨e, h2⟩⟩
      rw [List.flatMap_cons]
      exact c.append (by rw [e]; exact h1)

theorem ElemsAt.ofFlat {Φ : CM} {lb : Bool} {z b o : Nat} {xs : List D} (h : CellsAt Φ lb b o (xs.flatMap D.flat)) (hz : ∀ x ∈ xs, x.flat.length = z) : ElemsAt Φ lb z b o xs := by
  induction xs generalizing o with
  | nil => exact .nil
  | cons x xs ih =>
    rw [List.flatMap_cons] at h
    have hx := hz x (by simp)
    refine .cons hx (CellsAt.of fun j d hj => ?_) (ih ?_ fun y hy => hz y (by simp [hy]))
    · exact h.get j d (by rw [List.getElem?_append_left (List.getElem?_eq_some_iff.1 hj).1]; exact hj)
    · refine CellsAt.of fun j d hj => ?_
      obtain ⟨c, h1, h2, h3⟩ := h.get (x.flat.length + j) d (by rw [List.getElem?_append_right (by omega)]; simpa using hj)
      exact ⟨c, by rw [← h1, hx]; congr 1; omega, h2, h3⟩

theorem ElemsAt.append {Φ : CM} {lb : Bool} {z b o : Nat} {xs ys : List D} (h : ElemsAt Φ lb z b o xs) (h' : ElemsAt Φ lb z b (o + xs.length * z) ys) : ElemsAt Φ lb z b o (xs ++ ys) := by
  obtain ⟨a1, a2⟩ := h.flat
  obtain ⟨b1, b2⟩ := h'.flat
  refine .ofFlat ?_ (fun x hx => by rcases List.mem_append.1 hx with e | e; exact a2 x e; exact b2 x e)
  rw [List.flatMap_append]
  exact a1.append (by rw [flat_length a2]; exact b1)

theorem ElemsAt.sub {Φ : CM} {lb : Bool} {z b o : Nat} {xs : List D} (h : ElemsAt Φ lb z b o xs) (l n : Nat) : ElemsAt Φ lb z b (o + l * z) ((xs.take n).drop l) := by
  refine .of fun i x hi => ?_
  rw [List.getElem?_drop, List.getElem?_take] at hi
  split at hi
  · obtain ⟨h1, h2⟩ := h.get _ x hi
    refine ⟨h1, ?_⟩
    rw [Nat.add_mul] at h2
    rw [Nat.add_assoc]; exact h2
  · cases hi

/-- A slice's elements, as cells. -/
theorem RepD.sl_inv {Φ : CM} {lb : Bool} {z : Nat} {xs : List D} {v : Value} (h : RepD Φ (.sl lb z xs) v) : ∃ a cap, v = .slice a xs.length cap ∧ xs.length ≤ cap ∧
    (xs ≠ [] → ∃ b o, a = some ⟨b, o, none⟩ ∧ ElemsAt Φ lb z b o xs) := by
  cases h with
  | sl0 => exact ⟨_, _, rfl, Nat.zero_le _, fun h => absurd rfl h⟩
  | sl h1 h2 h3 => exact ⟨_, _, rfl, h2, fun _ => ⟨_, _, rfl, h3⟩⟩

/-- cells, as a row of values -/
theorem RepL.cellsAt {Φ : CM} {lb : Bool} {b o : Nat} {ds : List D} {vs : List Value} (h : RepL Φ ds vs) (hc : ∀ (j : Nat) v, vs[j]? = some v → Φ lb b (o + j) = some v) : CellsAt Φ lb b o ds := by
  obtain ⟨h1, h2⟩ := h.get
  refine CellsAt.of fun j d hj => ?_
  have hj' : j < vs.length := by rw [← h1]; exact (List.getElem?_eq_some_iff.1 hj).1
  obtain ⟨a, b⟩ := h2 j d _ hj (List.getElem?_eq_getElem hj')
  exact ⟨_, hc j _ (List.getElem?_eq_getElem hj'), a, b⟩

section
variable {P : Program} {κ : Ctx} {Φ : CM} {B : List Nat} {au : Auth} {s : St} {a : Act} {w : World} {K : St → Prop} {o : Oper}

/-- The cells of a slice's elements are loaded. -/
theorem run_firstCells (h : Inv κ Φ B au s a w) {lb : Bool} {z : Nat} {xs : List D} {v : Value} (hr : RepD Φ (.sl lb z xs) v) :
    ∃ vs : List Value, (∀ w', Grows w w' → (Builtin.firstCells z xs.length v).run P w' = .ok vs.toArray w') ∧ RepL Φ (xs.flatMap D.flat) vs ∧ vs.length = xs.length * z ∧ ∀ v ∈ vs, okCell v := by
  obtain ⟨ad, cap, rfl, _, he⟩ := hr.sl_inv
  by_cases hne : xs = []
  · subst hne
    refine ⟨[], fun w' _ => ?_, .nil, by simp, by simp⟩
    cases ad with
    | none => rfl
    | some ad =>
      show (loadCells ad (0 * z)).run P w' = _
      rw [Nat.zero_mul]; rfl
  · obtain ⟨b, off, rfl, he'⟩ := he hne
    obtain ⟨hc, hz⟩ := ElemsAt.flat he'
    obtain ⟨vs, h1, h2, h3⟩ := hc.cells
    have hl : vs.length = xs.length * z := by rw [h1, flat_length hz]
    refine ⟨vs, fun w' g => ?_, h3, hl, fun v hv => ?_⟩
    · show (loadCells ⟨b, off, none⟩ (xs.length * z)).run P w' = _
      rw [← hl]; exact run_loadCells fun j v hj => g.cell (h.phi _ _ _ _ (h2 j v hj))
    · obtain ⟨j, hj, rfl⟩ := List.getElem_of_mem hv
      obtain ⟨q1, q2⟩ := h3.get
      have hj' : j < (xs.flatMap D.flat).length := by rw [q1]; exact hj
      exact (q2 j _ _ (List.getElem?_eq_getElem hj') (List.getElem?_eq_getElem hj)).1

/-- a map of cells with a row more -/
def CM.add (Φ : CM) (b o : Nat) (vs : List Value) : CM := fun lb b' o' => if b' = b ∧ o ≤ o' ∧ o' < o + vs.length then vs[o' - o]? else Φ lb b' o'

theorem CM.le_add {Φ : CM} {b o : Nat} {vs : List Value} (h : ∀ lb o' v, o ≤ o' → o' < o + vs.length → Φ lb b o' ≠ some v) : Φ.le (Φ.add b o vs) := by
  intro lb b' o' v e
  unfold CM.add
  rw [if_neg]; exact e
  rintro ⟨rfl, h1, h2⟩
  exact h lb o' v h1 h2 e

theorem CM.add_get {Φ : CM} {lb : Bool} {b o : Nat} {vs : List Value} (j : Nat) (v : Value) (h : vs[j]? = some v) : Φ.add b o vs lb b (o + j) = some v := by
  unfold CM.add
  have := (List.getElem?_eq_some_iff.1 h).1
  rw [if_pos ⟨rfl, by omega, by omega⟩, show o + j - o = j by omega]; exact h

/-- A block is laid whose first cells are immutable from now on and whose others are a slot's. -/
theorem Inv.lay (h : Inv κ Φ B au s a w) {el : TypeId} {vs rest : List Value} {z : Nat} {xs : List D} (hr : RepL Φ (xs.flatMap D.flat) vs) (hz : ∀ x ∈ xs, x.flat.length = z) (d cap : Nat) (hcap : xs.length ≤ cap) (hsz : vs.length + rest.length = cap * z) :
    ∃ Φ' au', Inv κ Φ' B au' (s.put (some d) (.own z xs)) (a.put (some d) (.slice (some ⟨w.heap.size, 0, none⟩) xs.length cap)) { w with heap := w.heap.push (.cells (vs ++ rest).toArray el (0, 0)) } := by
  have g := h.grow (Grows.push w (.cells (vs ++ rest).toArray el (0, 0)))
  have hnew : au w.heap.size = none := by
    cases e : au w.heap.size with
    | none => rfl
    | some x => exact absurd (h.auw _ _ _ e).1 (Nat.lt_irrefl _)
  have hΦ : ∀ lb o' v, Φ lb w.heap.size o' ≠ some v := by
    intro lb o' v e
    have := h.phi _ _ _ _ e
    unfold World.cell? at this
    simp at this
  have hlen : vs.length = xs.length * z := by rw [← hr.get.1, flat_length hz]
  have hle : Φ.le (Φ.add w.heap.size 0 vs) := CM.le_add fun lb o' v _ _ => hΦ lb o' v
  let au' : Auth := fun b => if b = w.heap.size then some (.slot d 0, vs.length) else au b
  have hau : ∀ b h0 st, au b = some (h0, st) → au' b = some (h0, st) := fun b h0 st e => by
    simp only [au']; rw [if_neg]; exact e
    rintro rfl; rw [hnew] at e; cases e
  have hrep : RepD (Φ.add w.heap.size 0 vs) (.sl false z xs) (.slice (some ⟨w.heap.size, 0, none⟩) xs.length cap) := by
    by_cases hne : xs = []
    · subst hne; exact .sl0
    · refine .sl hne hcap (.ofFlat ?_ hz)
      exact (hr.mono hle).cellsAt fun j v hj => CM.add_get j v hj
  have hnewb : ({ w with heap := w.heap.push (.cells (vs ++ rest).toArray el (0, 0)) } : World).heap[w.heap.size]? = some (.cells (vs ++ rest).toArray el (0, 0)) := by simp
  have i1 : Inv κ (Φ.add w.heap.size 0 vs) B au' s a { w with heap := w.heap.push (.cells (vs ++ rest).toArray el (0, 0)) } := by
    refine { g with phi := fun lb b o v e => ?_, phia := fun lb b o v h0 st hp e => ?_, auw := fun b h0 st e => ?_, lePhi := h.lePhi.trans hle, tm := fun i V v hV hv => ?_, hp := fun id o b ho hb => ?_, df := ?_, src := fun lb b o v e => ?_ }
    · unfold CM.add at e
      split at e
      · rename_i hc
        obtain ⟨rfl, _, h2⟩ := hc
        rw [cell_of hnewb]
        simp only [Nat.sub_zero] at e
        rw [List.getElem?_toArray, List.getElem?_append_left (List.getElem?_eq_some_iff.1 e).1]; exact e
      · exact g.phi _ b o v e
    · simp only [au'] at e
      split at e
      · rename_i eb; subst eb
        injection e with e; injection e with _ e; subst e
        unfold CM.add at hp
        split at hp
        · rename_i hc; omega
        · exact absurd hp (hΦ _ _ _)
      · rename_i eb
        unfold CM.add at hp
        rw [if_neg (fun hc => eb hc.1)] at hp
        exact h.phia _ b o v h0 st hp e
    · simp only [au'] at e
      split at e
      · rename_i eb; subst eb; exact ⟨by simp, .inr h.size⟩
      · exact g.auw b h0 st e
    · obtain ⟨k1, k2⟩ := g.tm i V v hV hv
      exact ⟨k1.mono hle (fun _ _ h => h), k2.mono fun j b st e => ⟨hau b _ st e, rfl⟩⟩
    · exact (g.hp id o b ho hb).mono hle (fun _ _ h => h) (fun e => ⟨hau b _ _ e, rfl⟩) (fun j b st e => ⟨hau b _ st e, rfl⟩)
    · obtain ⟨rs, h1, h2, h3⟩ := h.df
      refine ⟨rs, h1, h2, fun r hr => ?_⟩
      obtain ⟨x, y, z⟩ := h3 r hr
      have hlt := lt_of_heap x
      refine ⟨(Grows.push w _).same r hlt ▸ x, ?_, z⟩
      simp only [au']; rw [if_neg (by omega)]; exact y
    · unfold CM.add at e
      split at e
      · rename_i hc; right; right; rw [hc.1]; exact h.size
      · exact h.src _ b o v e
  refine ⟨_, au', i1.put (some d) (.own hrep) fun d' hd' => ?_⟩
  injection hd' with hd'; subst hd'
  refine ⟨_, _, _, rfl, .inr ⟨w.heap.size, 0, _, el, rfl, by simp only [au']; simp [hlen], hnewb, by simp; omega⟩⟩

theorem growsDrew {w : World} : Grows w { w with drawn := w.drawn + 1 } := Grows.drew w _

theorem zeroCells_size {zc : Array Value} {n : Nat} : (Builtin.zeroCells zc n).size = n * zc.size := by simp [Builtin.zeroCells]

/-- What was a slot's is another's, or begins later. -/
theorem Inv.reauth (h : Inv κ Φ B au s a w) {au' : Auth} {i : Nat} (h1 : ∀ b h st, au b = some (h, st) → h ≠ .slot i 0 → au' b = some (h, st))
    (h2 : ∀ b h st, au' b = some (h, st) → ∃ h0 st0, au b = some (h0, st0) ∧ st0 ≤ st) (hs : ∀ V, s.tm[i]? = some V → V.cp = V ∧ V.isTup = false) : Inv κ Φ B au' s a w := by
  have h3 : ∀ b, au b = none → au' b = none := fun b e => by
    cases e' : au' b with
    | none => rfl
    | some x => obtain ⟨h0, st0, e0, _⟩ := h2 b _ _ e'; rw [e] at e0; cases e0
  refine { h with phia := fun lb b o v h0 st hp ha => ?_, auw := fun b h0 st ha => ?_, tm := fun k V' v' hV hv => ?_, hp := fun id o b ho hb => ?_, df := ?_ }
  · obtain ⟨q, st0, e, hle⟩ := h2 b _ _ ha; exact Nat.lt_of_lt_of_le (h.phia _ b o v _ st0 hp e) hle
  · obtain ⟨q, st0, e, hle⟩ := h2 b _ _ ha; exact h.auw b _ st0 e
  · obtain ⟨k1, k2⟩ := h.tm k V' v' hV hv
    refine ⟨k1, ?_⟩
    by_cases ek : k = i
    · subst ek; exact OwnV_of_cp (hs V' hV).1 (hs V' hV).2 _ _ _ _
    · exact k2.mono fun j b st hh => ⟨h1 b _ st hh (by intro hh'; injection hh' with hh' _; exact ek hh'), rfl⟩
  · exact (h.hp id o b ho hb).mono (CM.le_refl _) (fun _ _ h => h) (fun hh => ⟨h1 b _ _ hh (by simp), rfl⟩) (fun j b st hh => ⟨h1 b _ _ hh (by simp), rfl⟩)
  · obtain ⟨rs, g1, g2, g3⟩ := h.df
    exact ⟨rs, g1, g2, fun r hr => let ⟨x, y, z⟩ := g3 r hr; ⟨x, h3 _ y, z⟩⟩

/-- A row of cells is written into a block behind what is immutable there, and is immutable from now on. -/
theorem Inv.extend (h : Inv κ Φ B au s a w) {b st0 : Nat} {hd : Holder} {c : Array Value} {el : TypeId} {vs : List Value} {w' : World} (ha : au b = some (hd, st0 + vs.length)) (hhd : ∀ id, hd ≠ .obj id)
    (hΦ : ∀ lb o' v, Φ lb b o' = some v → o' < st0) (hw : w.heap[b]? = some (.cells c el (0, 0))) (g : Writes w w' b c el st0 vs) (hfit : st0 + vs.length ≤ c.size)
    (htm : ∀ (i : Nat) V v, s.tm[i]? = some V → a.tmps[i]? = some v → OwnV au w' (.slot i) V v)
    (hcell : ∀ id j, hd ≠ .cell id j) : Inv κ (Φ.add b st0 vs) B au s a w' := by
  have hle : Φ.le (Φ.add b st0 vs) := CM.le_add fun lb o' v h1 h2 e => absurd (hΦ lb o' v e) (by omega)
  have hne : ∀ b' h0 st, au b' = some (h0, st) → h0 ≠ hd → w'.heap[b']? = w.heap[b']? := fun b' h0 st e hn => g.there b' (by rintro rfl; rw [ha] at e; injection e with e; injection e with e _; exact hn e.symm)
  obtain ⟨c', q1, q2, q3, q4⟩ := g.here
  refine { h with phi := fun lb b' o v e => ?_, phia := fun lb b' o v h0 st hp e => ?_, auw := fun b' h0 st e => ?_, size := by rw [g.size]; exact h.size, keep := fun b' hb' hm => ?_, lePhi := h.lePhi.trans hle, tm := fun i V v hV hv => ?_, hp := fun id' o b' ho hb' => ?_, df := ?_, rd := fun l hl' => ?_, lp := fun l r hl' => ?_, src := fun lb b' o v e => ?_, wo := ⟨g.tape.trans h.wo.1, g.os.trans h.wo.2.1, g.out.trans h.wo.2.2⟩ }
  · unfold CM.add at e
    split at e
    · rename_i hc
      obtain ⟨rfl, h1, h2⟩ := hc
      rw [cell_of q1, q3 o h1 h2]; exact e
    · by_cases eb : b' = b
      · subst eb
        have := hΦ lb o v e
        rw [cell_of q1, q4 o (.inl this), ← cell_of hw]; exact h.phi _ _ _ _ e
      · have hc := h.phi _ b' o v e
        unfold World.cell? at *
        simp only at hc ⊢
        rw [g.there b' eb]; exact hc
  · unfold CM.add at hp
    split at hp
    · rename_i hc
      obtain ⟨rfl, _, h2⟩ := hc
      rw [ha] at e; injection e with e; injection e with _ e; omega
    · exact h.phia _ b' o v h0 st hp e
  · rw [g.size]; exact h.auw b' h0 st e
  · rw [g.there b' ?_]; exact h.keep b' hb' hm
    rintro rfl
    rcases (h.auw _ _ _ ha).2 with x | x
    · exact hm x
    · omega
  · exact ⟨(h.tm i V v hV hv).1.mono hle (fun _ _ h => h), htm i V v hV hv⟩
  · exact (h.hp id' o b' ho hb').mono hle (fun _ _ h => h) (fun hh => ⟨hh, hne b' _ _ hh (Ne.symm (hhd _))⟩) (fun j b st hh => ⟨hh, hne b _ st hh (Ne.symm (hcell _ _))⟩)
  · obtain ⟨rs, k1, k2, k3⟩ := h.df
    refine ⟨rs, k1, k2, fun r hr => ?_⟩
    obtain ⟨x, y, z⟩ := k3 r hr
    exact ⟨(g.there r (by rintro rfl; rw [y] at ha; cases ha)).trans x, y, z⟩
  · obtain ⟨r, hr⟩ := h.rd l hl'
    have : l ≠ b := by rintro rfl; rw [hw] at hr; cases hr
    exact ⟨r, (g.there l this).trans hr⟩
  · obtain ⟨r, hr⟩ := h.lp l r hl'
    have : l ≠ b := by rintro rfl; rw [hw] at hr; cases hr
    exact ⟨r, (g.there l this).trans hr⟩
  · unfold CM.add at e
    split at e
    · rename_i hc; right; rw [hc.1]; exact (h.auw _ _ _ ha).2
    · exact h.src _ b' o v e

/-- append, where the first slice's spare room is a slot's own. -/
theorem run_append (h : Inv κ Φ B au s a w) {st xt : TypeId} {z y : Nat} {xs ys : List D} {v u : Value} {i0 : Nat} (hel : elI P st = some (z, y)) (hxt : (elemTy P xt).isSome = true) (hz0 : 0 < z) (hy0 : 0 < y)
    (hb : (xs.length + ys.length) * y ≤ 140737488355328) {lu : Bool} (hv : RepD Φ (.sl false z xs) v) (hu : RepD Φ (.sl lu z ys) u) (ht : TailOK au w (.slot i0 0) z v) (hs : ∀ V, s.tm[i0]? = some V → V.cp = V ∧ V.isTup = false) (d : Nat) {rt : TypeId} :
    ∃ r w', (Builtin.append_ #[st, xt] rt #[v, u]).run P w = .ok r w' ∧ ∃ Φ' au', Inv κ Φ' B au' (s.put (some d) (.own z (xs ++ ys))) (a.put (some d) r) w' := by
  obtain ⟨el, i, zv, hu1, hi, hzv, hsz, hby, hzs⟩ := elI_inv hel
  obtain ⟨ad, cap, rfl, hcap, hxs⟩ := hv.sl_inv
  obtain ⟨ad2, cap2, rfl, hcap2, hys⟩ := hu.sl_inv
  obtain ⟨vs, g1, g2, g3, g4⟩ := run_firstCells (P := P) h hu
  have hxu : ∃ e2, P.underlying xt = some (.slice e2) := by
    unfold elemTy at hxt
    cases hq : P.underlying xt with
    | none => simp [hq] at hxt
    | some d => cases d <;> simp [hq] at hxt; exact ⟨_, rfl⟩
  obtain ⟨e2, hxu⟩ := hxu
  have hysz : ∀ x ∈ ys, x.flat.length = z := by
    by_cases hne : ys = []
    · subst hne; simp
    · obtain ⟨_, _, _, he⟩ := hys hne; exact he.flat.2
  have hxsz : ∀ x ∈ xs, x.flat.length = z := by
    by_cases hne : xs = []
    · subst hne; simp
    · obtain ⟨_, _, _, he⟩ := hxs hne; exact he.flat.2
  obtain ⟨us, k1, k2, k3, k4⟩ := run_firstCells (P := P) h hv
  subst hsz; subst hby
  by_cases hfit : xs.length + ys.length ≤ cap
  · -- there is room
    have hrun : ∀ w', (match ad with | some a => storeCells (a.add (xs.length * i.size)) vs | none => pure () : Sem Unit).run P w = .ok () w' →
        (Builtin.append_ #[st, xt] rt #[.slice ad xs.length cap, .slice ad2 ys.length cap2]).run P w = .ok (.slice ad (xs.length + ys.length) cap) w' := by
      intro w' hw'
      have hf := g1 w (Grows.refl w)
      cases ad <;> simp [Builtin.append_, run_underlying hu1, run_underlying hxu, run_sizeOf hi, Builtin.lenOf, hfit, hf] at hw' ⊢
      · exact hw'
      · rw [hw']; rfl
    obtain ⟨_, _, _, e, ht⟩ := ht
    injection e with e1 e2 e3
    subst e1; subst e2; subst e3
    by_cases hn : ys = []
    · subst hn
      have hvs : vs = [] := by
        have := g3; simp at this; exact this
      subst hvs
      let au' : Auth := fun b => match au b with
        | some (h, st) => if h = .slot i0 0 then some (.slot d 0, st) else some (h, st)
        | none => none
      have hi1 : Inv κ Φ B au' s a w := by
        refine h.reauth (i := i0) (fun b h st e hn => ?_) (fun b h st e => ?_) hs
        · simp only [au', e]; rw [if_neg hn]
        · simp only [au'] at e
          split at e
          · rename_i h' st' e'
            split at e <;> (injection e with e; injection e with e1 e2; subst e2; exact ⟨_, _, e', Nat.le_refl _⟩)
          · cases e
      refine ⟨_, w, hrun w (by cases ad <;> rfl), Φ, au', ?_⟩
      simp only [List.append_nil, List.length_nil, Nat.add_zero]
      refine hi1.slot d (.own hv) ⟨_, _, _, rfl, ht.imp id ?_⟩
      rintro ⟨b, off, c, elx, rfl, t1, t2, t3⟩
      exact ⟨b, off, c, elx, rfl, by simp only [au', t1]; simp, t2, t3⟩
    · have hpos : 0 < ys.length := List.length_pos_iff.2 hn
      rcases ht with ht | ⟨b, off, c, elx, rfl, t1, t2, t3⟩
      · omega
      have hmul : (xs.length + ys.length) * i.size ≤ cap * i.size := Nat.mul_le_mul_right _ hfit
      rw [Nat.add_mul] at hmul
      obtain ⟨w', m1, m2⟩ := run_storeCells (P := P) (off := off + xs.length * i.size) vs 0 w c t2 (by rw [g3]; omega) g4
      have m2' : Writes w w' b c elx (off + xs.length * i.size) vs := m2
      let au' : Auth := fun b' => if b' = b then some (.slot d 0, off + (xs.length + ys.length) * i.size) else au b'
      have hst : off + xs.length * i.size + vs.length = off + (xs.length + ys.length) * i.size := by rw [g3, Nat.add_mul]; omega
      have hi1 : Inv κ Φ B au' s a w := by
        refine h.reauth (i := i0) (fun b' h' st' e hn => ?_) (fun b' h' st' e => ?_) hs
        · simp only [au']; rw [if_neg]; exact e
          rintro rfl; rw [t1] at e; injection e with e; injection e with e _; exact hn e.symm
        · simp only [au'] at e
          split at e
          · rename_i eb; subst eb
            injection e with e; injection e with _ e; subst e
            exact ⟨_, _, t1, by rw [Nat.add_mul]; omega⟩
          · exact ⟨_, _, e, Nat.le_refl _⟩
      have hab : au' b = some (.slot d 0, off + xs.length * i.size + vs.length) := by simp [au', hst]
      have hΦ : ∀ lb o' v, Φ lb b o' = some v → o' < off + xs.length * i.size := fun lb o' v e => h.phia _ b o' v _ _ e t1
      -- the new value first, so that the place holds it when the block is written
      have hle : Φ.le (Φ.add b (off + xs.length * i.size) vs) := CM.le_add fun lb o' v h1 h2 e => absurd (hΦ lb o' v e) (by omega)
      have hi2 : Inv κ (Φ.add b (off + xs.length * i.size) vs) B au' { s with tm := s.tm.set d .un } { a with tmps := a.tmps.setIfInBounds d (.slice (some ⟨b, off, none⟩) (xs.length + ys.length) cap) } w' := by
        refine (hi1.slot d (.un _) trivial).extend hab (by simp) hΦ t2 m2' (by rw [hst, Nat.add_mul]; omega) (fun k V v hV hv => ?_) (by simp)
        obtain ⟨q1, q2⟩ := (hi1.slot d (.un (.slice (some ⟨b, off, none⟩) (xs.length + ys.length) cap)) trivial).tm k V v hV hv
        by_cases ek : k = d
        · subst ek
          have : V = .un := by
            have hV' : (s.tm.set k .un)[k]? = some V := hV
            rw [List.getElem?_set, if_pos rfl] at hV'
            split at hV'
            · injection hV' with hV'; exact hV'.symm
            · cases hV'
          subst this; trivial
        · refine q2.mono fun j b' st' e => ⟨e, m2'.there b' ?_⟩
          rintro rfl
          rw [hab] at e; injection e with e; injection e with e _; injection e with e _; exact ek e.symm
      have hnew : ElemsAt (Φ.add b (off + xs.length * i.size) vs) false i.size b (off + xs.length * i.size) ys :=
        .ofFlat ((g2.mono hle).cellsAt fun j v hj => CM.add_get j v hj) hysz
      have hxe : xs ≠ [] → ElemsAt (Φ.add b (off + xs.length * i.size) vs) false i.size b off xs := fun hne => by
        obtain ⟨b', o', e, he⟩ := hxs hne
        injection e with e; injection e with e1 e2 _; subst e1; subst e2
        exact he.mono hle
      have hrep : RepD (Φ.add b (off + xs.length * i.size) vs) (.sl false i.size (xs ++ ys)) (.slice (some ⟨b, off, none⟩) (xs.length + ys.length) cap) := by
        have : xs.length + ys.length = (xs ++ ys).length := by simp
        rw [this]
        refine .sl (by simp [hn]) (by simpa using hfit) ?_
        by_cases hne : xs = []
        · subst hne; simpa using hnew
        · exact (hxe hne).append hnew
      obtain ⟨c', q1, q2, q3, q4⟩ := m2'.here
      refine ⟨_, w', hrun w' (by simpa [addr_add] using m1), Φ.add b (off + xs.length * i.size) vs, au', ?_⟩
      have := hi2.slot d (V := .own i.size (xs ++ ys)) (v := .slice (some ⟨b, off, none⟩) (xs.length + ys.length) cap) (.own hrep) ⟨_, _, _, rfl, .inr ⟨b, off, c', elx, rfl, by simp only [au']; simp, q1, by rw [q2]; exact t3⟩⟩
      simpa [St.put, Act.put] using this
  · -- there is none
    have hgrow : cap < xs.length + ys.length := by omega
    have h48 := growslice_fits (need := xs.length + ys.length) (old := cap) (bytes := i.bytes) hgrow hb
    have h48' : ¬ (281474976710656 < Builtin.nextslicecap (xs.length + ys.length) cap * i.bytes) := by omega
    have hby0 : i.bytes ≠ 0 := by omega
    have hnc : xs.length + ys.length ≤ grownCap w (xs.length + ys.length) cap el := by unfold grownCap Question.cut; exact Nat.le_add_right _ _
    have hrun : (Builtin.append_ #[st, xt] rt #[.slice ad xs.length cap, .slice ad2 ys.length cap2]).run P w =
        .ok (.slice (some ⟨w.heap.size, 0, none⟩) (xs.length + ys.length) (grownCap w (xs.length + ys.length) cap el)) { w.drew with heap := w.heap.push (.cells (us ++ vs ++ (Builtin.zeroCells zv.cells (grownCap w (xs.length + ys.length) cap el - (xs.length + ys.length))).toList).toArray el (0, 0)) } := by
      have hf := g1 w.drew (Grows.drew w _)
      have hfo := k1 w.drew (Grows.drew w _)
      simp [Builtin.append_, run_underlying hu1, run_underlying hxu, run_typeInfo hi, run_sizeOf hi, run_zeroValue hi hzv, Builtin.lenOf, hfit, hby0, h48', Question.forced, hf, hfo, newRow]
      refine ⟨rfl, ?_⟩
      unfold World.alloc World.drew grownCap
      congr 2
      congr 1
      apply Array.ext'
      simp
    generalize hN : grownCap w (xs.length + ys.length) cap el = N at hnc hrun
    obtain ⟨Φ', au', hfin⟩ := (h.grow (Grows.drew w (w.drawn + 1))).lay (el := el) (vs := us ++ vs) (rest := (Builtin.zeroCells zv.cells (N - (xs.length + ys.length))).toList) (z := i.size) (xs := xs ++ ys)
      (by
        rw [List.flatMap_append]
        obtain ⟨a1, a2⟩ := k2.get
        obtain ⟨b1, b2⟩ := g2.get
        refine RepL.of (by simp [a1, b1]) fun j dd c hj hc => ?_
        by_cases hlt : j < us.length
        · rw [List.getElem?_append_left (by rw [a1]; exact hlt)] at hj
          rw [List.getElem?_append_left hlt] at hc
          exact a2 j dd c hj hc
        · rw [List.getElem?_append_right (by rw [a1]; omega)] at hj
          rw [List.getElem?_append_right (by omega)] at hc
          exact b2 _ dd c (by rw [← a1]; exact hj) hc)
      (fun x hx => by rcases List.mem_append.1 hx with e | e; exact hxsz x e; exact hysz x e) d N (by simpa using hnc)
      (by
        simp only [List.length_append, Array.length_toList, zeroCells_size, hzs, k3, g3]
        rw [← Nat.add_mul, ← Nat.add_mul]; congr 1; omega)
    rw [List.length_append] at hfin
    exact ⟨_, _, hrun, Φ', au', hfin⟩

end
end Go.Idl
end
section
namespace Go.Idl

section
variable {P : Program} {κ : Ctx} {Φ : CM} {B : List Nat} {au : Auth} {s : St} {a : Act} {w : World} {K : St → Prop} {o : Oper}

theorem sliceIx_run (h : Inv κ Φ B au s a w) {d n : Int} {x : Option Operand} (e : sliceIx P s d x = some n) : (∃ k y, x = some y ∧ a.eval y = .int k n) ∨ (x = none ∧ n = d) := by
  cases x with
  | none => simp [sliceIx] at e; exact .inr ⟨rfl, e.symm⟩
  | some y =>
    simp only [sliceIx] at e
    split at e
    · rename_i k m e2
      injection e with e; subst e
      exact .inl ⟨k, y, rfl, repD_int (ev_d h e2)⟩
    · cases e

theorem run_sliceBound {k : IntKind} {n : Int} {y : Nat} {c : BoundsCode} (h0 : 0 ≤ n) (h1 : n ≤ y) : (Instr.sliceBound (.int k n) y c).run P w = .ok n.toNat w := by
  unfold Instr.sliceBound
  simp only [asIntOf, pure_bind]
  rw [if_pos ⟨h0, h1⟩]; rfl

/-- the bounds of a slice expression -/
theorem run_sliceBounds (h : Inv κ Φ B au s a w) {b : Bool} {len cap : Nat} {lo hi mx : Option Operand} {l u m : Int} (hl : sliceIx P s 0 lo = some l) (hu : sliceIx P s len hi = some u)
    (hm : (mx = none ∧ m = cap) ∨ (sliceIx P s 0 mx = some m ∧ mx.isSome = true ∧ hi.isSome = true)) (h0 : 0 ≤ l) (h1 : l ≤ u) (h2 : u ≤ m) (h3 : m ≤ cap) :
    (Instr.sliceBounds b len cap (lo.map a.eval) (hi.map a.eval) (mx.map a.eval)).run P w = .ok (l.toNat, u.toNat, m.toNat) w := by
  unfold Instr.sliceBounds
  rcases hm with ⟨rfl, rfl⟩ | ⟨hm, hms, his⟩
  · rcases sliceIx_run h hu with ⟨k, y, rfl, ey⟩ | ⟨rfl, rfl⟩
    · rcases sliceIx_run h hl with ⟨kl, yl, rfl, eyl⟩ | ⟨rfl, rfl⟩
      · simp only [Option.map_some, Option.map_none, pure_bind, ey, eyl]
        rw [Sem.run_bind, run_sliceBound (by omega) (by omega)]; simp only [Result.andThen_ok]
        rw [Sem.run_bind, run_sliceBound (by omega) (by omega)]; simp only [Result.andThen_ok, Int.toNat_natCast]; rfl
      · simp only [Option.map_some, Option.map_none, pure_bind, ey]
        rw [Sem.run_bind, run_sliceBound (by omega) (by omega)]; simp only [Result.andThen_ok, Int.toNat_natCast]; rfl
    · rcases sliceIx_run h hl with ⟨kl, yl, rfl, eyl⟩ | ⟨rfl, rfl⟩
      · simp only [Option.map_some, Option.map_none, pure_bind, eyl]
        rw [Sem.run_bind, run_sliceBound (by omega) (by omega)]; simp only [Result.andThen_ok, Int.toNat_natCast]; rfl
      · simp only [Option.map_none, pure_bind, Int.toNat_natCast]; rfl
  · rcases sliceIx_run h hm with ⟨k, y, rfl, ey⟩ | ⟨rfl, rfl⟩
    · rcases sliceIx_run h hu with ⟨k', y', rfl, ey'⟩ | ⟨rfl, rfl⟩
      · rcases sliceIx_run h hl with ⟨kl, yl, rfl, eyl⟩ | ⟨rfl, rfl⟩
        · simp only [Option.map_some, ey, ey', eyl]
          rw [Sem.run_bind, run_sliceBound (by omega) h3]; simp only [Result.andThen_ok]
          rw [Sem.run_bind, run_sliceBound (by omega) (by omega)]; simp only [Result.andThen_ok]
          rw [Sem.run_bind, run_sliceBound (by omega) (by omega)]; rfl
        · simp only [Option.map_some, Option.map_none, ey, ey', pure_bind]
          rw [Sem.run_bind, run_sliceBound (by omega) h3]; simp only [Result.andThen_ok]
          rw [Sem.run_bind, run_sliceBound (by omega) (by omega)]; rfl
      · simp at his
    · simp at hms

theorem ElemsAt.addr {z b off l n : Nat} : ((some ⟨b, off, none⟩ : Option Addr).map (·.add (l * z))) = some ⟨b, off + l * z, none⟩ := by simp [addr_add]

/-- a bound that is 0 -/
theorem isZero_some {mx : Option Operand} (h : isZero mx = true) : ∃ k, mx = some (.const (.int k 0)) := by
  unfold isZero at h
  split at h
  · exact ⟨_, rfl⟩
  · cases h

/-- the slice expression, run -/
theorem run_sliceOp {t : TypeId} {x : Operand} {lo hi mx : Option Operand} {ty : TypeId} {i : TypeInfo} {ad : Option Addr} {len cap l u m : Nat} (ho : o.op = .slice t x lo hi mx) (hut : P.underlying t = some (.slice ty)) (hi' : P.info? ty = some i) (hv : a.eval x = .slice ad len cap)
    (hb : (Instr.sliceBounds true len cap (lo.map a.eval) (hi.map a.eval) (mx.map a.eval)).run P w = .ok (l, u, m) w) :
    (execOp a.eval o).run P w = .ok (.value (.slice (if m = l then ad else ad.map (·.add (l * i.size))) (u - l) (m - l))) w := by
  unfold execOp; rw [ho]; refine run_v ?_
  unfold Instr.sliceAt
  rw [Sem.run_bind, run_underlying hut]; simp only [Result.andThen_ok]
  unfold Instr.slice
  rw [Sem.run_bind, run_underlying hut]; simp only [Result.andThen_ok, hv]
  rw [Sem.run_bind, hb]; simp only [Result.andThen_ok]
  rw [Sem.run_bind, run_sizeOf hi']; rfl

theorem does_slice {t : TypeId} {x : Operand} {lo hi mx : Option Operand} {r : List Oper} (h : Inv κ Φ B au s a w) (ho : o.op = .slice t x lo hi mx) (hk : stepK P o r s K) : Does P κ o a w K := by
  simp only [stepK, ho] at hk
  unfold sliceK at hk
  split at hk
  · rename_i m0 z xs e
    split at hk
    · rename_i l u m el eu em
      obtain ⟨hz, hhi, h0, h1, h2, h3, hk⟩ := hk
      obtain ⟨ty, i, zv, hut, hi', _, hsz⟩ := elI_map hz
      have hr := ev_cp_d h e
      obtain ⟨ad, cap, hv, hcap, hxs⟩ := hr.sl_inv
      -- what comes
      have hlen : ((xs.take u.toNat).drop l.toNat).length = u.toNat - l.toNat := by simp; omega
      have main : ∀ (m' : Int) (hb : (Instr.sliceBounds true xs.length cap (lo.map a.eval) (hi.map a.eval) (mx.map a.eval)).run P w = .ok (l.toNat, u.toNat, m'.toNat) w) (hm : u ≤ m') (hmc : m' ≤ cap),
          ∃ v, (execOp a.eval o).run P w = .ok (.value v) w ∧ RepD Φ (.sl m0 z ((xs.take u.toNat).drop l.toNat)) v ∧ (u = m' → ∀ hd, TailOK au w hd z v) ∧ (m' = 0 → ∃ ad, v = .slice ad 0 0) := by
        intro m' hb hm hmc
        refine ⟨.slice (if m'.toNat = l.toNat then ad else ad.map (·.add (l.toNat * z))) (u.toNat - l.toNat) (m'.toNat - l.toNat), ?_, ?_, fun e hd => ⟨_, _, _, rfl, .inl (by rw [e])⟩, fun e => ?_⟩
        · have := run_sliceOp ho hut hi' hv hb
          rw [hsz] at this; exact this
        · by_cases hne : (xs.take u.toNat).drop l.toNat = []
          · rw [hne]
            rw [hne] at hlen
            simp at hlen
            rw [← hlen]; exact .sl0
          · have hpos : 0 < u.toNat - l.toNat := by rw [← hlen]; exact List.length_pos_iff.2 hne
            have hxne : xs ≠ [] := by rintro rfl; simp at hne
            obtain ⟨b, off, rfl, he⟩ := hxs hxne
            rw [if_neg (by omega), ElemsAt.addr (n := 0), ← hlen]
            refine .sl hne ?_ (he.sub _ _)
            rw [hlen]; omega
        · have e1 : u.toNat - l.toNat = 0 := by omega
          have e2 : m'.toNat - l.toNat = 0 := by omega
          rw [e1, e2]; exact ⟨_, rfl⟩
      cases mx with
      | none =>
        simp [sliceIx] at em; subst em
        obtain ⟨v, g1, g2, g3, _⟩ := main cap (run_sliceBounds h (m := cap) el eu (.inl ⟨rfl, rfl⟩) h0 h1 (by omega) (Int.le_refl _)) (by omega) (Int.le_refl _)
        simp only [isZero, Option.isSome_none, Bool.false_and, Bool.false_eq_true, if_false] at hk
        exact does_plain h g1 (.d g2) (fun _ => trivial) hk
      | some mo =>
        cases hi with
        | none => simp at hhi
        | some ho' =>
        obtain ⟨v, g1, g2, g3, g4⟩ := main m (run_sliceBounds h (m := m) el eu (.inr ⟨em, rfl, rfl⟩) h0 h1 h2 (by omega)) h2 (by omega)
        split at hk
        · rename_i hzr
          obtain ⟨k, hk'⟩ := isZero_some hzr
          injection hk' with hk'; subst hk'
          have hm0 : m = 0 := by simp [sliceIx, ev, constV, constD] at em; omega
          obtain ⟨ad', rfl⟩ := g4 hm0
          exact does_plain h g1 .nil (fun _ => trivial) hk
        · split at hk
          · rename_i hm0
            simp only [Option.isSome_some, Bool.true_and, Bool.not_eq_true'] at hm0
            subst hm0
            split at hk
            · rename_i heq
              exact does_plain h g1 (.own g2) (fun hd => g3 heq _) hk
            · exact does_plain h g1 (.d g2) (fun _ => trivial) hk
          · exact does_plain h g1 (.d g2) (fun _ => trivial) hk
    · exact hk.elim
  · rename_i z e
    split at hk
    · rename_i l u m el eu em
      obtain ⟨hz, hhi, rfl, rfl, rfl, hk⟩ := hk
      obtain ⟨ty, i, zv, hut, hi', _, hsz⟩ := elI_map hz
      have hr := (ev_rep (P := P) h t x).cp
      rw [e] at hr
      generalize hv : a.eval x = v at hr
      cases hr with
      | nil =>
        rename_i ad
        have hbnd := run_sliceBounds (P := P) h (b := true) (len := 0) (cap := 0) (m := 0) (lo := lo) (hi := hi) (mx := mx) el eu (by
          cases mx with
          | none => exact .inl ⟨rfl, rfl⟩
          | some mo => exact .inr ⟨em, rfl, by simpa using hhi⟩) (Int.le_refl _) (Int.le_refl _) (Int.le_refl _) (Int.le_refl _)
        exact does_plain h (run_sliceOp ho hut hi' hv hbnd) .nil (fun _ => trivial) hk
    · exact hk.elim
  · rename_i bs e
    split at hk
    · rename_i l u el eu
      obtain ⟨hut, h0, h1, h2, hk⟩ := hk
      have hr := repD_str (ev_cp_d h e)
      refine does_plain h ?_ (.d (.str _)) (fun _ => trivial) hk
      unfold execOp; rw [ho]; refine run_v ?_
      unfold Instr.sliceAt
      rw [Sem.run_bind, run_underlying hut]; simp only [Result.andThen_ok]
      unfold Instr.slice
      rw [Sem.run_bind, run_underlying hut]; simp only [Result.andThen_ok, hr, Option.map_none, Option.isSome_none, Bool.false_eq_true, if_false]
      have := run_sliceBounds (P := P) h (b := false) (len := bs.size) (cap := bs.size) (m := bs.size) (lo := lo) (hi := hi) (mx := none) el eu (.inl ⟨rfl, rfl⟩) h0 h1 (by omega) (Int.le_refl _)
      simp only [Option.map_none] at this
      rw [Sem.run_bind, this]; rfl
    · exact hk.elim
  · rename_i id z off len cap e
    split at hk
    · rename_i l u m el eu em
      obtain ⟨hz, hhi, h0, h1, h2, h3, hk⟩ := hk
      obtain ⟨ty, i, zv, hut, hi', _, hsz⟩ := elI_map hz
      have hr := (ev_rep (P := P) h t x).cp
      rw [e] at hr
      generalize hv : a.eval x = v at hr
      have hbnds : (mx = none ∧ m = cap) ∨ (sliceIx P s 0 mx = some m ∧ mx.isSome = true ∧ hi.isSome = true) := by
        cases mx with
        | none => simp [sliceIx] at em; exact .inl ⟨rfl, em.symm⟩
        | some mo => exact .inr ⟨em, rfl, by simpa using hhi⟩
      have hzero : isZero mx = true → m = 0 := fun hzr => by
        obtain ⟨k, hk'⟩ := isZero_some hzr
        subst hk'
        simp [sliceIx, ev, constV, constD] at em; omega
      cases hr with
      | ref0 =>
        have hl0 : l = 0 := by omega
        have hu0 : u = 0 := by omega
        have hm0 : m = 0 := by omega
        subst hl0; subst hu0; subst hm0
        rename_i ad
        have hbnd := run_sliceBounds (P := P) h (b := true) (len := 0) (cap := 0) (m := 0) (lo := lo) (hi := hi) (mx := mx) el eu hbnds h0 h1 (by omega) (Int.le_refl _)
        split at hk
        · exact does_plain h (run_sliceOp ho hut hi' hv hbnd) .nil (fun _ => trivial) hk
        · exact does_plain h (run_sliceOp ho hut hi' hv hbnd) .ref0 (fun _ => trivial) hk
      | ref hb hcap had =>
        rename_i b ad
        have hbnd := run_sliceBounds (P := P) h (b := true) (len := len) (cap := cap) (m := m) (lo := lo) (hi := hi) (mx := mx) el eu hbnds h0 h1 h2 h3
        split at hk
        · rename_i hzr
          have hm0 := hzero hzr
          have e1 : u.toNat - l.toNat = 0 := by omega
          have e2 : m.toNat - l.toNat = 0 := by omega
          have := run_sliceOp ho hut hi' hv hbnd
          rw [e1, e2] at this
          exact does_plain h this .nil (fun _ => trivial) hk
        · refine does_plain h (run_sliceOp ho hut hi' hv hbnd) (.ref hb (by omega) fun hpos => ?_) (fun _ => trivial) hk
          obtain rfl := had (by omega)
          rw [if_neg (by omega), ElemsAt.addr (n := 0), Nat.add_mul, hsz]
    · exact hk.elim
  · exact hk.elim

end
end Go.Idl
end
