/- Drawn regions, part 5: free operations, and others that stand in a row, each of which makes new things. -/
import Derived.Test.YtkfpaffcglijeaaAuditOrderPart15
set_option linter.all false
namespace Go.Idl
set_option linter.unusedSimpArgs false
set_option linter.unusedVariables false

/-- X: the operations that are not free; L: those of them that need not wait for all free ones -/
def chPrev (X : List Nat) (xi : Bool) (mask u w : Nat) (al : Bool) : Nat → List Seen → Bool
  | _, [] => true
  | j, p :: r => (bif xi then
        (bif X.contains j then true else Nat.testBit mask j || (Nat.beq (Nat.land w (Nat.lor p.u p.w)) 0 && Nat.beq (Nat.land p.w u) 0))
      else
        (bif X.contains j then Nat.beq (Nat.land p.w (Nat.lor u w)) 0 && Nat.beq (Nat.land w p.u) 0 else Nat.testBit mask j || !conflictM u w al p.u p.w p.al)) && chPrev X xi mask u w al (j + 1) r
def notBox (o : Oper) : Bool := match o.op with | .box _ _ => false | _ => true
def chGo (all : List Oper) (X L : List Nat) : Nat → List Oper → List Seen → List Nat → Bool
  | _, [], _, _ => true
  | i, o :: r, prev, acc => forceN (maskOf o acc) fun mask => forceN (maskL (opUses all o)) fun u => forceN (maskL (opWrites o)) fun w =>
      (o.after.toList.all fun e => !Region.binds .any e || decide (e.on < i)) && (bif X.contains i then (bif L.contains i then o.guard.isNone && notBox o else (List.range all.length).all fun j => X.contains j || Nat.testBit mask j) else !isAlloc o) && chPrev X (X.contains i) mask u w (isAlloc o) 0 prev && chGo all X L (i + 1) r (prev ++ [⟨u, w, isAlloc o⟩]) (acc ++ [mask])
def chChk (X L : List Nat) (ops : Array Oper) : Bool := chGo ops.toList X L 0 ops.toList [] []
theorem chPrev_spec {X : List Nat} {xi : Bool} {mask u w : Nat} {al : Bool} : ∀ {l : List Seen} {j : Nat}, chPrev X xi mask u w al j l = true → ∀ k p, l[k]? = some p →
    (xi = true → X.contains (j + k) = false → Nat.testBit mask (j + k) = true ∨ (Nat.beq (Nat.land w (Nat.lor p.u p.w)) 0 = true ∧ Nat.beq (Nat.land p.w u) 0 = true)) ∧
    (xi = false → (X.contains (j + k) = true → Nat.beq (Nat.land p.w (Nat.lor u w)) 0 = true ∧ Nat.beq (Nat.land w p.u) 0 = true) ∧ (X.contains (j + k) = false → Nat.testBit mask (j + k) = true ∨ conflictM u w al p.u p.w p.al = false))
  | [], _, _, k, p, hp => by simp at hp
  | q :: r, j, h, k, p, hp => by
    simp only [chPrev, Bool.and_eq_true] at h
    cases k with
    | zero =>
      simp at hp; subst hp
      have h1 := h.1
      rw [Nat.add_zero]
      refine ⟨fun e e2 => ?_, fun e => ?_⟩
      · subst e
        simp only [cond_true, e2, cond_false, Bool.or_eq_true, Bool.and_eq_true] at h1
        exact h1
      · subst e
        simp only [cond_false] at h1
        refine ⟨fun e => ?_, fun e => ?_⟩
        · rw [e] at h1; simpa only [cond_true, Bool.and_eq_true] using h1
        · rw [e] at h1; simpa only [cond_false, Bool.or_eq_true, Bool.not_eq_true'] using h1
    | succ k =>
      have := chPrev_spec h.2 k p (by simpa using hp)
      rw [show j + (k + 1) = j + 1 + k by omega]; exact this
theorem chGo_spec {all : List Oper} {X L : List Nat} : ∀ (rest : List Oper) (i : Nat) (prev : List Seen) (acc : List Nat), chGo all X L i rest prev acc = true → rest = all.drop i → acc.length = i → prev = (all.take i).map (fun o => ⟨maskL (opUses all o), maskL (opWrites o), isAlloc o⟩) →
    ∀ k o, i ≤ k → all[k]? = some o → (∀ e ∈ o.after, Region.binds .any e = true → e.on < k) ∧ (X.contains k = true → (L.contains k = true → o.guard = none ∧ notBox o = true) ∧ (L.contains k = false → ∀ j, j < all.length → X.contains j = false → Nat.testBit ((predsL rest acc).getD k 0) j = true)) ∧ (X.contains k = false → isAlloc o = false) ∧ ∀ j p, j < k → all[j]? = some p →
      (X.contains k = true → X.contains j = false → Nat.testBit ((predsL rest acc).getD k 0) j = true ∨ (Nat.beq (Nat.land (maskL (opWrites o)) (Nat.lor (maskL (opUses all p)) (maskL (opWrites p)))) 0 = true ∧ Nat.beq (Nat.land (maskL (opWrites p)) (maskL (opUses all o))) 0 = true)) ∧
      (X.contains k = false → (X.contains j = true → Nat.beq (Nat.land (maskL (opWrites p)) (Nat.lor (maskL (opUses all o)) (maskL (opWrites o)))) 0 = true ∧ Nat.beq (Nat.land (maskL (opWrites o)) (maskL (opUses all p))) 0 = true) ∧ (X.contains j = false → Nat.testBit ((predsL rest acc).getD k 0) j = true ∨ conflict all o p = false))
  | [], i, prev, acc, _, hr, _, _, k, o, hk, ho => by
    have hlt := (List.getElem?_eq_some_iff.1 ho).1
    have := congrArg List.length hr
    simp at this; omega
  | q :: r, i, prev, acc, h, hr, ha, hp, k, o, hk, ho => by
    simp only [chGo, forceN_eq, Bool.and_eq_true] at h
    obtain ⟨⟨⟨h1, h2⟩, h3⟩, h4⟩ := h
    have hq : all[i]? = some q := by have := congrArg (·[0]?) hr; simpa using this.symm
    have hil : i < all.length := (List.getElem?_eq_some_iff.1 hq).1
    rcases Nat.lt_or_eq_of_le hk with hlt | rfl
    · have := chGo_spec r (i + 1) _ _ h4 (by have := congrArg List.tail hr; simpa [List.tail_drop] using this) (by simp [ha]) (by rw [hp, List.take_succ, hq]; simp) k o hlt ho
      simpa only [predsL] using this
    · rw [hq] at ho; injection ho with ho; subst ho
      have hmask : (predsL (q :: r) acc).getD i 0 = maskOf q acc := by
        unfold predsL
        rw [predsL_get r _ i (by simp [ha]), List.getD, List.getElem?_append_right (by omega)]
        simp [ha]
      refine ⟨fun e he hb => ?_, fun e => ⟨fun e2 => ?_, fun e2 j hj hx => ?_⟩, fun e => ?_, fun j p hj hpj => ?_⟩
      · rw [List.all_eq_true] at h1
        have := h1 e (by simpa using he)
        simpa [hb] using this
      · rw [e, e2] at h2; simpa using h2
      · rw [e, e2] at h2
        simp only [cond_true, cond_false, List.all_eq_true, Bool.or_eq_true] at h2
        rw [hmask]
        exact (h2 j (List.mem_range.2 hj)).resolve_left (by rw [hx]; decide)
      · rw [e] at h2; simpa using h2
      · have hpl : prev[j]? = some ⟨maskL (opUses all p), maskL (opWrites p), isAlloc p⟩ := by
          rw [hp, List.getElem?_map, List.getElem?_take_of_lt hj, hpj]; rfl
        have := chPrev_spec h3 j _ hpl
        rw [Nat.zero_add] at this
        rw [hmask]; exact this

/-- what the test says of the region -/
structure ChOK (X L : List Nat) (ops : Array Oper) : Prop where
  lt : ∀ i o, ops[i]? = some o → ∀ e ∈ o.after, Region.binds .any e = true → e.on < i
  ng : ∀ i o, ops[i]? = some o → i ∈ X → i ∈ L → o.guard = none ∧ notBox o = true
  tl : ∀ i o, ops[i]? = some o → i ∈ X → i ∉ L → ∀ j, j < ops.size → j ∉ X → Nat.testBit ((predsL ops.toList []).getD i 0) j = true
  na : ∀ i o, ops[i]? = some o → i ∉ X → isAlloc o = false
  ff : ∀ i j o p, ops[i]? = some o → ops[j]? = some p → j < i → i ∉ X → j ∉ X → Nat.testBit ((predsL ops.toList []).getD i 0) j = true ∨ conflict ops.toList o p = false
  xf : ∀ x f ox fo, ops[x]? = some ox → ops[f]? = some fo → x ∈ X → f ∉ X → Nat.testBit ((predsL ops.toList []).getD x 0) f = true ∨ ((∀ t ∈ opWrites ox, t ∉ opUses ops.toList fo ∧ t ∉ opWrites fo) ∧ ∀ t ∈ opWrites fo, t ∉ opUses ops.toList ox)
theorem chChk_spec {X L : List Nat} {ops : Array Oper} (h1 : chChk X L ops = true) : ChOK X L ops := by
  have key := fun k o (ho : ops[k]? = some o) => chGo_spec (all := ops.toList) ops.toList 0 [] [] h1 (by simp) rfl (by simp) k o (Nat.zero_le _) (by simpa using ho)
  have hc : ∀ (X : List Nat) x, x ∈ X → X.contains x = true := fun X x => by simp
  have hcf : ∀ (X : List Nat) x, x ∉ X → X.contains x = false := fun X x hx => by simpa using hx
  refine ⟨fun i o ho => (key i o ho).1, fun i o ho hi hl => ((key i o ho).2.1 (hc X i hi)).1 (hc L i hl), fun i o ho hi hl j hj hx => ((key i o ho).2.1 (hc X i hi)).2 (hcf L i hl) j (by simpa using hj) (hcf X j hx), fun i o ho hi => (key i o ho).2.2.1 (hcf X i hi), fun i j o p ho hp hji hi hj => ?_, fun x f ox fo hox hfo hx hf => ?_⟩
  · exact (((key i o ho).2.2.2 j p hji (by simpa using hp)).2 (hcf X i hi)).2 (hcf X j hj)
  · rcases Nat.lt_trichotomy f x with hlt | rfl | hgt
    · rcases ((key x ox hox).2.2.2 f fo hlt (by simpa using hfo)).1 (hc X x hx) (hcf X f hf) with q | ⟨q1, q2⟩
      · exact .inl q
      · exact .inr ⟨land_zero2 q1, land_zero q2⟩
    · exact absurd hx hf
    · obtain ⟨q1, q2⟩ := (((key f fo hfo).2.2.2 x ox hgt (by simpa using hox)).2 (hcf X f hf)).1 (hc X x hx)
      exact .inr ⟨land_zero2 q1, land_zero q2⟩

section
variable {P : Program} {κ : Ctx} {K : St → Prop}
/-- what the row has done so far -/
def appG (W : List (Nat × V)) (E : List IObj) (t : St) : St := { tm := writeTm t.tm W, hp := E, nb := t.nb }
theorem writeTm_append : ∀ (W W' : List (Nat × V)) (tm : List V), writeTm tm (W ++ W') = writeTm (writeTm tm W) W'
  | [], _, _ => rfl
  | (i, v) :: W, W', tm => by simp only [List.cons_append, writeTm]; exact writeTm_append W W' _
theorem writeTm_comm : ∀ (W ws : List (Nat × V)) (tm : List V), (∀ p ∈ ws, ∀ q ∈ W, p.1 ≠ q.1) → writeTm (writeTm tm W) ws = writeTm (writeTm tm ws) W
  | [], _, _, _ => rfl
  | (i, v) :: W, ws, tm, h => by
    simp only [writeTm]
    rw [writeTm_comm W ws (tm.set i v) fun p hp q hq => h p hp q (by simp [hq]), writeTm_set ws tm i v fun p hp => h p hp (i, v) (by simp)]
theorem app_appG {e : Eff} {W : List (Nat × V)} {E : List IObj} {s : St} (hp : e.push = none) (h : ∀ p ∈ e.ws, ∀ q ∈ W, p.1 ≠ q.1) : e.app (appG W E s) = appG W E (e.app s) := by
  simp [Eff.app, appG, hp, writeTm_comm W e.ws s.tm h]

/-- a call that leaves what there is -/
def callY (P : Program) (c : Call) (s : St) (dst : Option Nat) (K : St → Prop) : Prop :=
  match c.callee with
  | .value g => match ev P 0 s g with
    | .fn (.func f) caps => (argVs P s c ++ caps).all V.bare = true ∧ (bif hasBody P f then CallK P f (argVs P s c ++ caps) s.hp fun r hp' => hp'.take s.hp.length = s.hp ∧ K ({ s with hp := hp' }.put dst r)
        else CallE P f (argVs P s c ++ caps) s.hp fun r hp' => hp'.take s.hp.length = s.hp ∧ K ({ s with hp := hp' }.put dst r))
    | _ => False
  | _ => False
def V.isOwn : V → Bool
  | .own _ _ | .hold _ _ => true
  | _ => false
/-- an operation that feels no other one, but makes new things, or changes what was made -/
def locStep (P : Program) (base : Nat) (o : SOp) (s : St) (K : St → Prop) : Prop :=
  match o.op with
  | .call ⟨.value g, xs, ts⟩ => o.h = 0 ∧ callY P ⟨.value g, xs, ts⟩ s o.d K
  | .alloc t => o.h = 0 ∧ (match zeroVs P t with
    | some cs => K (({ s with hp := s.hp ++ [IObj.var cs] } : St).put o.d (.ptr s.hp.length 0))
    | none => False)
  | .buildSlice t n ps => if o.h = 2 then heapK P ⟨o.d, .buildSlice t n ps, o.t, none, false, 2⟩ s K else o.h = 0 ∧ freeStep P s.hp.length o.oper s K
  | .makeSlice t l c => if o.h = 2 then heapK P ⟨o.d, .makeSlice t l c, o.t, none, false, 2⟩ s K else o.h = 0 ∧ freeStep P s.hp.length o.oper s K
  | .store t a x => o.h = 0 ∧ (match ev P 0 s a with
    | .ptr id off => base ≤ id ∧ (ev P t s x).isOwn = false ∧ storeK P t (.ptr id off) x (ev P t s x) s o.d K
    | _ => False)
  | _ => o.h = 0 ∧ freeStep P s.hp.length o.oper s K
theorem at_same {t : TypeId} {s : St} {x : Operand} (h : (ev P t s x).isOwn = false) (ht : (ev P t s x).known = true) : s.at_ x (ev P t s x).cp = s.tm := by
  have hcp : (ev P t s x).cp = ev P t s x := by
    generalize ev P t s x = v at *
    cases v <;> first | rfl | (cases h; done) | (cases ht; done)
  rw [hcp]
  cases x with
  | tmp i =>
    simp only [St.at_, ev]
    apply List.ext_getElem?
    intro j
    rw [List.getElem?_set]
    by_cases e : i = j
    · subst e
      by_cases hi : i < s.tm.length
      · simp [List.getD, hi]
      · simp [hi]
    · simp [e]
  | _ => rfl
theorem Does.mono {o : Oper} {a : Act} {w : World} {K K' : St → Prop} (h : Does P κ o a w K) (hk : ∀ s, K s → K' s) : Does P κ o a w K' := by
  obtain ⟨nx, w', h1, h2⟩ := h
  refine ⟨nx, w', h1, ?_⟩
  cases nx <;> simp only at h2 ⊢
  · obtain ⟨s', k1, k2⟩ := h2; exact ⟨s', hk _ k1, k2⟩
  · obtain ⟨s', k1, k2⟩ := h2; exact ⟨s', hk _ k1, k2⟩
  · exact CallsIn.mono h2 fun e w'' ⟨v, s', q1, q2, q3⟩ => ⟨v, s', q1, hk _ q2, q3⟩
  · exact RoundIn.mono h2 fun e w'' ⟨v, s', q1, q2, q3⟩ => ⟨v, s', q1, hk _ q2, q3⟩
theorem loc_does {base : Nat} {all : List Oper} {o : Oper} {hh : Nat} {σ ρ : St} {a : Act} {w : World} (hbs : base ≤ ρ.hp.length) (hhp : σ.hp = ρ.hp) (hu : ∀ y ∈ opUses all o, σ.tm[y]? = ρ.tm[y]?) (hal : isAlloc o = false ∨ ∃ t, o.op = .alloc t) (h : locStep P base ⟨o.dst, o.op, o.type, none, false, hh⟩ ρ K) (hr : Rel κ σ a w) :
    Does P κ o a w (fun σ' => ∃ W' ext, σ' = appG W' ext σ ∧ (∀ q ∈ W', q.1 ∈ opWrites o) ∧ (base ≤ ext.length ∧ ∀ id, id < base → ext[id]? = ρ.hp[id]?) ∧ K (appG W' ext ρ)) ∧ ∀ c, o.op ≠ .defer c := by
  have hev : ∀ z ∈ o.op.operands, ∀ t, ev P t σ z = ev P t ρ z := fun z hz t => by
    cases z with
    | tmp y =>
      have : y ∈ opUses all o := List.mem_append_left _ (List.mem_filterMap.2 ⟨.tmp y, by simpa using hz, rfl⟩)
      simp only [Idl.ev, List.getD_eq_getElem?_getD, hu y this]
    | const v => rfl
    | «global» g => rfl
    | func f => rfl
  -- what a put is
  have hput : ∀ (t : St) (v : V) (ext : List IObj), ({ t with hp := ext } : St).put o.dst v = appG (o.dst.toList.map fun d => (d, v)) ext t := fun t v ext => by
    cases hd : o.dst <;> simp [appG, St.put, writeTm]
  have hwr : ∀ v : V, ∀ q ∈ (o.dst.toList.map fun d => (d, v)), q.1 ∈ opWrites o := fun v q hq => by
    obtain ⟨d, hd, rfl⟩ := List.mem_map.1 hq
    exact List.mem_append_left _ hd
  have fin : ∀ (v : V) (ext : List IObj), K (({ ρ with hp := ρ.hp ++ ext } : St).put o.dst v) → ∃ W' ext', ({ σ with hp := σ.hp ++ ext } : St).put o.dst v = appG W' ext' σ ∧ (∀ q ∈ W', q.1 ∈ opWrites o) ∧ (base ≤ ext'.length ∧ ∀ id, id < base → ext'[id]? = ρ.hp[id]?) ∧ K (appG W' ext' ρ) := fun v ext hk => ⟨_, σ.hp ++ ext, hput σ v _, hwr v, ⟨by rw [hhp, List.length_append]; omega, fun id hid => by rw [hhp, List.getElem?_append_left (by omega)]⟩, by rw [hhp, ← hput]; exact hk⟩
  have free : hh = 0 ∧ freeStep P ρ.hp.length (SOp.oper ⟨o.dst, o.op, o.type, none, false, hh⟩) ρ K → isAlloc o = false → Does P κ o a w (fun σ' => ∃ W' ext, σ' = appG W' ext σ ∧ (∀ q ∈ W', q.1 ∈ opWrites o) ∧ (base ≤ ext.length ∧ ∀ id, id < base → ext[id]? = ρ.hp[id]?) ∧ K (appG W' ext ρ)) ∧ ∀ c, o.op ≠ .defer c := fun ⟨h0, hk⟩ ha => by
    subst h0
    rw [freeStep_eq] at hk
    obtain ⟨e, g1, g2, g3, g4⟩ := freeStep_local (all := all) hk
    have hs := g4 σ ⟨fun y hy => hu y hy, fun id _ => by rw [hhp], fun _ => hhp⟩
    have hp := g3 ha
    have happ : ∀ t : St, e.app t = appG e.ws t.hp t := fun t => by simp [Eff.app, appG, hp]
    refine ⟨?_, fun c => freeStep_nodefer hs⟩
    exact (freeStep_sound hr hs).mono fun s' hs' => by
      subst hs'
      exact ⟨e.ws, σ.hp, happ σ, g2, ⟨by rw [hhp]; exact hbs, fun id _ => by rw [hhp]⟩, by rw [hhp, ← happ]; exact g1⟩
  have alloc : isAlloc o = false ∨ ∃ t, o.op = .alloc t := hal
  have step : ∀ {g : Option (Option Nat × Bool)}, sStep P ⟨o.dst, o.op, o.type, g, takes o.dst [], hh⟩ σ (fun σ' => ∃ W' ext, σ' = appG W' ext σ ∧ (∀ q ∈ W', q.1 ∈ opWrites o) ∧ (base ≤ ext.length ∧ ∀ id, id < base → ext[id]? = ρ.hp[id]?) ∧ K (appG W' ext ρ)) → Does P κ o a w (fun σ' => ∃ W' ext, σ' = appG W' ext σ ∧ (∀ q ∈ W', q.1 ∈ opWrites o) ∧ (base ≤ ext.length ∧ ∀ id, id < base → ext[id]? = ρ.hp[id]?) ∧ K (appG W' ext ρ)) ∧ ∀ c, o.op ≠ .defer c := fun hk => ⟨sStep_sound hr hk, fun c => sStep_nodefer hk⟩
  unfold locStep at h
  split at h
  · rename_i g xs ts hop
    obtain ⟨h0, h⟩ := h
    simp only at h0 hop
    subst h0
    have hav : argVs P σ ⟨.value g, xs, ts⟩ = argVs P ρ ⟨.value g, xs, ts⟩ := by
      unfold Idl.argVs
      refine List.map_congr_left fun p hp => ?_
      obtain ⟨z, t⟩ := p
      have hz : z ∈ xs := by have := (List.of_mem_zip hp).1; simpa using this
      simp only
      rw [hev z (by rw [hop]; simp only [Op.operands, Call.operands]; exact Array.mem_append.2 (.inr hz))]
    have hge := hev g (by rw [hop]; simp [Op.operands, Call.operands]) 0
    refine step (g := none) ?_
    simp only [sStep, if_true, hop, stepK, SOp.oper]
    unfold callY at h
    simp only at h
    split at h
    · rename_i f caps ef
      obtain ⟨hbare, hcall⟩ := h
      unfold callK
      simp only
      unfold callK0
      simp only [hge, ef, hav]
      refine ⟨hbare, ?_⟩
      cases hb : hasBody P f with
      | true =>
        rw [hb] at hcall
        simp only [cond_true] at hcall ⊢
        rw [hhp]
        refine CallK.mono hcall fun r' hp' ⟨ht, hk⟩ => ?_
        have he : hp' = ρ.hp ++ hp'.drop ρ.hp.length := by conv => lhs; rw [← List.take_append_drop ρ.hp.length hp', ht]
        have := fin r' (hp'.drop ρ.hp.length) (by rw [← he]; exact hk)
        rw [hhp, ← he] at this
        exact this
      | false =>
        rw [hb] at hcall
        simp only [cond_false] at hcall ⊢
        rw [hhp]
        intro Φ B au w' cargs hi
        obtain ⟨v, r', hp', w2, e1, ⟨ht, hk⟩, e2⟩ := hcall Φ B au w' cargs hi
        refine ⟨v, r', hp', w2, e1, ?_, e2⟩
        have he : hp' = ρ.hp ++ hp'.drop ρ.hp.length := by conv => lhs; rw [← List.take_append_drop ρ.hp.length hp', ht]
        have := fin r' (hp'.drop ρ.hp.length) (by rw [← he]; exact hk)
        rw [hhp, ← he] at this
        exact this
    · exact h.elim
  · rename_i t hop
    obtain ⟨h0, h⟩ := h
    simp only at h0 hop
    subst h0
    refine step (g := none) ?_
    simp only [sStep, if_true, hop, stepK, SOp.oper]
    split at h
    · rename_i cs hz
      simp only [hz]
      have := fin _ _ h
      rw [hhp] at this ⊢
      exact this
    · exact h.elim
  · rename_i t n ps hop
    simp only at hop
    split at h
    · rename_i h2
      simp only at h2
      subst h2
      have e : ∀ e : TypeId, (ps.toList.map fun p => (p.1, ev P e σ p.2)) = ps.toList.map fun p => (p.1, ev P e ρ p.2) := fun e => by
        refine List.map_congr_left fun p hp => ?_
        rw [hev p.2 (by rw [hop]; simp only [Op.operands]; exact List.mem_toArray.2 (List.mem_map.2 ⟨p, hp, rfl⟩))]
      refine step (g := none) ?_
      simp only [sStep, show ¬ (2 = 0) by decide, if_false, hop]
      obtain ⟨tm, hp, nb⟩ := ρ
      obtain ⟨tm', hp', nb'⟩ := σ
      simp only at hhp
      subst hhp
      rw [h_build2] at h ⊢
      split at h
      · rename_i e' z y e1 e2
        rw [e e']
        split at h
        · rename_i zs hz
          split at h
          · rename_i cs hcs
            obtain ⟨a1, a2, a3, a4, hk⟩ := h
            exact ⟨a1, a2, a3, a4, fin _ _ hk⟩
          · exact h.elim
        · exact h.elim
      · exact h.elim
    · exact free h (by unfold isAlloc; rw [hop])
  · rename_i t l c hop
    simp only at hop
    split at h
    · rename_i h2
      simp only at h2
      subst h2
      have el := hev l (by rw [hop]; simp [Op.operands]) 0
      have ec := hev c (by rw [hop]; simp [Op.operands]) 0
      refine step (g := none) ?_
      simp only [sStep, show ¬ (2 = 0) by decide, if_false, hop]
      obtain ⟨tm, hp, nb⟩ := ρ
      obtain ⟨tm', hp', nb'⟩ := σ
      simp only at hhp
      subst hhp
      rw [h_make2] at h ⊢
      rw [el, ec]
      split at h
      · rename_i e' z y k n k' m e1 e2 e3 e4
        split at h
        · rename_i zs hz
          obtain ⟨a1, a2, a3, a4, a5, a6, a7, hk⟩ := h
          exact ⟨a1, a2, a3, a4, a5, a6, a7, fin _ _ hk⟩
        · exact h.elim
      · exact h.elim
    · exact free h (by unfold isAlloc; rw [hop])
  · rename_i t ad x hop
    obtain ⟨h0, h⟩ := h
    simp only at h0 hop
    subst h0
    have ea := hev ad (by rw [hop]; simp [Op.operands]) 0
    have ex := hev x (by rw [hop]; simp [Op.operands]) t
    refine step (g := none) ?_
    simp only [sStep, if_true, hop, stepK, SOp.oper]
    split at h
    · rename_i id off ep
      obtain ⟨hb, ho, hk⟩ := h
      rw [ea, ep, ex]
      unfold storeK at hk ⊢
      simp only at hk ⊢
      rw [hhp]
      split at hk
      · rename_i cs hcs
        obtain ⟨a1, a2, a3, a4, hk⟩ := hk
        refine ⟨a1, a2, a3, a4, ?_⟩
        rw [at_same ho a4] at hk
        have e2 : σ.at_ x (ev P t ρ x).cp = σ.tm := by
          rw [← ex] at ho a4 ⊢
          exact at_same ho a4
        rw [e2]
        refine ⟨_, _, hput σ .un _, hwr .un, ⟨by simpa using hbs, fun j hj => ?_⟩, by rw [← hput]; exact hk⟩
        rw [List.getElem?_set_ne (by omega)]
      · exact hk.elim
    · exact h.elim
  · rename_i n1 n2 n3 n4 n5
    refine free h ?_
    rcases alloc with q | ⟨t, q⟩
    · exact q
    · exact absurd q (n2 t)

def locLB (P : Program) (base : Nat) (L : List Nat) (next : List Bool → St → Prop) (done : List Bool) (s : St) : Nat → List (SOp × List Nat) → Prop
  | _, [] => True
  | i, (o, pm) :: r => (bif !(done.getD i false) && pm.all (fun j => done.getD j false) then (bif L.contains i then locStep P base o s (fun s' => next (done.set i true) s') else sOps P [o] s (fun s' => next (done.set i true) s')) else True) ∧ locLB P base L next done s (i + 1) r
/-- the operations that are not free, in each order that may be -/
def anyXB (P : Program) (base : Nat) (L : List Nat) (ops : List (SOp × List Nat)) (K : St → Prop) : Nat → List Bool → St → Prop
  | 0, _, s => K s
  | n + 1, done, s => locLB P base L (anyXB P base L ops K n) done s 0 ops

theorem locStep_k {base : Nat} {d : Option Nat} {op : Op} {t : TypeId} {g : Option (Option Nat × Bool)} {k : Bool} {h : Nat} {s : St} {K : St → Prop} : locStep P base ⟨d, op, t, g, k, h⟩ s K = locStep P base ⟨d, op, t, none, false, h⟩ s K := by
  cases op with
  | call c => obtain ⟨callee, xs, ts⟩ := c; cases callee <;> rfl
  | _ => rfl
theorem locStep_zero {base : Nat} {o : SOp} {s : St} {K : St → Prop} (h : locStep P base o s K) : locStep P 0 o s K := by
  obtain ⟨d, op, t, g, k, hh⟩ := o
  cases op with
  | store u x y =>
    unfold locStep at h ⊢
    simp only at h ⊢
    obtain ⟨h0, h⟩ := h
    refine ⟨h0, ?_⟩
    split at h
    · obtain ⟨_, a, b⟩ := h; exact ⟨Nat.zero_le _, a, b⟩
    · exact h.elim
  | call c => obtain ⟨callee, xs, ts⟩ := c; cases callee <;> exact h
  | _ => exact h
theorem appG_appG {W W' : List (Nat × V)} {E E' : List IObj} {t : St} : appG W' E' (appG W E t) = appG (W ++ W') E' t := by simp [appG, writeTm_append]
theorem locLB_get {base : Nat} {L : List Nat} {next : List Bool → St → Prop} {done : List Bool} {s : St} : ∀ {ops : List (SOp × List Nat)} {b i : Nat} {o : SOp} {pm : List Nat}, locLB P base L next done s b ops → ops[i]? = some (o, pm) → done.getD (b + i) false = false → (pm.all fun j => done.getD j false) = true →
    (L.contains (b + i) = true → locStep P base o s (fun s' => next (done.set (b + i) true) s')) ∧ (L.contains (b + i) = false → sOps P [o] s (fun s' => next (done.set (b + i) true) s'))
  | [], b, i, o, pm, _, ho, _, _ => by simp at ho
  | (o', pm') :: r, b, i, o, pm, h, ho, hd, hp => by
    simp only [locLB] at h
    cases i with
    | zero =>
      simp at ho
      obtain ⟨rfl, rfl⟩ := ho
      rw [Nat.add_zero] at hd ⊢
      have h1 := h.1
      rw [hd, hp] at h1
      simp only [Bool.not_false, Bool.and_true, cond_true] at h1
      exact ⟨fun e => by rw [e] at h1; exact h1, fun e => by rw [e] at h1; exact h1⟩
    | succ i =>
      have := locLB_get h.2 (by simpa using ho) (by rw [show b + 1 + i = b + (i + 1) by omega]; exact hd) hp
      rw [show b + (i + 1) = b + 1 + i by omega]; exact this

section
variable {ops : Array Oper} {X L : List Nat} {base : Nat} {Q : Exit → Act → World → Prop} {es : List Eff} {s : St} {H : List (Nat × Nat)}
structure EsCh (P : Program) (base : Nat) (X : List Nat) (ops : Array Oper) (es : List Eff) (s : St) : Prop where
  len : es.length = ops.size
  hb : base ≤ s.hp.length
  xe : ∀ x ∈ X, x < ops.size → es[x]? = some noEff
  he : ∀ i o, i ∉ X → ops[i]? = some o → ∃ e, es[i]? = some e ∧ (∀ p ∈ e.ws, p.1 ∈ opWrites o) ∧ e.push = none ∧
    ∀ s', Agree ops.toList base o (stL (fun _ => true) 0 (es.take i) s) s' → freeOp P base ops.toList o s' (fun x => x = e.app s')
theorem EsCh.hp (hE : EsCh P base X ops es s) (L : Nat → Bool) : (stL L 0 es s).hp = s.hp := by
  refine stL_hp_none L 0 es s fun k e hk _ => ?_
  have hkm : k < ops.size := by rw [← hE.len]; exact (List.getElem?_eq_some_iff.1 hk).1
  by_cases hkx : k ∈ X
  · rw [hE.xe k hkx hkm] at hk; injection hk with hk; rw [← hk]; rfl
  · obtain ⟨e', h1, _, h3, _⟩ := hE.he k ops[k] hkx (by simp [hkm])
    rw [hk] at h1; injection h1 with h1; subst h1; exact h3
theorem ch_nil (hM : ChOK X L ops) {listed : Array Bool} (hs : listed.size = ops.size) (h : Region.ready .any ops listed = []) : ∀ i, i < ops.size → listed.getD i false = true := by
  intro i
  induction i using Nat.strongRecOn with
  | ind i ih =>
    intro hi
    refine Classical.byContradiction fun hno => ?_
    have : i ∈ Region.ready .any ops listed := (ready_iff hs).2 ⟨hi, by simpa using hno, fun o ho e he hb => by
      have := hM.lt i o ho e he hb
      exact ih e.on this (by omega)⟩
    rw [h] at this; cases this
theorem count_zero {listed : Array Bool} {n : Nat} (hs : listed.size = n) (hf : listed.toList.count false = 0) : ∀ i, i < n → listed.getD i false = true := fun i hi => by
  by_cases e : listed.getD i false = true
  · exact e
  · exfalso
    have e' : listed[i]'(by omega) = false := by simpa [Array.getD, show i < listed.size by omega] using e
    have : 0 < listed.toList.count false := List.count_pos_iff.2 (by rw [← e']; simp)
    omega
theorem count_pos {listed : Array Bool} {n k : Nat} (hs : listed.size = n) (hf : listed.toList.count false = k + 1) : ¬ ∀ i, i < n → listed.getD i false = true := fun hh => by
  have : listed.toList.count false = 0 := by
    rw [List.count_eq_zero]
    intro hm
    obtain ⟨i, hi, e⟩ := List.getElem_of_mem hm
    have := hh i (by simpa [hs] using hi)
    simp only [Array.getElem_toList] at e
    simp [Array.getD, show i < listed.size by simpa using hi, e] at this
  omega
/-- what an operation waits for is done -/
theorem ons_done {listed : Array Bool} {done : List Bool} {i : Nat} {o : Oper} (ho : ops[i]? = some o) (hw : Waits ops listed i) (h : ∀ j, listed.getD j false = true → done.getD j false = true) : ((onsOf o.after.toList).all fun j => done.getD j false) = true := by
  rw [List.all_eq_true]
  intro j hj
  obtain ⟨e, he, hb, rfl⟩ := onsOf_mem hj
  exact h _ (hw o ho e (by simpa using he) hb)
theorem set_getD (l : List Bool) (i j : Nat) (h : i < l.length) : (l.set i true).getD j false = (l.getD j false || j == i) := by
  simp only [List.getD_eq_getElem?_getD, List.getElem?_set]
  by_cases e : i = j
  · subst e; simp [h]
  · have e' : (j == i) = false := by simp; omega
    simp [e, e']
theorem stL_noEff (L L' : Nat → Bool) : ∀ (i : Nat) (es : List Eff) (s : St), (∀ k e, es[k]? = some e → L (i + k) = L' (i + k) ∨ e = noEff) → stL L i es s = stL L' i es s
  | _, [], _, _ => rfl
  | i, e :: es, s, h => by
    simp only [stL]
    have e1 : (if L i = true then e.app s else s) = if L' i = true then e.app s else s := by
      rcases h 0 e rfl with q | q
      · rw [show L i = L' i by simpa using q]
      · subst q; simp [noEff_app]
    rw [e1]
    exact stL_noEff L L' (i + 1) es _ fun k e' hk => by
      rw [show i + 1 + k = i + (k + 1) by omega]; exact h (k + 1) e' (by simpa using hk)
/-- behind the free ones -/
theorem ch_run2 (hM : ChOK X L ops) (hend : ∀ s' a' w', K s' → Rel κ s' a' w' → Q .normal a' w') :
    ∀ (fuel : Nat) (listed : Array Bool) (done : List Bool) (s : St) (a : Act) (w : World), listed.toList.count false = fuel → listed.size = ops.size → (∀ i, listed.getD i false = true → Waits ops listed i) → done.length = ops.size → (∀ j, listed.getD j false = done.getD j false) → (∀ j, j < ops.size → j ∉ X → listed.getD j false = true) →
    anyXB P base L (stripM H ops.toList ops.toList) K fuel done s → Rel κ s a w → wpAnyIn κ.F 0 P .any ops Q fuel listed a w := by
  intro fuel
  induction fuel with
  | zero =>
    intro listed done s a w hf hs hc hdl hd hF hk h
    have hall := count_zero hs hf
    refine ⟨?_, hend _ a w hk h⟩
    rw [List.eq_nil_iff_forall_not_mem]
    intro i hi
    obtain ⟨h1, h2, _⟩ := (ready_iff hs).1 hi
    rw [hall i h1] at h2; cases h2
  | succ fuel ih =>
    intro listed done s a w hf hs hc hdl hd hF hk h
    refine ⟨fun hn => absurd (ch_nil hM hs hn) (count_pos hs hf), fun i hi => ?_⟩
    obtain ⟨h1, h2, h3⟩ := (ready_iff hs).1 hi
    have ho : ops[i]? = some ops[i] := by simp [h1]
    have hiX : i ∈ X := Classical.byContradiction fun hn => by rw [hF i h1 hn] at h2; cases h2
    obtain ⟨r, hh, hget⟩ := stripM_get (H := H) (all := ops.toList) (l := ops.toList) (i := i) (o := ops[i]) (by simpa using ho)
    have hl := locLB_get (b := 0) hk hget (by rw [Nat.zero_add, ← hd]; exact h2) (ons_done ho h3 fun j hj => by rw [← hd]; exact hj)
    rw [Nat.zero_add] at hl
    have hnext : ∀ s' a' w', anyXB P base L (stripM H ops.toList ops.toList) K fuel (done.set i true) s' → Rel κ s' a' w' → wpAnyIn κ.F 0 P .any ops Q fuel (listed.setIfInBounds i true) a' w' := fun s' a' w' k1 k2 => by
      refine ih _ _ s' a' w' ?_ (by simpa using hs) (waits_set (by omega) h3 hc) (by simpa using hdl) (fun j => ?_) (fun j hj hx => ?_) k1 k2
      · have := count_set (l := listed) (i := i) (by omega) h2; omega
      · rw [getD_set _ _ _ (by omega), set_getD _ _ _ (by omega), hd]
      · rw [getD_set _ _ _ (by omega), hF j hj hx]; rfl
    cases hL : L.contains i with
    | false => exact sOne_sound h ho (hl.2 hL) hnext
    | true =>
      have hk' := hl.1 hL
      rw [locStep_k] at hk'
      replace hk' := locStep_zero hk'
      obtain ⟨hg, hnb⟩ := hM.ng i _ ho hiX (by simpa using hL)
      obtain ⟨hdo, hnd⟩ := loc_does (all := ops.toList) (σ := s) (Nat.zero_le _) rfl (fun _ _ => rfl) (by
        unfold notBox at hnb; unfold isAlloc
        cases hop : ops[i].op <;> first | exact .inl rfl | exact .inr ⟨_, rfl⟩ | (rw [hop] at hnb; cases hnb)) hk' h
      unfold wpOpIn
      simp only [ho]
      rw [if_pos (by simp [Region.wanted, hg])]
      exact hdo.wpIn hnd fun s' a' w' ⟨W', ext, e1, _, _, k1⟩ k2 => hnext s' a' w' (by rw [e1]; exact k1) k2
theorem ch_run (hM : ChOK X L ops) (hE : EsCh P base X ops es s) (hend : ∀ s' a' w', K s' → Rel κ s' a' w' → Q .normal a' w') :
    ∀ (fuel n : Nat) (listed : Array Bool) (done : List Bool) (W : List (Nat × V)) (E : List IObj) (a : Act) (w : World), listed.toList.count false = fuel → listed.size = ops.size → (∀ i, listed.getD i false = true → Waits ops listed i) → done.length = ops.size → (∀ j, j < ops.size → (done.getD j false = true ↔ j ∉ X ∨ listed.getD j false = true)) → done.count false = n →
    (∀ q ∈ W, ∃ x ∈ X, listed.getD x false = true ∧ ∃ ox, ops[x]? = some ox ∧ q.1 ∈ opWrites ox) → (base ≤ E.length ∧ ∀ id, id < base → E[id]? = s.hp[id]?) → anyXB P base L (stripM H ops.toList ops.toList) K n done (appG W E (stL (fun _ => true) 0 es s)) →
    Rel κ (appG W E (stL (fun j => listed.getD j false) 0 es s)) a w → wpAnyIn κ.F 0 P .any ops Q fuel listed a w := by
  intro fuel
  induction fuel with
  | zero =>
    intro n listed done W E a w hf hs hc hdl hd hn hW hEb hk h
    have hall := count_zero hs hf
    have hn0 : n = 0 := by
      rw [← hn, List.count_eq_zero]
      intro hm
      obtain ⟨i, hi, e⟩ := List.getElem_of_mem hm
      have := (hd i (by omega)).2 (.inr (hall i (by omega)))
      simp [List.getD, hi, e] at this
    subst hn0
    rw [stL_congr _ (fun _ => true) 0 es s fun k hk => by simpa using hall k (by have := hE.len; omega)] at h
    refine ⟨?_, hend _ a w hk h⟩
    rw [List.eq_nil_iff_forall_not_mem]
    intro i hi
    obtain ⟨h1, h2, _⟩ := (ready_iff hs).1 hi
    rw [hall i h1] at h2; cases h2
  | succ fuel ih =>
    intro n listed done W E a w hf hs hc hdl hd hn hW hEb hk h
    have hls : listed.size = ops.size := hs
    by_cases hF : ∀ j, j < ops.size → j ∉ X → listed.getD j false = true
    · -- all free ones are done
      have hst : stL (fun j => listed.getD j false) 0 es s = stL (fun _ => true) 0 es s := stL_noEff _ _ 0 es s fun k e hk => by
        have hkm : k < ops.size := by rw [← hE.len]; exact (List.getElem?_eq_some_iff.1 hk).1
        by_cases hx : k ∈ X
        · right; rw [hE.xe k hx hkm] at hk; injection hk with hk; exact hk.symm
        · left; simpa using hF k hkm hx
      rw [hst] at h
      have hdd : ∀ j, listed.getD j false = done.getD j false := fun j => by
        by_cases hj : j < ops.size
        · have := hd j hj
          rw [Bool.eq_iff_iff, this]
          exact ⟨.inr, fun q => q.elim (hF j hj) id⟩
        · simp [Array.getD, List.getD, show ¬ j < listed.size by omega, show ¬ j < done.length by omega]
      have hcount : done.count false = listed.toList.count false := by
        congr 1
        apply List.ext_getElem?
        intro j
        by_cases hj : j < ops.size
        · have := hdd j
          simp [Array.getD, List.getD, show j < listed.size by omega, show j < done.length by omega] at this
          simp [show j < listed.size by omega, show j < done.length by omega, this]
        · simp [show ¬ j < listed.size by omega, show ¬ j < done.length by omega]
      rw [hcount, hf] at hn
      subst hn
      exact ch_run2 hM hend (fuel + 1) listed done _ a w hf hs hc hdl hdd hF hk h
    refine ⟨fun hn => absurd (ch_nil hM hs hn) (count_pos hs hf), fun i hi => ?_⟩
    obtain ⟨h1, h2, h3⟩ := (ready_iff hs).1 hi
    have ho : ops[i]? = some ops[i] := by simp [h1]
    have hpre : ∀ j, Nat.testBit ((predsL ops.toList []).getD i 0) j = true → listed.getD j false = true := preds_listed ops.toList [] (by simp) hc (by simp) i h3
    have hhp : ∀ L, (stL L 0 es s).hp = s.hp := hE.hp
    by_cases hiX : i ∈ X
    · have hiL : i ∈ L := Classical.byContradiction fun hnl => hF fun j hj hx => hpre j (hM.tl i _ ho hiX hnl j hj hx)
      have hdi : done.getD i false = false := by
        cases e : done.getD i false with
        | false => rfl
        | true =>
          rcases (hd i h1).1 e with q | q
          · exact absurd hiX q
          · rw [h2] at q; cases q
      obtain ⟨m, rfl⟩ : ∃ m, n = m + 1 := by
        have hil : i < done.length := by omega
        have e' : done[i] = false := by simpa [List.getD, hil] using hdi
        have : 0 < done.count false := List.count_pos_iff.2 (by rw [← e']; simp)
        exact ⟨n - 1, by omega⟩
      obtain ⟨r, hh, hget⟩ := stripM_get (H := H) (all := ops.toList) (l := ops.toList) (i := i) (o := ops[i]) (by simpa using ho)
      have hl := (locLB_get (b := 0) hk hget (by rw [Nat.zero_add]; exact hdi) (ons_done ho h3 fun j hj => (hd j (by
        by_cases e : j < ops.size
        · exact e
        · exfalso; simp [Array.getD, show ¬ j < listed.size by omega] at hj)).2 (.inr hj))).1 (by rw [Nat.zero_add]; simpa using hiL)
      rw [Nat.zero_add, locStep_k] at hl
      obtain ⟨hg, hnb⟩ := hM.ng i _ ho hiX hiL
      have hag : ∀ y ∈ opUses ops.toList ops[i], (appG W E (stL (fun j => listed.getD j false) 0 es s)).tm[y]? = (appG W E (stL (fun _ => true) 0 es s)).tm[y]? := fun y hy => by
        simp only [appG]
        refine writeTm_get_congr W _ _ y (by rw [(stL_len _ 0 es s).1, (stL_len _ 0 es s).1]) (.inr ?_)
        refine stL_get _ _ y 0 es s s rfl rfl fun k e' hk' hw => ?_
        have hkm : k < ops.size := by rw [← hE.len]; exact (List.getElem?_eq_some_iff.1 hk').1
        simp only [Nat.zero_add]
        by_cases hkx : k ∈ X
        · rw [hE.xe k hkx hkm] at hk'; injection hk' with hk'; subst hk'
          obtain ⟨p, hp, _⟩ := hw; simp [noEff] at hp
        have hp : ops[k]? = some ops[k] := by simp [hkm]
        obtain ⟨e'', r1, r2, _⟩ := hE.he k _ hkx hp
        rw [hk'] at r1; injection r1 with r1; subst r1
        obtain ⟨pr, hpr, hprx⟩ := hw
        have hxw : y ∈ opWrites ops[k] := by rw [← hprx]; exact r2 pr hpr
        rcases hM.xf i k _ _ ho hp hiX hkx with q | q
        · exact hpre k q
        · exact absurd hy (q.2 y hxw)
      obtain ⟨hdo, hnd⟩ := loc_does (base := base) (all := ops.toList) (σ := appG W E (stL (fun j => listed.getD j false) 0 es s)) (ρ := appG W E (stL (fun _ => true) 0 es s)) hEb.1 rfl hag (by
        unfold notBox at hnb; unfold isAlloc
        cases hop : ops[i].op <;> first | exact .inl rfl | exact .inr ⟨_, rfl⟩ | (rw [hop] at hnb; cases hnb)) hl h
      unfold wpOpIn
      simp only [ho]
      rw [if_pos (by simp [Region.wanted, hg])]
      refine hdo.wpIn hnd fun s' a' w' ⟨W', ext, e1, e2, e4, k1⟩ k2 => ?_
      subst e1
      rw [appG_appG] at k1 k2
      have hsame : stL (fun j => (listed.setIfInBounds i true).getD j false) 0 es s = stL (fun j => listed.getD j false) 0 es s := by
        rw [show (fun j => (listed.setIfInBounds i true).getD j false) = fun j => listed.getD j false || j == i from funext fun j => getD_set _ _ _ (by omega)]
        rw [← stL_insert (fun j => listed.getD j false) i noEff 0 es s (fun _ _ _ => trivial) (Nat.zero_le _) (by simpa using hE.xe i hiX h1) h2 (fun k f _ _ _ => ⟨fun p hp => by simp [noEff] at hp, .inl rfl⟩), noEff_app]
      refine ih m _ (done.set i true) _ _ a' w' ?_ (by simpa using hs) (waits_set (by omega) h3 hc) (by simpa using hdl) (fun j hj => ?_) ?_ (fun q hq => ?_) ⟨e4.1, fun id hid => (e4.2 id hid).trans (hEb.2 id hid)⟩ k1 (by rw [hsame]; exact k2)
      · have := count_set (l := listed) (i := i) (by omega) h2; omega
      · rw [getD_set _ _ _ (by omega), set_getD _ _ _ (by omega), Bool.or_eq_true, Bool.or_eq_true, hd j hj, or_assoc]
      · have hil : i < done.length := by omega
        have e' : done[i] = false := by simpa [List.getD, hil] using hdi
        have e3 : 0 < done.count false := List.count_pos_iff.2 (by rw [← e']; simp)
        rw [List.count_set hil, e']
        simp
        omega
      · rcases List.mem_append.1 hq with hq | hq
        · obtain ⟨x, hx, hxl, ox, q1, q2⟩ := hW q hq
          exact ⟨x, hx, by rw [getD_set _ _ _ (by omega), hxl]; rfl, ox, q1, q2⟩
        · exact ⟨i, hiX, by rw [getD_set _ _ _ (by omega)]; simp, _, ho, e2 q hq⟩
    · -- a free one
      obtain ⟨e, q1, q2, q3, q4⟩ := hE.he i _ hiX ho
      have hapart : ∀ q ∈ W, q.1 ∉ opUses ops.toList ops[i] ∧ q.1 ∉ opWrites ops[i] := fun q hq => by
        obtain ⟨x, hx, hxl, ox, hox, hqw⟩ := hW q hq
        rcases hM.xf x i ox _ hox ho hx hiX with hin | hin
        · have := preds_listed ops.toList [] (by simp) hc (by simp) x (hc x hxl) i hin
          rw [h2] at this; cases this
        · exact hin.1 _ hqw
      have hdis : ∀ p ∈ e.ws, ∀ q ∈ W, p.1 ≠ q.1 := fun p hp q hq e' => (hapart q hq).2 (e' ▸ q2 p hp)
      have hag : Agree ops.toList base ops[i] (stL (fun _ => true) 0 (es.take i) s) (appG W E (stL (fun j => listed.getD j false) 0 es s)) := by
        rw [stL_take]
        constructor
        · intro y hy
          have e1 : (appG W E (stL (fun j => listed.getD j false) 0 es s)).tm[y]? = (stL (fun j => listed.getD j false) 0 es s).tm[y]? := by
            simp only [appG]
            exact writeTm_get_not W _ y fun q hq e' => (hapart q hq).1 (e' ▸ hy)
          rw [e1]
          refine stL_get _ _ y 0 es s s rfl rfl fun k e' hk' hw => ?_
          have hkm : k < ops.size := by rw [← hE.len]; exact (List.getElem?_eq_some_iff.1 hk').1
          simp only [Nat.zero_add]
          by_cases hkx : k ∈ X
          · rw [hE.xe k hkx hkm] at hk'; injection hk' with hk'; subst hk'
            obtain ⟨p, hp, _⟩ := hw; simp [noEff] at hp
          have hp : ops[k]? = some ops[k] := by simp [hkm]
          obtain ⟨e'', r1, r2, _⟩ := hE.he k _ hkx hp
          rw [hk'] at r1; injection r1 with r1; subst r1
          obtain ⟨pr, hpr, hprx⟩ := hw
          have hxw : y ∈ opWrites ops[k] := by rw [← hprx]; exact r2 pr hpr
          rcases Nat.lt_trichotomy k i with hlt | rfl | hgt
          · rcases hM.ff i k _ _ ho hp hlt hiX hkx with hin | hcf
            · rw [hpre k hin]; simp [hlt]
            · have := conflict_of_meet hxw hy
              rw [hcf] at this; cases this
          · rw [h2]; simp
          · have : listed.getD k false = false := by
              by_cases hl' : listed.getD k false = true
              · rcases hM.ff k i _ _ hp ho hgt hkx hiX with hin | hcf
                · have := preds_listed ops.toList [] (by simp) hc (by simp) k (hc k hl') i hin
                  rw [h2] at this; cases this
                · exact absurd hy ((conflict_false hcf).1 y hxw).1
              · simpa using hl'
            rw [this]; simp; omega
        · intro id hid
          obtain ⟨t, e'⟩ := stL_hp (fun j => decide (j < 0 + i)) 0 es s
          have hb := hE.hb
          simp only [appG]
          rw [e', hEb.2 id hid, List.getElem?_append_left (by omega)]
        · intro hal
          rw [hM.na i _ ho hiX] at hal; cases hal
      refine freeOp_sound h ho (q4 _ hag) fun s' a' w' hs' hr' => ?_
      subst hs'
      have hins : e.app (stL (fun j => listed.getD j false) 0 es s) = stL (fun j => (listed.setIfInBounds i true).getD j false) 0 es s := by
        rw [stL_insert (fun j => listed.getD j false) i e 0 es s (fun _ _ _ => trivial) (Nat.zero_le _) (by simpa using q1) h2 ?_]
        · rw [show (fun j => (listed.setIfInBounds i true).getD j false) = fun j => listed.getD j false || j == i from funext fun j => getD_set _ _ _ (by omega)]
        · intro k f hf' hik hl'
          simp only [Nat.zero_add] at hik hl'
          have hkm : k < ops.size := by rw [← hE.len]; exact (List.getElem?_eq_some_iff.1 hf').1
          by_cases hkx : k ∈ X
          · rw [hE.xe k hkx hkm] at hf'; injection hf' with hf'; subst hf'
            exact ⟨fun p _ q hq => by simp [noEff] at hq, .inr rfl⟩
          have hp : ops[k]? = some ops[k] := by simp [hkm]
          obtain ⟨e'', r1, r2, r3, _⟩ := hE.he k _ hkx hp
          rw [hf'] at r1; injection r1 with r1; subst r1
          rcases hM.ff k i _ _ hp ho hik hkx hiX with hin | hcf
          · have := preds_listed ops.toList [] (by simp) hc (by simp) k (hc k hl') i hin
            rw [h2] at this; cases this
          · exact ⟨fun p hp' q hq hpq => absurd (q2 p hp') ((conflict_false hcf).1 _ (hpq ▸ r2 q hq)).2, .inr r3⟩
      rw [app_appG q3 hdis, hins] at hr'
      refine ih n _ done W E a' w' ?_ (by simpa using hs) (waits_set (by omega) h3 hc) hdl (fun j hj => ?_) hn (fun q hq => ?_) hEb hk hr'
      · have := count_set (l := listed) (i := i) (by omega) h2; omega
      · rw [getD_set _ _ _ (by omega), Bool.or_eq_true, hd j hj]
        constructor
        · rintro (q | q)
          · exact .inl q
          · exact .inr (.inl q)
        · rintro (q | q | q)
          · exact .inl q
          · exact .inr q
          · left; simp at q; subst q; exact hiX
      · obtain ⟨x, hx, hxl, ox, q1, q2⟩ := hW q hq
        exact ⟨x, hx, by rw [getD_set _ _ _ (by omega), hxl]; rfl, ox, q1, q2⟩
/-- the list without some places -/
def dropX (X : List Nat) : Nat → List Oper → List Oper
  | _, [] => []
  | b, o :: l => if b ∈ X then dropX X (b + 1) l else o :: dropX X (b + 1) l
theorem free_effsCh {all : List Oper} {K : St → Prop} : ∀ (l : List Oper) (b : Nat) (s : St), base ≤ s.hp.length → freeK P base all (dropX X b l) s K → ∃ es : List Eff, es.length = l.length ∧ K (stL (fun _ => true) 0 es s) ∧ (∀ (i : Nat), i < l.length → b + i ∈ X → es[i]? = some noEff) ∧
    ∀ (i : Nat) o, l[i]? = some o → b + i ∉ X → ∃ e, es[i]? = some e ∧ (∀ p ∈ e.ws, p.1 ∈ opWrites o) ∧ (isAlloc o = false → e.push = none) ∧
      ∀ s', Agree all base o (stL (fun _ => true) 0 (es.take i) s) s' → freeOp P base all o s' (fun x => x = e.app s')
  | [], b, s, _, hk => ⟨[], rfl, hk, by simp, by simp⟩
  | o :: l, b, s, hs, hk => by
    by_cases hb : b ∈ X
    · rw [dropX, if_pos hb] at hk
      obtain ⟨es, k1, k2, k3, k4⟩ := free_effsCh l (b + 1) s hs hk
      refine ⟨noEff :: es, by simp [k1], ?_, fun i hi hx => ?_, fun i o' ho hne => ?_⟩
      · simp only [stL, if_true, noEff_app]; rw [stL_shift es 1 0]; exact k2
      · cases i with
        | zero => rfl
        | succ i =>
          have := k3 i (by simpa using hi) (by rw [show b + 1 + i = b + (i + 1) by omega]; exact hx)
          simpa using this
      · cases i with
        | zero => exact absurd hb hne
        | succ i =>
          obtain ⟨e', q1, q2, q3, q4⟩ := k4 i o' (by simpa using ho) (by rw [show b + 1 + i = b + (i + 1) by omega]; exact hne)
          refine ⟨e', by simpa using q1, q2, q3, fun s' ha => q4 s' ?_⟩
          simp only [List.take_succ_cons, stL, if_true, noEff_app] at ha
          rwa [stL_shift _ 1 0] at ha
    · rw [dropX, if_neg hb] at hk
      simp only [freeK] at hk
      obtain ⟨e, g1, g2, g3, g4⟩ := freeOp_local hk
      have hlen : base ≤ (e.app s).hp.length := by simp [Eff.app]; omega
      obtain ⟨es, k1, k2, k3, k4⟩ := free_effsCh l (b + 1) (e.app s) hlen g1
      refine ⟨e :: es, by simp [k1], ?_, fun i hi hx => ?_, fun i o' ho hne => ?_⟩
      · simp only [stL, if_true]; rw [stL_shift es 1 0]; exact k2
      · cases i with
        | zero => exact absurd hx hb
        | succ i =>
          have := k3 i (by simpa using hi) (by rw [show b + 1 + i = b + (i + 1) by omega]; exact hx)
          simpa using this
      · cases i with
        | zero =>
          simp at ho; subst ho
          exact ⟨e, rfl, g2, g3, fun s' ha => g4 s' (by simpa [stL] using ha)⟩
        | succ i =>
          obtain ⟨e', q1, q2, q3, q4⟩ := k4 i o' (by simpa using ho) (by rw [show b + 1 + i = b + (i + 1) by omega]; exact hne)
          refine ⟨e', by simpa using q1, q2, q3, fun s' ha => q4 s' ?_⟩
          simp only [List.take_succ_cons, stL, if_true] at ha
          rwa [stL_shift _ 1 0] at ha
/-- which operations are free -/
def freeB (X : List Nat) : Nat → Nat → List Bool
  | _, 0 => []
  | i, n + 1 => (!X.contains i) :: freeB X (i + 1) n
theorem freeB_len (X : List Nat) : ∀ (n i : Nat), (freeB X i n).length = n
  | 0, _ => rfl
  | n + 1, i => by simp [freeB, freeB_len X n]
theorem freeB_get (X : List Nat) : ∀ (n i j : Nat), j < n → (freeB X i n).getD j false = !X.contains (i + j)
  | 0, _, _, h => by omega
  | n + 1, i, 0, _ => by simp [freeB]
  | n + 1, i, j + 1, h => by
    have := freeB_get X n (i + 1) j (by omega)
    simp only [freeB, List.getD_cons_succ, this]
    rw [show i + 1 + j = i + (j + 1) by omega]
/-- THE LAW OF A DRAWN REGION: some operations are free, the others (X) are run in each order that may be; those of L feel no other one. -/
theorem regionCh {id : Nat} {ops : Array Oper} {Q : Ex → St → Prop} {s : St} (H : List (Nat × Nat)) (X L : List Nat) (hmo : P.follows .mixedOrders = true) (hd : chChk X L ops = true)
    (hk : sFree P s.hp.length (stripL [] ops.toList (dropX X 0 ops.toList)) s fun s1 => anyXB P s.hp.length L (stripM H ops.toList ops.toList) (Q .normal) ((freeB X 0 ops.size).count false) (freeB X 0 ops.size) s1) : SemC P (.region id ops true) Q s := by
  intro κ a w hr
  refine wpIn_region_any hmo ?_
  have hM := chChk_spec hd
  rw [sFree_eq] at hk
  obtain ⟨es, h1, h2, h3, h4⟩ := free_effsCh (base := s.hp.length) (all := ops.toList) (X := X) ops.toList 0 s (Nat.le_refl _) hk
  have hE : EsCh P s.hp.length X ops es s := by
    refine ⟨by rw [h1]; simp, Nat.le_refl _, fun x hx hlt => h3 x (by simpa using hlt) (by simpa using hx), fun i o hi ho => ?_⟩
    obtain ⟨e, q1, q2, q3, q4⟩ := h4 i o (by simpa using ho) (by simpa using hi)
    exact ⟨e, q1, q2, q3 (hM.na i o ho hi), q4⟩
  have e1 : ∀ t : St, t.hp = s.hp → appG [] s.hp t = t := fun t ht => by simp [appG, writeTm, ← ht]
  refine ch_run (H := H) (K := Q .normal) hM hE (fun s' a' w' k1 k2 => ⟨.normal, s', rfl, k1, k2⟩) ops.size _ _ (freeB X 0 ops.size) [] s.hp a _ (by simp) (by simp) (fun i hi => by simp [Array.getD] at hi) (freeB_len _ _ _) (fun j hj => ?_) rfl (by simp) ⟨Nat.le_refl _, fun _ _ => rfl⟩ (by rw [e1 _ (hE.hp _)]; exact h2) ?_
  · rw [freeB_get X _ _ _ hj, Nat.zero_add]
    simp [Array.getD]
  have e0 : stL (fun j => (Array.replicate ops.size false).getD j false) 0 es s = s := by
    have : ∀ (es : List Eff) (i : Nat) (s : St), stL (fun _ => false) i es s = s := by
      intro es
      induction es with
      | nil => intros; rfl
      | cons e es ih => intro i s; simp only [stL, Bool.false_eq_true, if_false]; exact ih _ _
    rw [show (fun j => (Array.replicate ops.size false).getD j false) = fun _ => false from funext fun j => by simp [Array.getD]]
    exact this es 0 s
  rw [e0, e1 s rfl]
  obtain ⟨Φ, B, au, h⟩ := hr
  exact ⟨Φ, B, au, h.grow (Grows.drew w _)⟩
end
end
/-- the same; behind it the objects may be numbered anew -/
theorem regionChR {P : Program} {id : Nat} {ops : Array Oper} {Q : Ex → St → Prop} {s : St} (H : List (Nat × Nat)) (X L : List Nat) (hmo : P.follows .mixedOrders = true) (hd : chChk X L ops = true)
    (hk : sFree P s.hp.length (stripL [] ops.toList (dropX X 0 ops.toList)) s fun s1 => anyXB P s.hp.length L (stripM H ops.toList ops.toList) (fun s' => ∃ s'', s'.le s'' ∧ Q .normal s'') ((freeB X 0 ops.size).count false) (freeB X 0 ops.size) s1) : SemC P (.region id ops true) Q s :=
  SemC.post (Q := fun e s' => ∃ s'', s'.le s'' ∧ Q e s'') (regionCh H X L hmo hd hk) fun e s' ⟨s'', h1, h2⟩ => ⟨s'', h1, h2⟩
theorem x_endR {P : Program} {base : Nat} {L : List Nat} {K : St → Prop} {ops : List (SOp × List Nat)} {n : Nat} {done : List Bool} {s : St} (e : St) (h : ∀ K0 : St → Prop, (∀ s' : St, s'.le e → K0 s') → anyXB P base L ops K0 n done s) (hk : K e) : anyXB P base L ops (fun s' => ∃ s'', s'.le s'' ∧ K s'') n done s := h _ fun s' hs => ⟨e, hs, hk⟩
/-! ### How it is run -/
section
variable {P : Program} {tm : List V} {hp : List IObj} {nb : Nat} {K : St → Prop} {d : Option Nat} {t : TypeId} {k : Bool} {g : Option (Option Nat × Bool)} {L : List Nat} {base : Nat}
theorem x_end {ops : List (SOp × List Nat)} {n : Nat} {done : List Bool} {s : St} (e : St) (h : ∀ K0 : St → Prop, K0 e → anyXB P base L ops K0 n done s) (hk : K e) : anyXB P base L ops K n done s := h K hk
theorem lx_zero {ops : List (SOp × List Nat)} {done : List Bool} : anyXB P base L ops K 0 done ⟨tm, hp, nb⟩ = K ⟨tm, hp, nb⟩ := rfl
theorem lx_succ {ops : List (SOp × List Nat)} {n : Nat} {done : List Bool} : anyXB P base L ops K (n + 1) done ⟨tm, hp, nb⟩ = locLB P base L (anyXB P base L ops K n) done ⟨tm, hp, nb⟩ 0 ops := rfl
theorem ll_nil {next : List Bool → St → Prop} {done : List Bool} {s : St} {i : Nat} : locLB P base L next done s i [] = True := rfl
theorem ll_cons {next : List Bool → St → Prop} {done : List Bool} {s : St} {i : Nat} {o : SOp} {pm : List Nat} {r : List (SOp × List Nat)} : locLB P base L next done s i ((o, pm) :: r) = ((if (!(done.getD i false) && pm.all (fun j => done.getD j false)) = true then (if L.contains i = true then locStep P base o s (fun s' => next (done.set i true) s') else sOps P [o] s (fun s' => next (done.set i true) s')) else True) ∧ locLB P base L next done s (i + 1) r) := by
  simp only [locLB]
  cases (!(done.getD i false) && pm.all (fun j => done.getD j false)) <;> cases L.contains i <;> rfl
theorem lo_val {q : Operand} {xs : Array Operand} {ts : Array TypeId} : locStep P base ⟨d, .call ⟨.value q, xs, ts⟩, t, g, k, 0⟩ ⟨tm, hp, nb⟩ K = (match ev P 0 ⟨tm, hp, nb⟩ q with
    | .fn (.func f) caps => (argVs P ⟨tm, hp, nb⟩ ⟨.value q, xs, ts⟩ ++ caps).all V.bare = true ∧ (bif hasBody P f then @CallH P f (argVs P ⟨tm, hp, nb⟩ ⟨.value q, xs, ts⟩ ++ caps) hp ⟨fun r hp' => hp'.take hp.length = hp ∧ K (St.put ⟨tm, hp', nb⟩ d r)⟩
        else @CallEH P f (argVs P ⟨tm, hp, nb⟩ ⟨.value q, xs, ts⟩ ++ caps) hp ⟨fun r hp' => hp'.take hp.length = hp ∧ K (St.put ⟨tm, hp', nb⟩ d r)⟩)
    | _ => False) := by
  show ((0 : Nat) = 0 ∧ callY P ⟨.value q, xs, ts⟩ ⟨tm, hp, nb⟩ d K) = _
  rw [eq_self, true_and]; rfl
theorem lo_builtin {b : Builtin} {xs : Array Operand} {ts : Array TypeId} : locStep P base ⟨d, .call ⟨.builtin b, xs, ts⟩, t, g, k, 0⟩ ⟨tm, hp, nb⟩ K = freeCall P ⟨.builtin b, xs, ts⟩ ⟨tm, hp, nb⟩ d K := by
  show ((0 : Nat) = 0 ∧ freeCall P ⟨.builtin b, xs, ts⟩ ⟨tm, hp, nb⟩ d K) = _
  rw [eq_self, true_and]
theorem lo_alloc {u : TypeId} : locStep P base ⟨d, .alloc u, t, g, k, 0⟩ ⟨tm, hp, nb⟩ K = (match zeroVs P u with
    | some cs => K (St.put ⟨tm, hp ++ [IObj.var cs], nb⟩ d (.ptr hp.length 0))
    | none => False) := by
  unfold locStep; simp only [true_and]
theorem lo_build2 {u : TypeId} {n : Nat} {ps : Array (Nat × Operand)} : locStep P base ⟨d, .buildSlice u n ps, t, g, k, 2⟩ ⟨tm, hp, nb⟩ K = heapK P ⟨d, .buildSlice u n ps, t, none, false, 2⟩ ⟨tm, hp, nb⟩ K := by
  unfold locStep; simp only [if_true]
theorem lo_build0 {u : TypeId} {n : Nat} {ps : Array (Nat × Operand)} : locStep P base ⟨d, .buildSlice u n ps, t, g, k, 0⟩ ⟨tm, hp, nb⟩ K = freeStep P hp.length ⟨d, .buildSlice u n ps, t, "", #[], none⟩ ⟨tm, hp, nb⟩ K := by
  unfold locStep; simp only [if_neg (show ¬ (0 = 2) by decide), true_and]; rfl
theorem lo_make2 {u : TypeId} {x y : Operand} : locStep P base ⟨d, .makeSlice u x y, t, g, k, 2⟩ ⟨tm, hp, nb⟩ K = heapK P ⟨d, .makeSlice u x y, t, none, false, 2⟩ ⟨tm, hp, nb⟩ K := by
  unfold locStep; simp only [if_true]
theorem lo_make0 {u : TypeId} {x y : Operand} : locStep P base ⟨d, .makeSlice u x y, t, g, k, 0⟩ ⟨tm, hp, nb⟩ K = freeStep P hp.length ⟨d, .makeSlice u x y, t, "", #[], none⟩ ⟨tm, hp, nb⟩ K := by
  unfold locStep; simp only [if_neg (show ¬ (0 = 2) by decide), true_and]; rfl
theorem lo_move {x : Operand} : locStep P base ⟨d, .move x, t, g, k, 0⟩ ⟨tm, hp, nb⟩ K = freeStep P hp.length ⟨d, .move x, t, "", #[], none⟩ ⟨tm, hp, nb⟩ K := by
  unfold locStep; simp only [true_and]; rfl
theorem lo_assign {x : Operand} : locStep P base ⟨d, .assign x, t, g, k, 0⟩ ⟨tm, hp, nb⟩ K = freeStep P hp.length ⟨d, .assign x, t, "", #[], none⟩ ⟨tm, hp, nb⟩ K := by
  unfold locStep; simp only [true_and]; rfl
theorem lo_load {u : TypeId} {x : Operand} : locStep P base ⟨d, .load u x, t, g, k, 0⟩ ⟨tm, hp, nb⟩ K = freeStep P hp.length ⟨d, .load u x, t, "", #[], none⟩ ⟨tm, hp, nb⟩ K := by
  unfold locStep; simp only [true_and]; rfl
theorem lo_extract {x : Operand} {ix : Nat} : locStep P base ⟨d, .extract x ix, t, g, k, 0⟩ ⟨tm, hp, nb⟩ K = freeStep P hp.length ⟨d, .extract x ix, t, "", #[], none⟩ ⟨tm, hp, nb⟩ K := by
  unfold locStep; simp only [true_and]; rfl
theorem lo_pick {c x y : Operand} : locStep P base ⟨d, .pick c x y, t, g, k, 0⟩ ⟨tm, hp, nb⟩ K = freeStep P hp.length ⟨d, .pick c x y, t, "", #[], none⟩ ⟨tm, hp, nb⟩ K := by
  unfold locStep; simp only [true_and]; rfl
theorem lo_build {u : TypeId} {ps : Array (Nat × Operand)} : locStep P base ⟨d, .build u ps, t, g, k, 0⟩ ⟨tm, hp, nb⟩ K = freeStep P hp.length ⟨d, .build u ps, t, "", #[], none⟩ ⟨tm, hp, nb⟩ K := by
  unfold locStep; simp only [true_and]; rfl
theorem lo_bin {op : BinOp} {u u' : TypeId} {x y : Operand} : locStep P base ⟨d, .binOp op u x y u', t, g, k, 0⟩ ⟨tm, hp, nb⟩ K = freeStep P hp.length ⟨d, .binOp op u x y u', t, "", #[], none⟩ ⟨tm, hp, nb⟩ K := by
  unfold locStep; simp only [true_and]; rfl
theorem lo_un {op : UnOp} {u : TypeId} {x : Operand} : locStep P base ⟨d, .unOp op u x, t, g, k, 0⟩ ⟨tm, hp, nb⟩ K = freeStep P hp.length ⟨d, .unOp op u x, t, "", #[], none⟩ ⟨tm, hp, nb⟩ K := by
  unfold locStep; simp only [true_and]; rfl
theorem lo_makeFunc {f : Fn} {fs cs : Array Operand} : locStep P base ⟨d, .makeFunc f fs cs, t, g, k, 0⟩ ⟨tm, hp, nb⟩ K = freeStep P hp.length ⟨d, .makeFunc f fs cs, t, "", #[], none⟩ ⟨tm, hp, nb⟩ K := by
  unfold locStep; simp only [true_and]; rfl
theorem lo_slice {u : TypeId} {x : Operand} {lo hi mx : Option Operand} : locStep P base ⟨d, .slice u x lo hi mx, t, g, k, 0⟩ ⟨tm, hp, nb⟩ K = freeStep P hp.length ⟨d, .slice u x lo hi mx, t, "", #[], none⟩ ⟨tm, hp, nb⟩ K := by
  unfold locStep; simp only [true_and]; rfl
theorem lo_fieldAddr {u : TypeId} {x : Operand} {f : Nat} : locStep P base ⟨d, .fieldAddr u x f, t, g, k, 0⟩ ⟨tm, hp, nb⟩ K = freeStep P hp.length ⟨d, .fieldAddr u x f, t, "", #[], none⟩ ⟨tm, hp, nb⟩ K := by
  unfold locStep; simp only [true_and]; rfl
theorem lo_field {u : TypeId} {x : Operand} {f : Nat} : locStep P base ⟨d, .field u x f, t, g, k, 0⟩ ⟨tm, hp, nb⟩ K = freeStep P hp.length ⟨d, .field u x f, t, "", #[], none⟩ ⟨tm, hp, nb⟩ K := by
  unfold locStep; simp only [true_and]; rfl
theorem lo_indexAddr {u : TypeId} {x i : Operand} : locStep P base ⟨d, .indexAddr u x i, t, g, k, 0⟩ ⟨tm, hp, nb⟩ K = freeStep P hp.length ⟨d, .indexAddr u x i, t, "", #[], none⟩ ⟨tm, hp, nb⟩ K := by
  unfold locStep; simp only [true_and]; rfl
theorem lo_index {u : TypeId} {x i : Operand} : locStep P base ⟨d, .index u x i, t, g, k, 0⟩ ⟨tm, hp, nb⟩ K = freeStep P hp.length ⟨d, .index u x i, t, "", #[], none⟩ ⟨tm, hp, nb⟩ K := by
  unfold locStep; simp only [true_and]; rfl
theorem lo_lookup {u : TypeId} {x y : Operand} {ok : Bool} : locStep P base ⟨d, .lookup u x y ok, t, g, k, 0⟩ ⟨tm, hp, nb⟩ K = freeStep P hp.length ⟨d, .lookup u x y ok, t, "", #[], none⟩ ⟨tm, hp, nb⟩ K := by
  unfold locStep; simp only [true_and]; rfl
theorem lo_convert {u u' : TypeId} {x : Operand} : locStep P base ⟨d, .convert u u' x, t, g, k, 0⟩ ⟨tm, hp, nb⟩ K = freeStep P hp.length ⟨d, .convert u u' x, t, "", #[], none⟩ ⟨tm, hp, nb⟩ K := by
  unfold locStep; simp only [true_and]; rfl
theorem lo_store {u : TypeId} {x y : Operand} : locStep P base ⟨d, .store u x y, t, g, k, 0⟩ ⟨tm, hp, nb⟩ K = (match ev P 0 ⟨tm, hp, nb⟩ x with
    | .ptr id off => base ≤ id ∧ (ev P u ⟨tm, hp, nb⟩ y).isOwn = false ∧ storeK P u (.ptr id off) y (ev P u ⟨tm, hp, nb⟩ y) ⟨tm, hp, nb⟩ d K
    | _ => False) := by
  unfold locStep; simp only [true_and]
end
attribute [simp] lo_store V.isOwn lo_val lo_builtin lo_alloc lo_build2 lo_build0 lo_make2 lo_make0 lo_move lo_assign lo_load lo_extract lo_pick lo_build lo_bin lo_un lo_makeFunc lo_slice lo_fieldAddr lo_field lo_indexAddr lo_index lo_lookup lo_convert
attribute [simp] dropX freeB
end Go.Idl
