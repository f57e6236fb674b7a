/- Drawn regions, part 2: each free operation has an effect of its own, whatever else was done.; Drawn regions, part 3: the law. -/
import Derived.Test.YtkfpaffcglijeaaQueueApartPart07
set_option linter.all false
section
namespace Go.Idl

/-- what append leaves of its first argument -/
def argW (x : Operand) (v : V) : List (Nat × V) := match x with
  | .tmp i => [(i, v)]
  | _ => []

/-- a value goes to its place -/
def effPut (dst : Option Nat) (v : V) : Eff := { ws := (dst.toList).map fun d => (d, v), push := none }

theorem effPut_app (dst : Option Nat) (v : V) (s : St) : (effPut dst v).app s = s.put dst v := by
  cases dst <;> simp [effPut, Eff.app, St.put, writeTm]

/-- what an operation reads of a state is there in another one -/
structure Agree (all : List Oper) (base : Nat) (o : Oper) (s s' : St) : Prop where
  tm : ∀ x ∈ opUses all o, s'.tm[x]? = s.tm[x]?
  hp : ∀ id, id < base → s'.hp[id]? = s.hp[id]?
  al : isAlloc o = true → s'.hp = s.hp

section
variable {P : Program} {base : Nat} {all : List Oper} {o : Oper} {s s' : St} {K : St → Prop}

theorem Agree.ev (h : Agree all base o s s') {x : Operand} (hx : x ∈ o.op.operands) (t : TypeId) : ev P t s' x = ev P t s x := by
  cases x with
  | tmp i =>
    have : i ∈ opUses all o := List.mem_append_left _ (List.mem_filterMap.2 ⟨.tmp i, by simpa using hx, rfl⟩)
    have := h.tm i this
    simp [Idl.ev, List.getD, this]
  | const v => rfl
  | «global» g => rfl
  | func f => rfl

theorem Agree.argVs (h : Agree all base o s s') {c : Call} (ho : o.op = .call c) : argVs P s' c = argVs P s c := by
  unfold Idl.argVs
  refine List.map_congr_left fun p hp => ?_
  obtain ⟨x, t⟩ := p
  have hx : x ∈ c.args := by have := (List.of_mem_zip hp).1; simpa using this
  simp only
  rw [h.ev (x := x) (by rw [ho]; simp only [Op.operands, Call.operands]; exact Array.mem_append.2 (.inr hx))]

/-- What is promised of a free operation. -/
def Local (P : Program) (base : Nat) (all : List Oper) (o : Oper) (s : St) (K : St → Prop) (step : St → (St → Prop) → Prop) : Prop :=
  ∃ e : Eff, K (e.app s) ∧ (∀ p ∈ e.ws, p.1 ∈ opWrites o) ∧ (isAlloc o = false → e.push = none) ∧ ∀ s', Agree all base o s s' → step s' (fun x => x = e.app s')

theorem local_put {v : V} {step : St → (St → Prop) → Prop} (hk : K (s.put o.dst v)) (h : ∀ s', Agree all base o s s' → step s' (fun x => x = s'.put o.dst v)) : Local P base all o s K step := by
  refine ⟨effPut o.dst v, by rw [effPut_app]; exact hk, fun p hp => ?_, fun _ => rfl, fun s' ha => ?_⟩
  · simp only [effPut, List.mem_map] at hp
    obtain ⟨d, hd, rfl⟩ := hp
    exact List.mem_append_left _ hd
  · have := h s' ha
    simpa only [effPut_app] using this

theorem binK_fun {op : BinOp} {t : TypeId} {x y : V} {k : V → Prop} (h : binK P op t x y k) : ∃ v, k v ∧ ∀ k' : V → Prop, k' v → binK P op t x y k' := by
  unfold binK at h
  split at h
  · split at h
    · obtain ⟨a, b, c⟩ := h; exact ⟨_, c, fun k' hk' => by simp only [binK]; exact ⟨a, b, hk'⟩⟩
    · obtain ⟨a, b, c⟩ := h; exact ⟨_, c, fun k' hk' => by simp only [binK]; exact ⟨a, b, hk'⟩⟩
    · obtain ⟨a, c⟩ := h; exact ⟨_, c, fun k' hk' => by simp only [binK]; exact ⟨a, hk'⟩⟩
    · obtain ⟨a, c⟩ := h; exact ⟨_, c, fun k' hk' => by simp only [binK]; exact ⟨a, hk'⟩⟩
    · rename_i n1 n2 n3 n4
      split at h
      · rename_i r hr
        obtain ⟨a, c⟩ := h
        refine ⟨_, c, fun k' hk' => ?_⟩
        cases op <;> first | exact absurd rfl n1 | exact absurd rfl n2 | exact absurd rfl n3 | exact absurd rfl n4 | (simp only [binK, hr]; exact ⟨a, hk'⟩)
      · exact h.elim
  · split at h
    · obtain ⟨a, c⟩ := h; exact ⟨_, c, fun k' hk' => by simp only [binK]; exact ⟨a, hk'⟩⟩
    · obtain ⟨a, c⟩ := h; exact ⟨_, c, fun k' hk' => by simp only [binK]; exact ⟨a, hk'⟩⟩
    · exact h.elim
  · split at h
    · exact ⟨_, h, fun k' hk' => by simp only [binK]; exact hk'⟩
    · exact ⟨_, h, fun k' hk' => by simp only [binK]; exact hk'⟩
    · exact ⟨_, h, fun k' hk' => by simp only [binK]; exact hk'⟩
    · obtain ⟨a, c⟩ := h; exact ⟨_, c, fun k' hk' => by simp only [binK]; exact ⟨a, hk'⟩⟩
    · exact h.elim
  · obtain ⟨a, b, h⟩ := h
    split at h
    · rename_i r hr; exact ⟨_, h, fun k' hk' => by simp only [binK, hr]; exact ⟨a, b, hk'⟩⟩
    · rename_i r hr; exact ⟨_, h, fun k' hk' => by simp only [binK, hr]; exact ⟨a, b, hk'⟩⟩
    · exact h.elim
  · rename_i n1 n2 n3 n4
    split at h
    · rename_i r' er
      obtain ⟨hp, h⟩ := h
      split at h
      · exact ⟨_, h, fun k' hk' => by
          unfold binK
          split
          · exact absurd rfl (n1 _ _ _ _ rfl)
          · exact absurd rfl (n2 _ _ rfl)
          · exact absurd rfl (n3 _ _ rfl)
          · exact absurd rfl (n4 _ _ rfl)
          · simp only [er]; exact ⟨hp, hk'⟩⟩
      · exact ⟨_, h, fun k' hk' => by
          unfold binK
          split
          · exact absurd rfl (n1 _ _ _ _ rfl)
          · exact absurd rfl (n2 _ _ rfl)
          · exact absurd rfl (n3 _ _ rfl)
          · exact absurd rfl (n4 _ _ rfl)
          · simp only [er]; exact ⟨hp, hk'⟩⟩
      · exact h.elim
    · exact h.elim

theorem Agree.sliceIx (h : Agree all base o s s') {d : Int} {x : Option Operand} (hx : ∀ y, x = some y → y ∈ o.op.operands) : sliceIx P s' d x = sliceIx P s d x := by
  cases x with
  | none => rfl
  | some y => simp only [Idl.sliceIx, h.ev (hx y rfl)]

theorem sliceK_fun {t : TypeId} {x : V} {lo hi mx : Option Operand} {k : V → Prop} (h : sliceK P t x s lo hi mx k) : ∃ v, k v ∧ ∀ k' : V → Prop, k' v → sliceK P t x s lo hi mx k' := by
  unfold sliceK at h
  split at h
  · rename_i z xs e
    split at h
    · rename_i l u m e1 e2 e3
      obtain ⟨a1, a2, a3, a4, a5, a6, c⟩ := h
      exact ⟨_, c, fun k' hk' => by unfold sliceK; simp only [e, e1, e2, e3]; exact ⟨a1, a2, a3, a4, a5, a6, hk'⟩⟩
    · exact h.elim
  · rename_i z e
    split at h
    · rename_i l u m e1 e2 e3
      obtain ⟨a1, a2, a3, a4, a5, c⟩ := h
      exact ⟨_, c, fun k' hk' => by unfold sliceK; simp only [e, e1, e2, e3]; exact ⟨a1, a2, a3, a4, a5, hk'⟩⟩
    · exact h.elim
  · rename_i b e
    split at h
    · rename_i l u e1 e2
      obtain ⟨a1, a2, a3, a4, c⟩ := h
      exact ⟨_, c, fun k' hk' => by unfold sliceK; simp only [e, e1, e2]; exact ⟨a1, a2, a3, a4, hk'⟩⟩
    · exact h.elim
  · rename_i id z off len cap e
    split at h
    · rename_i l u m e1 e2 e3
      obtain ⟨a1, a2, a3, a4, a5, a6, c⟩ := h
      exact ⟨_, c, fun k' hk' => by unfold sliceK; simp only [e, e1, e2, e3]; exact ⟨a1, a2, a3, a4, a5, a6, hk'⟩⟩
    · exact h.elim
  · exact h.elim

theorem sliceK_congr (h : Agree all base o s s') {t : TypeId} {x : V} {lo hi mx : Option Operand} {k : V → Prop} (hl : ∀ y, lo = some y → y ∈ o.op.operands) (hh : ∀ y, hi = some y → y ∈ o.op.operands) (hm : ∀ y, mx = some y → y ∈ o.op.operands) :
    sliceK P t x s' lo hi mx k = sliceK P t x s lo hi mx k := by
  unfold sliceK
  simp only [h.sliceIx hl, h.sliceIx hh, h.sliceIx hm]

/-- where a load looks -/
def sameAt (a : V) (s s' : St) : Prop := match a with
  | .ptr id _ | .aptr id _ _ _ => s'.hp[id]? = s.hp[id]?
  | _ => True

/-- loading, where nothing is taken away -/
theorem loadK_fun {t : TypeId} {a : V} {dst : Option Nat} (h : loadK P t a s dst false K) :
    ∃ v, K (s.put dst v) ∧ ∀ (s' : St) (K' : St → Prop), sameAt a s s' → K' (s'.put dst v) → loadK P t a s' dst false K' := by
  cases a with
  | lptr l z xs i j =>
    simp only [loadK] at h
    split at h
    · rename_i d e; exact ⟨_, h, fun s' K' _ hk' => by simp only [loadK, e]; exact hk'⟩
    · exact h.elim
  | ptr id off =>
    simp only [loadK] at h
    split at h
    · rename_i cs e
      split at h
      · rename_i ek
        obtain ⟨h1, h3, h2⟩ := h
        exact ⟨_, h2, fun s' K' hs hk' => by simp only [sameAt] at hs; simp only [loadK, hs, e, ek]; exact ⟨h1, h3, hk'⟩⟩
      · rename_i ek
        split at h
        · rename_i v ev
          obtain ⟨h1, h2⟩ := h
          simp only [Bool.false_eq_true, if_false] at h2
          exact ⟨_, h2, fun s' K' hs hk' => by simp only [sameAt] at hs; simp only [loadK, hs, e, ek, ev, Bool.false_eq_true, if_false]; exact ⟨h1, hk'⟩⟩
        · exact h.elim
      · exact h.elim
    · exact h.elim
  | aptr id z i j =>
    simp only [loadK] at h
    split at h
    · rename_i z' xs e
      split at h
      · rename_i d ed
        obtain ⟨h1, h2⟩ := h
        exact ⟨_, h2, fun s' K' hs hk' => by simp only [sameAt] at hs; simp only [loadK, hs, e, ed]; exact ⟨h1, hk'⟩⟩
      · exact h.elim
    · exact h.elim
  | _ => exact h.elim

/-- **An operation of the free part does the same wherever what it reads is there.** -/
theorem freeStep_local (hk : freeStep P base o s K) : Local P base all o s K (freeStep P base o) := by
  cases ho : o.op with
  | move x =>
    simp only [freeStep, ho] at hk
    exact local_put hk fun s' ha => by simp only [freeStep, ho, ha.ev (x := x) (by rw [ho]; simp [Op.operands])]
  | «assign» x =>
    simp only [freeStep, ho] at hk
    exact local_put hk fun s' ha => by simp only [freeStep, ho, ha.ev (x := x) (by rw [ho]; simp [Op.operands])]
  | pick c x y =>
    simp only [freeStep, ho, stepK] at hk
    split at hk
    · rename_i t e
      have h1 : ∀ s', Agree all base o s s' → ev P 0 s' c = .d (.bool t) := fun s' ha => by rw [ha.ev (by rw [ho]; simp [Op.operands]), e]
      cases t with
      | true => exact local_put (hk.1 rfl) fun s' ha => by simp [freeStep, ho, stepK, h1 s' ha, ha.ev (x := x) (by rw [ho]; simp [Op.operands])]
      | false => exact local_put (hk.2 rfl) fun s' ha => by simp [freeStep, ho, stepK, h1 s' ha, ha.ev (x := y) (by rw [ho]; simp [Op.operands])]
    · exact hk.elim
  | alloc t =>
    simp only [freeStep, ho, stepK] at hk
    split at hk
    · rename_i cs e
      refine ⟨{ ws := (o.dst.toList).map fun d => (d, .ptr s.hp.length 0), push := some (.var cs) }, ?_, fun p hp => ?_, fun hh => by simp [isAlloc, ho] at hh, fun s' ha => ?_⟩
      · cases hd : o.dst <;> simpa [Eff.app, St.put, writeTm, hd] using hk
      · simp only [List.mem_map] at hp
        obtain ⟨d, hd, rfl⟩ := hp
        exact List.mem_append_left _ hd
      · have hh := ha.al (by simp [isAlloc, ho])
        cases hd : o.dst <;> simp [freeStep, ho, stepK, e, Eff.app, St.put, writeTm, hd, hh]
    · exact hk.elim
  | box t x =>
    simp only [freeStep, ho, stepK] at hk
    obtain ⟨hn, hk⟩ := hk
    refine ⟨{ ws := (o.dst.toList).map fun d => (d, .ptr s.hp.length 0), push := some (.var (ev P t s x).cp.flat) }, ?_, fun p hp => ?_, fun hh => by simp [isAlloc, ho] at hh, fun s' ha => ?_⟩
    · cases hd : o.dst <;> simpa [Eff.app, St.put, writeTm, hd] using hk
    · simp only [List.mem_map] at hp
      obtain ⟨d, hd, rfl⟩ := hp
      exact List.mem_append_left _ hd
    · have hh := ha.al (by simp [isAlloc, ho])
      have he := ha.ev (P := P) (x := x) (by rw [ho]; simp [Op.operands]) t
      cases hd : o.dst <;> simp [freeStep, ho, stepK, he, hn, Eff.app, St.put, writeTm, hd, hh]
  | load t x =>
    simp only [freeStep, ho] at hk
    have he : ∀ s', Agree all base o s s' → ev P 0 s' x = ev P 0 s x := fun s' ha => ha.ev (by rw [ho]; simp [Op.operands]) 0
    cases hx : ev P 0 s x with
    | ptr id off =>
      rw [hx] at hk
      obtain ⟨hb, hk⟩ := hk
      obtain ⟨v, h1, h2⟩ := loadK_fun hk
      exact local_put h1 fun s' ha => by simp only [freeStep, ho, he s' ha, hx]; exact ⟨hb, h2 s' _ (ha.hp id hb) rfl⟩
    | aptr id z i j =>
      rw [hx] at hk
      obtain ⟨hb, hk⟩ := hk
      obtain ⟨v, h1, h2⟩ := loadK_fun hk
      exact local_put h1 fun s' ha => by simp only [freeStep, ho, he s' ha, hx]; exact ⟨hb, h2 s' _ (ha.hp id hb) rfl⟩
    | lptr l z xs i j =>
      rw [hx] at hk
      obtain ⟨v, h1, h2⟩ := loadK_fun hk
      exact local_put h1 fun s' ha => by simp only [freeStep, ho, he s' ha, hx]; exact h2 s' _ trivial rfl
    | _ => rw [hx] at hk; exact hk.elim
  | binOp op t x y t' =>
    simp only [freeStep, ho, stepK] at hk
    obtain ⟨hnc, hk⟩ := hk
    rw [hnc, cond_false] at hk
    obtain ⟨v, h1, h2⟩ := binK_fun hk
    exact local_put h1 fun s' ha => by
      simp only [freeStep, ho, stepK, hnc, cond_false, true_and, ha.ev (x := x) (by rw [ho]; simp [Op.operands]), ha.ev (x := y) (by rw [ho]; simp [Op.operands])]
      exact h2 _ rfl
  | unOp op t x =>
    have he : ∀ s', Agree all base o s s' → ev P 0 s' x = ev P 0 s x := fun s' ha => ha.ev (by rw [ho]; simp [Op.operands]) 0
    simp only [freeStep, ho, stepK] at hk
    split at hk
    · rename_i b e; exact local_put hk fun s' ha => by simp only [freeStep, ho, stepK, he s' ha, e]
    · rename_i k n e; exact local_put hk fun s' ha => by simp only [freeStep, ho, stepK, he s' ha, e]
    · rename_i k n e; exact local_put hk fun s' ha => by simp only [freeStep, ho, stepK, he s' ha, e]
    · exact hk.elim
  | convert a b x =>
    have he : ∀ s', Agree all base o s s' → ev P a s' x = ev P a s x := fun s' ha => ha.ev (by rw [ho]; simp [Op.operands]) a
    simp only [freeStep, ho, stepK] at hk
    split at hk
    · rename_i k n e
      split at hk
      · rename_i k' e2; obtain ⟨h1, hk⟩ := hk; exact local_put hk fun s' ha => by simp only [freeStep, ho, stepK, he s' ha, e, e2]; exact ⟨h1, trivial⟩
      · exact hk.elim
    · rename_i b' e; obtain ⟨h1, h2, hk⟩ := hk; exact local_put hk fun s' ha => by simp only [freeStep, ho, stepK, he s' ha, e]; exact ⟨h1, h2, trivial⟩
    · exact hk.elim
  | makeFunc f fs cs =>
    simp only [freeStep, ho, stepK] at hk
    obtain ⟨h1, hk⟩ := hk
    exact local_put hk fun s' ha => by
      simp only [freeStep, ho, stepK]
      refine ⟨h1, ?_⟩
      congr 2
      refine List.map_congr_left fun x hx => ?_
      rw [ha.ev (x := x) (by rw [ho]; simp only [Op.operands]; exact Array.mem_append.2 (.inr (by simpa using hx)))]
  | slice t x lo hi mx =>
    simp only [freeStep, ho, stepK] at hk
    obtain ⟨v, h1, h2⟩ := sliceK_fun hk
    exact local_put h1 fun s' ha => by
      simp only [freeStep, ho, stepK, ha.ev (x := x) (by rw [ho]; simp [Op.operands])]
      rw [sliceK_congr ha (fun y hy => by rw [ho, hy]; simp [Op.operands]) (fun y hy => by rw [ho, hy]; simp [Op.operands]) (fun y hy => by rw [ho, hy]; simp [Op.operands])]
      exact h2 _ rfl
  | fieldAddr t x f =>
    have he : ∀ s', Agree all base o s s' → ev P 0 s' x = ev P 0 s x := fun s' ha => ha.ev (by rw [ho]; simp [Op.operands]) 0
    simp only [freeStep, ho, stepK] at hk
    split at hk
    · rename_i e e2; exact local_put hk fun s' ha => by simp only [freeStep, ho, stepK, he s' ha, e, e2]
    · rename_i e e2; exact local_put hk fun s' ha => by simp only [freeStep, ho, stepK, he s' ha, e, e2]
    · rename_i e e2; exact local_put hk fun s' ha => by simp only [freeStep, ho, stepK, he s' ha, e, e2]
    · exact hk.elim
  | field t x f =>
    have he : ∀ s', Agree all base o s s' → ev P t s' x = ev P t s x := fun s' ha => ha.ev (by rw [ho]; simp [Op.operands]) t
    simp only [freeStep, ho, stepK] at hk
    split at hk
    · rename_i d n ft e e2
      split at hk
      · rename_i y e3; obtain ⟨h1, hk⟩ := hk; exact local_put hk fun s' ha => by simp only [freeStep, ho, stepK, he s' ha, e, e2, e3]; exact ⟨h1, trivial⟩
      · exact hk.elim
    · rename_i d n ft e e2
      split at hk
      · rename_i y e3; exact local_put hk fun s' ha => by simp only [freeStep, ho, stepK, he s' ha, e, e2, e3]
      · exact hk.elim
    · exact hk.elim
  | indexAddr t x i =>
    have he : ∀ s', Agree all base o s s' → ev P t s' x = ev P t s x := fun s' ha => ha.ev (by rw [ho]; simp [Op.operands]) t
    have he2 : ∀ s', Agree all base o s s' → ev P 0 s' i = ev P 0 s i := fun s' ha => ha.ev (by rw [ho]; simp [Op.operands]) 0
    simp only [freeStep, ho] at hk
    split at hk
    · rename_i id z off len cap ex
      obtain ⟨hb, hk⟩ := hk
      simp only [stepK, ho, ex] at hk
      split at hk
      · rename_i e e2; cases e
      · rename_i e e2
        injection e with q1 q2 q3 q4 q5; subst q1; subst q2; subst q3; subst q4; subst q5
        obtain ⟨a1, a2, a3, hk⟩ := hk
        exact local_put hk fun s' ha => by
          simp only [freeStep, ho, he s' ha, ex, stepK, he2 s' ha, e2, ha.hp _ hb]
          exact ⟨hb, a1, a2, a3, trivial⟩
      · rename_i e e2; cases e
      · exact hk.elim
    · rename_i hnr
      simp only [stepK, ho] at hk
      split at hk
      · rename_i e e2; obtain ⟨a1, a2, a3, hk⟩ := hk; exact local_put hk fun s' ha => by simp only [freeStep, ho, stepK, he s' ha, he2 s' ha, e, e2]; exact ⟨a1, a2, a3, trivial⟩
      · rename_i e e2; exact absurd e (hnr _ _ _ _ _)
      · rename_i e e2
        split at hk
        · rename_i e3; obtain ⟨a1, a2, hk⟩ := hk; exact local_put hk fun s' ha => by simp only [freeStep, ho, stepK, he s' ha, he2 s' ha, e, e2, e3]; exact ⟨a1, a2, trivial⟩
        · exact hk.elim
      · exact hk.elim
  | lookup t x y ok =>
    have he : ∀ s', Agree all base o s s' → ev P t s' x = ev P t s x := fun s' ha => ha.ev (by rw [ho]; simp [Op.operands]) t
    have he2 : ∀ s', Agree all base o s s' → ∀ t, ev P t s' y = ev P t s y := fun s' ha => ha.ev (by rw [ho]; simp [Op.operands])
    simp only [freeStep, ho] at hk
    split at hk
    · rename_i id ex
      obtain ⟨hb, hk⟩ := hk
      simp only [stepK, ho] at hk
      unfold lookupK at hk
      rw [ex] at hk
      split at hk
      · rename_i id' k kt et e1 ek em
        injection e1 with e1; subst e1
        rw [em] at ek
        simp only [Option.map_some, Option.getD_some] at ek
        split at hk
        · rename_i clock es ehp
          obtain ⟨hkey, hk⟩ := hk
          split at hk
          · rename_i i V ef
            exact local_put hk fun s' ha => by
              simp only [freeStep, ho, he s' ha, ex, stepK, he2 s' ha]
              refine ⟨hb, ?_⟩
              unfold lookupK
              simp only [em, Option.map_some, Option.getD_some, ek, ha.hp _ hb, ehp, ef]
              exact ⟨hkey, trivial⟩
          · rename_i ef
            split at hk
            · rename_i Z eZ
              exact local_put hk fun s' ha => by
                simp only [freeStep, ho, he s' ha, ex, stepK, he2 s' ha]
                refine ⟨hb, ?_⟩
                unfold lookupK
                simp only [em, Option.map_some, Option.getD_some, ek, ha.hp _ hb, ehp, ef, eZ]
                exact ⟨hkey, trivial⟩
            · exact hk.elim
          · exact hk.elim
        · exact hk.elim
      · exact hk.elim
    · exact hk.elim
  | index t x i =>
    have he : ∀ s', Agree all base o s s' → ev P t s' x = ev P t s x := fun s' ha => ha.ev (by rw [ho]; simp [Op.operands]) t
    have he2 : ∀ s', Agree all base o s s' → ev P 0 s' i = ev P 0 s i := fun s' ha => ha.ev (by rw [ho]; simp [Op.operands]) 0
    simp only [freeStep, ho, stepK] at hk
    split at hk
    · rename_i e e2; obtain ⟨a1, a2, a3, hk⟩ := hk; exact local_put hk fun s' ha => by simp only [freeStep, ho, stepK, he s' ha, he2 s' ha, e, e2]; exact ⟨a1, a2, a3, trivial⟩
    · exact hk.elim
  | extract x i =>
    have he : ∀ s', Agree all base o s s' → ev P 0 s' x = ev P 0 s x := fun s' ha => ha.ev (by rw [ho]; simp [Op.operands]) 0
    simp only [freeStep, ho] at hk
    split at hk
    · rename_i e
      split at hk
      · rename_i e2; obtain ⟨h1, hk⟩ := hk; exact local_put hk fun s' ha => by simp only [freeStep, ho, he s' ha, e, e2]; exact ⟨h1, trivial⟩
      · exact hk.elim
    · exact hk.elim
  | build t ps =>
    have he : ∀ s', Agree all base o s s' → (ps.toList.map fun p => (p.1, ev P (((fieldOff P t p.1).map (·.2)).getD 0) s' p.2)) = ps.toList.map fun p => (p.1, ev P (((fieldOff P t p.1).map (·.2)).getD 0) s p.2) := fun s' ha =>
      List.map_congr_left fun p hp => by rw [ha.ev (x := p.2) (by rw [ho]; simp only [Op.operands]; simp; exact ⟨p.1, by simpa using hp⟩)]
    simp only [freeStep, ho, stepK] at hk
    split at hk
    · rename_i e e2
      split at hk
      · rename_i e3; obtain ⟨h1, hk⟩ := hk; exact local_put hk fun s' ha => by simp only [freeStep, ho, stepK, he s' ha, e, e2, e3]; exact ⟨h1, trivial⟩
      · exact hk.elim
    · exact hk.elim
  | makeSlice t l c =>
    have he : ∀ s', Agree all base o s s' → ev P 0 s' l = ev P 0 s l := fun s' ha => ha.ev (by rw [ho]; simp [Op.operands]) 0
    have he2 : ∀ s', Agree all base o s s' → ev P 0 s' c = ev P 0 s c := fun s' ha => ha.ev (by rw [ho]; simp [Op.operands]) 0
    simp only [freeStep, ho, makeOwnK] at hk
    split at hk
    · rename_i e1 e2 e3 e4
      split at hk
      · rename_i e5; obtain ⟨h1, h2, h3, h4, h5, h6, h7, hk⟩ := hk; exact local_put hk fun s' ha => by simp only [freeStep, ho, makeOwnK, he s' ha, he2 s' ha, e1, e2, e3, e4, e5]; exact ⟨h1, h2, h3, h4, h5, h6, h7, trivial⟩
      · exact hk.elim
    · exact hk.elim
  | buildSlice t n ps =>
    have he : ∀ e s', Agree all base o s s' → (ps.toList.map fun p => (p.1, ev P e s' p.2)) = ps.toList.map fun p => (p.1, ev P e s p.2) := fun e s' ha =>
      List.map_congr_left fun p hp => by rw [ha.ev (x := p.2) (by rw [ho]; simp only [Op.operands]; simp; exact ⟨p.1, by simpa using hp⟩)]
    simp only [freeStep, ho, stepK] at hk
    split at hk
    · rename_i e e2
      split at hk
      · rename_i e3
        split at hk
        · rename_i e4; obtain ⟨h1, h2, h3, h4, hk⟩ := hk; exact local_put hk fun s' ha => by simp only [freeStep, ho, stepK, he _ s' ha, e, e2, e3, e4]; exact ⟨h1, h2, h3, h4, trivial⟩
        · exact hk.elim
      · exact hk.elim
    · exact hk.elim
  | call c =>
    have hav : ∀ s', Agree all base o s s' → argVs P s' c = argVs P s c := fun s' ha => ha.argVs ho
    simp only [freeStep, ho] at hk
    unfold freeCall at hk
    split at hk
    · rename_i g eg
      have he : ∀ s', Agree all base o s s' → ev P 0 s' g = ev P 0 s g := fun s' ha => ha.ev (by rw [ho]; simp [Op.operands, Call.operands, eg]) 0
      split at hk
      · rename_i f caps e
        obtain ⟨h1, h0, ds, r, h2, h3, h4, hk⟩ := hk
        exact local_put hk fun s' ha => by
          simp only [freeStep, ho]
          unfold freeCall
          simp only [eg, he s' ha, e]
          exact ⟨h1, h0, ds, r, by rw [hav s' ha]; exact h2, h3, h4, rfl⟩
      · exact hk.elim
    · rename_i eg
      have aux : ∀ s' : St, (freeStep P base o s' (fun x => x = s'.put o.dst (.d (.int .i64 0)))) = (freeStep P base o s' (fun x => x = s'.put o.dst (.d (.int .i64 0)))) := fun _ => rfl
      split at hk
      · exact hk.elim
      · rename_i hnm
        unfold callK0 at hk
        simp only [eg] at hk
        split at hk
        · rename_i e; obtain ⟨a1, a2, hk⟩ := hk; exact local_put hk fun s' ha => by simp only [freeStep, ho]; unfold freeCall; simp only [eg, hav s' ha, e]; unfold callK0; simp only [eg, hav s' ha, e]; exact ⟨a1, a2, trivial⟩
        · rename_i e; obtain ⟨a1, a2, hk⟩ := hk; exact local_put hk fun s' ha => by simp only [freeStep, ho]; unfold freeCall; simp only [eg, hav s' ha, e]; unfold callK0; simp only [eg, hav s' ha, e]; exact ⟨a1, a2, trivial⟩
        · rename_i e; obtain ⟨a1, a2, hk⟩ := hk; exact local_put hk fun s' ha => by simp only [freeStep, ho]; unfold freeCall; simp only [eg, hav s' ha, e]; unfold callK0; simp only [eg, hav s' ha, e]; exact ⟨a1, a2, trivial⟩
        · rename_i e; obtain ⟨a1, a2, hk⟩ := hk; exact local_put hk fun s' ha => by simp only [freeStep, ho]; unfold freeCall; simp only [eg, hav s' ha, e]; unfold callK0; simp only [eg, hav s' ha, e]; exact ⟨a1, a2, trivial⟩
        · rename_i e; exact absurd e (hnm _)
        · exact hk.elim
    · rename_i eg
      unfold callK0 at hk
      simp only [eg] at hk
      split at hk
      · rename_i x y exy
        have hx : x ∈ o.op.operands := by rw [ho]; simp only [Op.operands, Call.operands, eg]; have : x ∈ c.args.toList := by rw [exy]; simp
                                          simpa using this
        have hy : y ∈ o.op.operands := by rw [ho]; simp only [Op.operands, Call.operands, eg]; have : y ∈ c.args.toList := by rw [exy]; simp
                                          simpa using this
        split at hk
        · rename_i z xs ly z' ys e1 e2
          split at hk
          · rename_i sz by_ e3
            obtain ⟨a1, a2, a3, a4, a5, a6, a7, a8, hk⟩ := hk
            refine ⟨{ ws := argW x (ev P (c.argTypes.getD 0 0) s x).cp ++ (o.dst.toList.map fun d => (d, .own z (xs ++ ys))), push := none }, ?_, fun p hp => ?_, fun _ => rfl, fun s' ha => ?_⟩
            · cases x <;> cases hd : o.dst <;> simpa [argW, Eff.app, St.put, St.at_, writeTm, hd] using hk
            · rcases List.mem_append.1 hp with hp | hp
              · refine List.mem_append_right _ ?_
                cases x with
                | tmp i => simp [argW] at hp; subst hp; simp [arg0, ho, eg, exy]
                | _ => simp [argW] at hp
              · simp only [List.mem_map] at hp
                obtain ⟨d, hd, rfl⟩ := hp
                exact List.mem_append_left _ hd
            · simp only [freeStep, ho]; unfold freeCall; simp only [eg]; unfold callK0; simp only [eg, exy, ha.ev hx, ha.ev hy, e1, e2, e3]
              refine ⟨a1, a2, a3, a4, a5, a6, a7, a8, ?_⟩
              cases x <;> cases hd : o.dst <;> simp [argW, Eff.app, St.put, St.at_, writeTm]
          · exact hk.elim
        · exact hk.elim
      · exact hk.elim
    · rename_i eg
      unfold callK0 at hk
      simp only [eg] at hk
      split at hk
      · rename_i e; exact local_put hk fun s' ha => by simp only [freeStep, ho]; unfold freeCall; simp only [eg]; unfold callK0; simp only [eg, hav s' ha, e]
      · exact hk.elim
    · rename_i eg
      unfold callK0 at hk
      simp only [eg] at hk
      split at hk
      · rename_i e; exact local_put hk fun s' ha => by simp only [freeStep, ho]; unfold freeCall; simp only [eg]; unfold callK0; simp only [eg, hav s' ha, e]
      · exact hk.elim
    · exact hk.elim
  | _ => simp [freeStep, ho, stepK] at hk

/-- with its guard -/
theorem freeOp_local (hk : freeOp P base all o s K) : Local P base all o s K (freeOp P base all o) := by
  unfold freeOp at hk
  split at hk
  · rename_i hg
    obtain ⟨e, h1, h2, h3, h4⟩ := freeStep_local (all := all) hk
    exact ⟨e, h1, h2, h3, fun s' ha => by unfold freeOp; simp only [hg]; exact h4 s' ha⟩
  · rename_i j want hg
    split at hk
    · rename_i t et
      have ht : t ∈ opUses all o := by
        unfold opUses; rw [hg]; refine List.mem_append_right _ ?_; simp [et]
      split at hk
      · rename_i b eb
        by_cases hb : b = want
        · obtain ⟨e, h1, h2, h3, h4⟩ := freeStep_local (all := all) (hk.1 hb)
          refine ⟨e, h1, h2, h3, fun s' ha => ?_⟩
          unfold freeOp; simp only [hg, et, ha.tm t ht, eb]
          exact ⟨fun _ => h4 s' ha, fun hn => by subst hb; cases b <;> simp at hn⟩
        · have hb' : b = !want := by cases b <;> cases want <;> simp_all
          exact local_put (hk.2 hb') fun s' ha => by
            unfold freeOp; simp only [hg, et, ha.tm t ht, eb]
            exact ⟨fun hh => absurd hh hb, fun _ => trivial⟩
      · rename_i eb
        exact local_put hk fun s' ha => by
          unfold freeOp; simp only [hg, et, ha.tm t ht, eb]
      · exact hk.elim
    · exact hk.elim

/-- The effects of a free part, one an operation. -/
theorem free_effs (hb : base ≤ s.hp.length) : ∀ (ops : List Oper) (s : St), base ≤ s.hp.length → freeK P base all ops s K → ∃ es : List Eff, es.length = ops.length ∧ K (stL (fun _ => true) 0 es s) ∧
    ∀ (i : Nat) o, ops[i]? = some o → ∃ e, es[i]? = some e ∧ (∀ p ∈ e.ws, p.1 ∈ opWrites o) ∧ (isAlloc o = false → e.push = none) ∧
      ∀ s', Agree all base o (stL (fun _ => true) 0 (es.take i) s) s' → freeOp P base all o s' (fun x => x = e.app s')
  | [], s, _, hk => ⟨[], rfl, hk, by simp⟩
  | o :: ops, s, hs, hk => by
    simp only [freeK] at hk
    obtain ⟨e, h1, h2, h3, h4⟩ := freeOp_local hk
    have hlen : base ≤ (e.app s).hp.length := by simp [Eff.app]; omega
    obtain ⟨es, k1, k2, k3⟩ := free_effs hb ops (e.app s) hlen h1
    have hshift : ∀ (es : List Eff) (i : Nat) (s : St), stL (fun _ => true) (i + 1) es s = stL (fun _ => true) i es s := by
      intro es
      induction es with
      | nil => intro i s; rfl
      | cons f es ih => intro i s; simp only [stL, if_true]; rw [ih]
    refine ⟨e :: es, by simp [k1], by simp only [stL, if_true]; rw [hshift]; exact k2, fun i o' ho => ?_⟩
    cases i with
    | zero =>
      simp at ho; subst ho
      exact ⟨e, rfl, h2, h3, fun s' ha => h4 s' (by simpa [stL] using ha)⟩
    | succ i =>
      obtain ⟨e', q1, q2, q3, q4⟩ := k3 i o' (by simpa using ho)
      refine ⟨e', by simpa using q1, q2, q3, fun s' ha => q4 s' ?_⟩
      simp only [List.take_succ_cons, stL, if_true, hshift] at ha
      exact ha

end
end Go.Idl
end
section
namespace Go.Idl

section
variable {P : Program} {κ : Ctx} {s : St} {a : Act} {w : World} {K : St → Prop} {o : Oper} {base : Nat}

theorem mv_false (s : St) (x : Operand) (v : V) (dst : Option Nat) : mv s x v dst false = s.put dst v.cp := by
  unfold mv; simp

theorem freeCall_callK {c : Call} {dst : Option Nat} (hk : freeCall P c s dst K) : callK P c s dst K := by
  unfold freeCall at hk
  split at hk
  · rename_i g eg
    split at hk
    · rename_i f caps e
      obtain ⟨h1, h0, ds, r, h2, h3, h4, hk⟩ := hk
      unfold callK
      simp only [eg]
      unfold callK0
      simp only [eg, e, h1, cond_true]
      refine ⟨?_, ?_⟩
      · rw [List.all_append, h0, Bool.and_true, List.all_eq_true]
        intro v hv
        have hc : v.cp = v := by
          simp only [argVs, List.mem_map] at hv
          obtain ⟨x, _, rfl⟩ := hv
          exact Idl.V.cp_cp _
        obtain ⟨q1, q2⟩ := allD_get h2
        obtain ⟨j, hj, rfl⟩ := List.getElem_of_mem hv
        have hj' : j < ds.length := by rw [← q1]; simp; omega
        obtain ⟨v', e1, e2⟩ := q2 j _ (List.getElem?_eq_getElem hj')
        rw [List.getElem?_append_left hj, List.getElem?_eq_getElem hj] at e1
        injection e1 with e1; subst e1
        generalize (argVs P s c)[j] = v at e2 hc
        cases v <;> simp_all [V.d?, V.cp, V.bare]
      · exact callK_pcall h4 h2 h3 hk
    · exact hk.elim
  · rename_i eg
    split at hk
    · exact hk.elim
    · unfold callK; simp only [eg]; exact hk
  · rename_i eg
    unfold callK
    split
    · rename_i x y t0 t1 _ ea et
      split
      · rename_i e
        unfold callK0 at hk
        simp only [eg, ea] at hk
        have : c.argTypes = #[t0, t1] := toList_two et
        rw [this] at hk
        have ed0 : (#[t0, t1] : Array TypeId).getD 0 0 = t0 := rfl
        rw [ed0, e] at hk
        simp [appBase] at hk
      · exact hk
    · rename_i e _ _; rw [eg] at e; cases e
    · rename_i e _ _; rw [eg] at e; cases e
    · rename_i e _ _; rw [eg] at e; cases e
    · rename_i e _ _; rw [eg] at e; cases e
    · exact hk
  · rename_i eg; unfold callK; simp only [eg]; exact hk
  · rename_i eg; unfold callK; simp only [eg]; exact hk
  · exact hk.elim

/-- a slice made as a value -/
theorem does_makeOwn {Φ : CM} {B : List Nat} {au : Auth} {t : TypeId} {l c : Operand} (h : Inv κ Φ B au s a w) (ho : o.op = .makeSlice t l c) (hk : makeOwnK P t l c s o.dst K) : Does P κ o a w K := by
  unfold makeOwnK at hk
  split at hk
  · rename_i e z y k n k' m e1 e2 el ec
    split at hk
    · rename_i zd ez
      obtain ⟨rfl, hn, hby, hnm, hdst, hzd, hz0, hk⟩ := hk
      obtain ⟨ty, i, zv, hut, hi, hzv, hsz, hyb, hzs⟩ := elI_inv e2
      have : e = ty := by simp [elemTy, hut] at e1; exact e1.symm
      subst this
      have hln := repD_int (ev_d h el)
      have hcn := repD_int (ev_d h ec)
      have hz := zero_rep (Φ := Φ) ez hi hzv (by rw [hzd, hzs])
      have hzr := zeros_rep (n := n.toNat) hz hzd hz0
      have hall : ∀ x ∈ List.replicate n.toNat zd, x.flat.length = z := fun x hx => by rw [(List.mem_replicate.1 hx).2]; exact hzd
      obtain ⟨arr, harr⟩ : ∃ arr, arr = (Array.range (n.toNat * z)).map (zv.cells[· % zv.cells.size]!) := ⟨_, rfl⟩
      rw [← harr] at hzr
      obtain ⟨d, hd⟩ := Option.isSome_iff_exists.1 hdst
      rw [hd] at hk
      obtain ⟨Φ', au', hfin⟩ := h.lay (el := e) (rest := []) (z := z) (xs := List.replicate n.toNat zd) hzr hall d n.toNat (by simp) (by
        rw [← hzr.get.1, flat_length hall]; simp)
      refine does_value (v := .slice (some ⟨w.heap.size, 0, none⟩) n.toNat n.toNat) ?_ hk ⟨Φ', B, au', by rw [hd]; simpa using hfin⟩
      unfold execOp; rw [ho]; refine run_v ?_
      have hw : IntKind.i64.wrap n = n := wrap_i64 (by omega) (by omega)
      subst hsz; subst hyb
      simp only [hln, hcn]
      unfold Instr.makeSlice
      rw [Sem.run_bind, run_underlying hut]; simp only [Result.andThen_ok, asInt, asIntOf, pure_bind]
      rw [Sem.run_bind, run_typeInfo hi]; simp only [Result.andThen_ok, hw]
      have c1 : decide (n < 0) = false := by simpa using hn
      have c2 : decide ((i.bytes : Int) * n > 2 ^ 48) = false := by simp; omega
      have c3 : decide (n > n) = false := by simp
      simp only [c1, c2, c3, Bool.or_self, Bool.false_eq_true, if_false]
      rw [Sem.run_bind, run_askRoom]; simp only [Result.andThen_ok]
      rw [Sem.run_bind, run_sizeOf hi]; simp only [Result.andThen_ok]
      split
      · rename_i h0
        have hc0 : (Array.range (n.toNat * i.size)).map (fun x => (#[] : Array Value)[x % (#[] : Array Value).size]!) = (Array.range (n.toNat * i.size)).map (zv.cells[· % zv.cells.size]!) := by rw [h0]; simp
        rw [hc0, ← harr]; rfl
      · rw [Sem.run_bind, run_zeroValue hi hzv]; simp only [Result.andThen_ok]; rw [← harr]; rfl
    · exact hk.elim
  · exact hk.elim

theorem freeStep_sound (h : Rel κ s a w) (hk : freeStep P base o s K) : Does P κ o a w K := by
  unfold freeStep at hk
  split at hk
  · rename_i x ho
    obtain ⟨Φ, B, au, h⟩ := h
    exact does_move (take := false) h (.inl ho) (by rw [mv_false]; exact hk)
  · rename_i x ho
    obtain ⟨Φ, B, au, h⟩ := h
    exact does_move (take := false) h (.inr ho) (by rw [mv_false]; exact hk)
  · rename_i t x ho
    obtain ⟨Φ, B, au, h⟩ := h
    refine does_load (r := []) h ho ?_
    simp only [stepK, ho, takes]
    split at hk
    · exact hk.2
    · exact hk.2
    · exact hk
  · rename_i x ix ho
    obtain ⟨Φ, B, au, h⟩ := h
    split at hk
    · rename_i vs e
      split at hk
      · rename_i V eV
        obtain ⟨hnt, hk⟩ := hk
        have g := ev_rep (P := P) h 0 x
        rw [e] at g
        generalize hv : a.eval x = v at g
        cases g with
        | tup hl =>
          rename_i cs
          obtain ⟨q1, q2⟩ := hl.get
          have hix : ix < cs.length := by rw [← q1]; exact (List.getElem?_eq_some_iff.1 eV).1
          have hc : cs[ix]? = some cs[ix] := List.getElem?_eq_getElem hix
          have hrep := q2 ix V _ eV hc
          refine does_plain (v := cs[ix]) h ?_ hrep.cp (fun _ => OwnV_cp) hk
          unfold execOp; rw [ho]; refine run_v ?_
          simp only [hv]
          unfold Instr.extract
          simp [hix]
      · exact hk.elim
    · exact hk.elim
  · rename_i c ho
    exact step_sound (r := []) h (by simp only [stepK, ho]; exact freeCall_callK hk)
  · split at hk
    · exact step_sound (r := []) h hk.2
    · exact step_sound (r := []) h hk
  · split at hk
    · exact step_sound (r := []) h hk.2
    · exact hk.elim
  · exact step_sound (r := []) h hk.2
  · rename_i t l c ho
    obtain ⟨Φ, B, au, h⟩ := h
    exact does_makeOwn h ho hk
  · exact hk.elim
  · exact hk.elim
  · exact hk.elim
  · exact hk.elim
  · exact hk.elim
  · exact hk.elim
  · exact step_sound (r := []) h hk

theorem freeStep_nodefer {c : Call} (hk : freeStep P base o s K) : o.op ≠ .defer c := by
  intro e; simp [freeStep, stepK, e] at hk

theorem guard_yield {ops : Array Oper} {j t : Nat} {b : Bool} (h : Rel κ s a w) (et : (ops.toList[j]?).bind (·.dst) = some t) (eb : s.tm[t]? = some (.d (.bool b))) : yielded ops a.tmps j = some b := by
  obtain ⟨Φ, B, au, hi⟩ := h
  have hlt : t < s.tm.length := (List.getElem?_eq_some_iff.1 eb).1
  have hat : t < a.tmps.size := by rw [← hi.tl]; exact hlt
  have hv : a.tmps[t]? = some (.bool b) := by
    have := (hi.tm t _ _ eb (Array.getElem?_eq_getElem hat)).1
    cases this with | d q => rw [Array.getElem?_eq_getElem hat, repD_bool q]
  unfold yielded
  rw [Array.getElem?_toList] at et
  simp only [et, Option.bind_some, hv]

theorem freeOp_sound {ops : Array Oper} {i : Nat} {Q : Exit → Act → World → Prop} {next : Act → World → Prop} (h : Rel κ s a w) (hi : ops[i]? = some o) (hk : freeOp P base ops.toList o s K)
    (hn : ∀ s' a' w', K s' → Rel κ s' a' w' → next a' w') : wpOpIn κ.F 0 P ops Q i next a w := by
  unfold wpOpIn
  simp only [hi]
  unfold freeOp at hk
  split at hk
  · rename_i hg
    rw [if_pos (by simp [Region.wanted, hg])]
    exact (freeStep_sound h hk).wpIn (fun c => freeStep_nodefer hk) hn
  · rename_i j want hg
    split at hk
    · rename_i t et
      split at hk
      · rename_i b eb
        have hy := guard_yield (ops := ops) h et eb
        by_cases e : b = want
        · rw [if_pos (by simp [Region.wanted, hg, hy, e])]
          exact (freeStep_sound h (hk.1 e)).wpIn (fun c => freeStep_nodefer (hk.1 e)) hn
        · rw [if_neg (by simp [Region.wanted, hg, hy, e])]
          have e' : b = !want := by cases b <;> cases want <;> simp_all
          exact ⟨fun _ _ => trivial, hn _ _ _ (hk.2 e') (h.skip o.dst)⟩
      · rename_i eb
        rw [if_neg (by simp [Region.wanted, hg, guard_skip h et eb])]
        exact ⟨fun _ _ => trivial, hn _ _ _ hk (h.skip o.dst)⟩
      · exact hk.elim
    · exact hk.elim

/-- one operation of the rest -/
theorem restOp_sound {ops : Array Oper} {i : Nat} {rest : List Oper} {Q : Exit → Act → World → Prop} {next : Act → World → Prop} (h : Rel κ s a w) (hi : ops[i]? = some o) (hk : opsK P ops.toList (o :: rest) s K)
    (hn : ∀ s' a' w', opsK P ops.toList rest s' K → Rel κ s' a' w' → next a' w') : wpOpIn κ.F 0 P ops Q i next a w := by
  unfold wpOpIn
  simp only [hi]
  simp only [opsK] at hk
  split at hk
  · rename_i hg
    rw [if_pos (by simp [Region.wanted, hg])]
    exact (step_sound h hk).wpIn (fun c => stepK_nodefer hk) hn
  · rename_i j want hg
    split at hk
    · rename_i t et
      split at hk
      · rename_i b eb
        have hy := guard_yield (ops := ops) h et eb
        obtain ⟨k1, k2⟩ := hk
        obtain ⟨Φ, B, au, hinv⟩ := h
        have hlt : t < s.tm.length := (List.getElem?_eq_some_iff.1 eb).1
        have hat : t < a.tmps.size := by rw [← hinv.tl]; exact hlt
        have hv : a.tmps[t]? = some (.bool b) := by
          have := (hinv.tm t _ _ eb (Array.getElem?_eq_getElem hat)).1
          cases this with | d q => rw [Array.getElem?_eq_getElem hat, repD_bool q]
        have hset : ∀ b', b = b' → Rel κ { s with tm := s.tm.set t (.d (.bool b')) } a w := by
          rintro b' rfl
          refine ⟨Φ, B, au, hinv.islot t fun V' v hV hv' => ?_⟩
          rw [hv] at hv'; injection hv' with hv'; subst hv'
          exact ⟨.d (.bool _), trivial⟩
        by_cases e : b = want
        · rw [if_pos (by simp [Region.wanted, hg, hy, e])]
          have hk1 := k1 e
          exact (step_sound (hset want e) hk1).wpIn (fun c => stepK_nodefer hk1) hn
        · rw [if_neg (by simp [Region.wanted, hg, hy, e])]
          have e' : b = !want := by cases b <;> cases want <;> simp_all
          exact ⟨fun _ _ => trivial, hn _ _ _ (k2 e') ((hset (!want) e').skip o.dst)⟩
      · rename_i eb
        rw [if_neg (by simp [Region.wanted, hg, guard_skip h et eb])]
        exact ⟨fun _ _ => trivial, hn _ _ _ hk (h.skip o.dst)⟩
      · exact hk.elim
    · exact hk.elim

/-! ### What is listed -/
/-- all that an operation waits for is listed -/
def Waits (ops : Array Oper) (listed : Array Bool) (i : Nat) : Prop := ∀ o, ops[i]? = some o → ∀ e ∈ o.after, Region.binds .any e = true → listed.getD e.on false = true

theorem mask_fold {acc : List Nat} : ∀ (l : List Edge) (m0 j : Nat), Nat.testBit (l.foldl (fun m e => Nat.lor (Nat.lor m (Nat.shiftLeft 1 e.on)) (acc.getD e.on 0)) m0) j = true → Nat.testBit m0 j = true ∨ ∃ e ∈ l, j = e.on ∨ Nat.testBit (acc.getD e.on 0) j = true
  | [], m0, j, h => .inl h
  | e :: l, m0, j, h => by
    simp only [List.foldl_cons] at h
    rcases mask_fold l _ j h with h | ⟨e', he', h⟩
    · have h' : Nat.testBit ((m0 ||| (1 <<< e.on)) ||| acc.getD e.on 0) j = true := h
      rw [Nat.testBit_or, Nat.testBit_or, Nat.testBit_shiftLeft] at h'
      simp only [Bool.or_eq_true, Bool.and_eq_true, decide_eq_true_eq] at h'
      rcases h' with (h' | ⟨h1, h2⟩) | h'
      · exact .inl h'
      · right
        refine ⟨e, by simp, .inl ?_⟩
        have : j - e.on = 0 := by
          rcases Nat.eq_zero_or_pos (j - e.on) with h | h
          · exact h
          · exfalso
            obtain ⟨k, hk⟩ : ∃ k, j - e.on = k + 1 := ⟨j - e.on - 1, by omega⟩
            rw [hk, Nat.testBit_succ] at h2; simp at h2
        omega
      · exact .inr ⟨e, by simp, .inr h'⟩
    · exact .inr ⟨e', by simp [he'], h⟩

theorem preds_listed {ops : Array Oper} {listed : Array Bool} : ∀ (rest : List Oper) (acc : List Nat), (∀ j, rest[j]? = ops[acc.length + j]?) → (∀ i, listed.getD i false = true → Waits ops listed i) →
    (∀ i, Waits ops listed i → ∀ j, Nat.testBit (acc.getD i 0) j = true → listed.getD j false = true) → ∀ i, Waits ops listed i → ∀ j, Nat.testBit ((predsL rest acc).getD i 0) j = true → listed.getD j false = true
  | [], acc, _, _, ha, i, hi, j, hj => ha i hi j hj
  | o :: rest, acc, hr, hc, ha, i, hi, j, hj => by
    simp only [predsL] at hj
    refine preds_listed rest _ (fun j => ?_) hc (fun i hi j hj => ?_) i hi j hj
    · have := hr (j + 1)
      simp only [List.getElem?_cons_succ] at this
      rw [this]; simp [Nat.add_assoc, Nat.add_comm 1 j]
    · rw [List.getD, List.getElem?_append] at hj
      split at hj
      · exact ha i hi j hj
      · rename_i hlt
        have hii : i = acc.length ∨ acc.length < i := by omega
        rcases hii with rfl | h
        · simp only [Nat.sub_self, List.getElem?_cons_zero, Option.getD_some] at hj
          rcases mask_fold _ _ _ hj with hj | ⟨e, he, hj⟩
          · simp at hj
          · simp only [List.mem_filter, Array.mem_toList_iff] at he
            obtain ⟨he, hb⟩ := he
            have ho : ops[acc.length]? = some o := by have := hr 0; simpa using this.symm
            have hon := hi o ho e he hb
            rcases hj with rfl | hj
            · exact hon
            · exact ha e.on (hc _ hon) j hj
        · rw [List.getElem?_eq_none (by simp; omega)] at hj
          simp at hj

theorem getD_bool (l : Array Bool) (i : Nat) : (l.getD i true = false) ↔ (i < l.size ∧ l.getD i false = false) := by
  simp only [Array.getD]
  split <;> simp [*]

theorem ready_iff {ops : Array Oper} {listed : Array Bool} (hs : listed.size = ops.size) {i : Nat} : i ∈ Region.ready .any ops listed ↔ i < ops.size ∧ listed.getD i false = false ∧ Waits ops listed i := by
  rw [mem_ready, getD_bool, hs]
  constructor
  · rintro ⟨⟨h1, h2⟩, o, ho, h3⟩
    exact ⟨h1, h2, fun o' ho' => by rw [ho] at ho'; injection ho' with ho'; subst ho'; exact h3⟩
  · rintro ⟨h1, h2, h3⟩
    exact ⟨⟨h1, h2⟩, ops[i], by simp [h1], h3 _ (by simp [h1])⟩

theorem getD_set (l : Array Bool) (i j : Nat) (h : i < l.size) : (l.setIfInBounds i true).getD j false = (l.getD j false || j == i) := by
  simp only [Array.getD_eq_getD_getElem?, Array.getElem?_setIfInBounds]
  by_cases e : i = j
  · subst e; simp [h]
  · have e' : (j == i) = false := by simp; omega
    simp [e, e']

theorem count_set {l : Array Bool} {i : Nat} (h : i < l.size) (hf : l.getD i false = false) : (l.setIfInBounds i true).toList.count false + 1 = l.toList.count false := by
  have e : l[i] = false := by simpa [Array.getD, h] using hf
  simp only [Array.toList_setIfInBounds]
  rw [List.count_set (by simpa using h)]
  have : 0 < l.toList.count false := List.count_pos_iff.2 (by rw [← e]; simp)
  simp only [Array.getElem_toList, e, beq_self_eq_true, if_true]
  rw [if_neg (by simp)]
  omega

/-- what the test of the region says -/
structure DrawOK (m : Nat) (ops : Array Oper) : Prop where
  lt : ∀ i o, ops[i]? = some o → ∀ e ∈ o.after, Region.binds .any e = true → e.on < i
  all : ∀ i j o p, ops[i]? = some o → ops[j]? = some p → j < i → Nat.testBit ((predsL ops.toList []).getD i 0) j = true ∨ (i < m ∧ conflict ops.toList o p = false)

theorem drawOK_spec {m : Nat} {ops : Array Oper} (h : drawOK m ops.toList = true) : DrawOK m ops := by
  have key := drawGo_spec ops.toList 0 [] [] h (by simp) rfl (by simp)
  constructor
  · intro i o ho e he hb
    exact (key i o (Nat.zero_le _) (by simpa using ho)).1 e he hb
  · intro i j o p ho hp hji
    exact (key i o (Nat.zero_le _) (by simpa using ho)).2 j p hji (by simpa using hp)

theorem ready_nil {ops : Array Oper} {listed : Array Bool} {m : Nat} (hd : DrawOK m ops) (hs : listed.size = ops.size) (h : Region.ready .any ops listed = []) : ∀ i, i < ops.size → listed.getD i false = true := by
  intro i
  induction i using Nat.strongRecOn with
  | ind i ih =>
    intro hi
    by_cases hl : listed.getD i false = true
    · exact hl
    · have : i ∈ Region.ready .any ops listed := (ready_iff hs).2 ⟨hi, by simpa using hl, fun o ho e he hb => by
        have hlt := hd.lt i o ho e he hb
        exact ih e.on hlt (by omega)⟩
      rw [h] at this; cases this

theorem waits_set {ops : Array Oper} {listed : Array Bool} {i : Nat} (hi : i < listed.size) (hw : Waits ops listed i) (hc : ∀ i, listed.getD i false = true → Waits ops listed i) :
    ∀ j, (listed.setIfInBounds i true).getD j false = true → Waits ops (listed.setIfInBounds i true) j := by
  intro j hj o ho e he hb
  rw [getD_set _ _ _ hi] at hj ⊢
  simp only [Bool.or_eq_true, beq_iff_eq] at hj ⊢
  rcases hj with hj | rfl
  · exact .inl (hc j hj o ho e he hb)
  · exact .inl (hw o ho e he hb)

/-- The rest: one after the other. -/
theorem rest_any {ops : Array Oper} {m : Nat} {Q : Exit → Act → World → Prop} (hd : DrawOK m ops) (hq : ∀ s' a' w', K s' → Rel κ s' a' w' → Q .normal a' w') : ∀ (fuel k : Nat) (listed : Array Bool) (s : St) (a : Act) (w : World), k + fuel = ops.size → m ≤ k → listed.size = ops.size →
    (∀ j, listed.getD j false = decide (j < k)) → (∀ i, listed.getD i false = true → Waits ops listed i) → Rel κ s a w → opsK P ops.toList (ops.toList.drop k) s K → wpAnyIn κ.F 0 P .any ops Q fuel listed a w
  | 0, k, listed, s, a, w, hk, hm, hs, hl, hc, h, hop => by
    refine ⟨?_, ?_⟩
    · apply List.eq_nil_iff_forall_not_mem.2
      intro i hi
      obtain ⟨h1, h2, _⟩ := (ready_iff hs).1 hi
      rw [hl] at h2; simp at h2; omega
    · rw [List.drop_eq_nil_of_le (by simp; omega)] at hop
      exact hq _ _ _ hop h
  | fuel + 1, k, listed, s, a, w, hk, hm, hs, hl, hc, h, hop => by
    refine ⟨fun hn => ?_, fun i hi => ?_⟩
    · have := ready_nil hd hs hn k (by omega)
      rw [hl] at this; simp at this
    · obtain ⟨h1, h2, h3⟩ := (ready_iff hs).1 hi
      have hik : i = k := by
        rw [hl] at h2; simp at h2
        rcases Nat.lt_or_ge k i with hlt | hge
        · have ho : ops[i]? = some ops[i] := by simp [h1]
          have hp : ops[k]? = some ops[k] := by simp
          rcases hd.all i k _ _ ho hp hlt with hin | ⟨hlm, _⟩
          · have := preds_listed ops.toList [] (by simp) hc (by simp) i h3 k hin
            rw [hl] at this; simp at this
          · omega
        · omega
      subst hik
      have ho : ops[i]? = some ops[i] := by simp [h1]
      rw [List.drop_eq_getElem_cons (by simpa using h1)] at hop
      refine restOp_sound h ho (by simpa using hop) fun s' a' w' k1 k2 => ?_
      refine rest_any hd hq fuel (i + 1) _ s' a' w' (by omega) (by omega) (by simpa using hs) (fun j => ?_) (waits_set (by omega) h3 hc) k2 k1
      rw [getD_set _ _ _ (by omega), hl]
      by_cases e : j = i
      · subst e; simp
      · have : (j == i) = false := by simpa using e
        rw [this]; simp; omega

theorem stL_congr (L L' : Nat → Bool) : ∀ (i : Nat) (es : List Eff) (s : St), (∀ k, k < es.length → L (i + k) = L' (i + k)) → stL L i es s = stL L' i es s
  | _, [], _, _ => rfl
  | i, e :: es, s, h => by
    simp only [stL]
    rw [show L i = L' i by simpa using h 0 (by simp)]
    exact stL_congr L L' (i + 1) es _ fun k hk => by rw [show i + 1 + k = i + (k + 1) by omega]; exact h (k + 1) (by simpa using hk)

theorem stL_hp_congr (L L' : Nat → Bool) : ∀ (i : Nat) (es : List Eff) (s s' : St), s.hp = s'.hp → (∀ k e, es[k]? = some e → e.push ≠ none → L (i + k) = L' (i + k)) → (stL L i es s).hp = (stL L' i es s').hp
  | _, [], _, _, h, _ => h
  | i, e :: es, s, s', h, hp => by
    simp only [stL]
    refine stL_hp_congr L L' (i + 1) es _ _ ?_ fun k e' he hn => by
      rw [show i + 1 + k = i + (k + 1) by omega]; exact hp (k + 1) e' (by simpa using he) hn
    by_cases hn : e.push = none
    · split <;> split <;> simp [Eff.app, hn, h]
    · have := hp 0 e rfl hn
      simp only [Nat.add_zero] at this
      rw [this]; split <;> simp [Eff.app, h]

theorem stL_take (i : Nat) : ∀ (b : Nat) (es : List Eff) (s : St), stL (fun _ => true) b (es.take i) s = stL (fun j => decide (j < b + i)) b es s := by
  induction i with
  | zero =>
    intro b es s
    have : ∀ (es : List Eff) (c : Nat) (s : St), b ≤ c → stL (fun j => decide (j < b)) c es s = s := by
      intro es
      induction es with
      | nil => intros; rfl
      | cons e es ih => intro c s hc; simp only [stL]; rw [if_neg (by simp; omega)]; exact ih (c + 1) s (by omega)
    simp only [List.take_zero, Nat.add_zero]
    rw [this es b s (Nat.le_refl _)]; rfl
  | succ i ih =>
    intro b es s
    cases es with
    | nil => rfl
    | cons e es =>
      simp only [List.take_succ_cons, stL, if_true]
      rw [if_pos (by simp), ih (b + 1) es _]
      exact stL_congr _ _ _ _ _ fun k _ => by simp; omega

/-- The free part, in whatever order. -/
theorem free_any {ops : Array Oper} {m : Nat} {Q : Exit → Act → World → Prop} (hd : DrawOK m ops) (hm : m ≤ ops.size) (hq : ∀ s' a' w', K s' → Rel κ s' a' w' → Q .normal a' w') {es : List Eff} (hel : es.length = m) (s : St) (hb : base ≤ s.hp.length)
    (he : ∀ (i : Nat) o, i < m → ops[i]? = some o → ∃ e, es[i]? = some e ∧ (∀ p ∈ e.ws, p.1 ∈ opWrites o) ∧ (isAlloc o = false → e.push = none) ∧
      ∀ s', Agree ops.toList base o (stL (fun _ => true) 0 (es.take i) s) s' → freeOp P base ops.toList o s' (fun x => x = e.app s'))
    (hop : opsK P ops.toList (ops.toList.drop m) (stL (fun _ => true) 0 es s) K) : ∀ (fuel : Nat) (listed : Array Bool) (a : Act) (w : World), listed.toList.count false = fuel → listed.size = ops.size →
    (∀ i, listed.getD i false = true → i < m) → (∀ i, listed.getD i false = true → Waits ops listed i) → Rel κ (stL (fun j => listed.getD j false) 0 es s) a w → wpAnyIn κ.F 0 P .any ops Q fuel listed a w := by
  intro fuel
  induction fuel with
  | zero =>
    intro listed a w hf hs hlt hc h
    have hall : ∀ i, i < ops.size → listed.getD i false = true := fun i hi => by
      by_cases e : listed.getD i false = true
      · exact e
      · exfalso
        have e' : listed[i]'(by omega) = false := by simpa [Array.getD, show i < listed.size by omega] using e
        have : 0 < listed.toList.count false := List.count_pos_iff.2 (by rw [← e']; simp)
        omega
    have hms : ops.size = m := by
      rcases Nat.lt_or_ge m ops.size with h1 | h1
      · have := hlt m (hall m h1); omega
      · omega
    refine ⟨?_, ?_⟩
    · apply List.eq_nil_iff_forall_not_mem.2
      intro i hi
      obtain ⟨h1, h2, _⟩ := (ready_iff hs).1 hi
      rw [hall i h1] at h2; cases h2
    · rw [List.drop_eq_nil_of_le (by simp; omega)] at hop
      rw [stL_congr _ (fun _ => true) 0 es s fun k hk => by simpa using hall k (by omega)] at h
      exact hq _ _ _ hop h
  | succ fuel ih =>
    intro listed a w hf hs hlt hc h
    by_cases hfin : ∀ i, i < m → listed.getD i false = true
    · -- the rest
      have hlm : ∀ j, listed.getD j false = decide (j < m) := fun j => by
        by_cases e : j < m
        · rw [hfin j e]; simp [e]
        · have : ¬ listed.getD j false = true := fun hh => e (hlt j hh)
          simp [e]; simpa using this
      rw [stL_congr _ (fun _ => true) 0 es s fun k hk => by simpa using hfin k (by omega)] at h
      have hcnt : m + (fuel + 1) = ops.size := by
        rw [← hf, ← hs]
        have e1 : listed.toList = (List.range listed.size).map fun j => decide (j < m) := by
          apply List.ext_getElem
          · simp
          · intro i h1 h2
            have := hlm i
            simp only [List.getElem_map, List.getElem_range]
            rw [← this]
            simp at h1
            simp [Array.getD, h1]
        rw [e1, hs]
        have e2 : ∀ n, m ≤ n → m + ((List.range n).map fun j => decide (j < m)).count false = n := by
          intro n
          induction n with
          | zero => intro h; simp; omega
          | succ n ihn =>
            intro h
            rw [List.range_succ, List.map_append, List.count_append]
            rcases Nat.lt_or_ge n m with h1 | h1
            · have : m = n + 1 := by omega
              subst this
              have e3 : ((List.range n).map fun j => decide (j < n + 1)).count false = 0 := by
                rw [List.count_eq_zero]
                intro hmem
                simp only [List.mem_map, List.mem_range] at hmem
                obtain ⟨j, hj, hj2⟩ := hmem
                simp at hj2; omega
              rw [e3]; simp
            · have := ihn h1
              have e4 : decide (n < m) = false := by simp; omega
              simp [e4]; omega
        exact e2 _ hm
      exact rest_any hd hq (fuel + 1) m listed _ a w hcnt (Nat.le_refl _) hs hlm hc h hop
    · -- one more of the free part
      refine ⟨fun hn => absurd (fun i hi => ready_nil hd hs hn i (by omega)) hfin, fun i hi => ?_⟩
      obtain ⟨h1, h2, h3⟩ := (ready_iff hs).1 hi
      have hpre : ∀ j, Nat.testBit ((predsL ops.toList []).getD i 0) j = true → listed.getD j false = true := preds_listed ops.toList [] (by simp) hc (by simp) i h3
      have ho : ops[i]? = some ops[i] := by simp [h1]
      have him : i < m := by
        rcases Nat.lt_or_ge i m with h' | h'
        · exact h'
        · exfalso
          refine hfin fun j hj => ?_
          rcases hd.all i j _ ops[j] ho (by simp) (by omega) with hin | ⟨hlm, _⟩
          · exact hpre j hin
          · omega
      obtain ⟨e, q1, q2, q3, q4⟩ := he i _ him ho
      -- earlier ones that are felt are done; later ones that feel are not
      have hearly : ∀ j p, ops[j]? = some p → j < i → conflict ops.toList ops[i] p = true → listed.getD j false = true := fun j p hp hji hcf => by
        rcases hd.all i j _ p ho hp hji with hin | ⟨_, hcf'⟩
        · exact hpre j hin
        · rw [hcf] at hcf'; cases hcf'
      have hlate : ∀ j p, ops[j]? = some p → i < j → listed.getD j false = true → conflict ops.toList p ops[i] = false := fun j p hp hij hl => by
        rcases hd.all j i p _ hp ho hij with hin | ⟨_, hcf'⟩
        · have := preds_listed ops.toList [] (by simp) hc (by simp) j (hc j hl) i hin
          rw [h2] at this; cases this
        · exact hcf'
      have hag : Agree ops.toList base ops[i] (stL (fun _ => true) 0 (es.take i) s) (stL (fun j => listed.getD j false) 0 es s) := by
        rw [stL_take]
        have hek : ∀ k e', es[k]? = some e' → ∃ p, ops[k]? = some p ∧ k < m := fun k e' hk => by
          have hk := (List.getElem?_eq_some_iff.1 hk).1
          exact ⟨ops[k]'(by omega), by simp, by omega⟩
        constructor
        · intro x hx
          refine stL_get _ _ x 0 es s s rfl rfl fun k e' hk hw => ?_
          obtain ⟨p, hp, hkm⟩ := hek k e' hk
          obtain ⟨e'', r1, r2, _⟩ := he k p hkm hp
          rw [hk] at r1; injection r1 with r1; subst r1
          obtain ⟨pr, hpr, hprx⟩ := hw
          have hxw : x ∈ opWrites p := hprx ▸ r2 pr hpr
          simp only [Nat.zero_add]
          rcases Nat.lt_trichotomy k i with hlt' | rfl | hgt
          · rw [hearly k p hp hlt' (conflict_of_meet hxw hx)]
            simp [hlt']
          · rw [h2]; simp
          · have : listed.getD k false = false := by
              by_cases hl : listed.getD k false = true
              · have hcf := hlate k p hp hgt hl
                exact absurd hx ((conflict_false hcf).1 x hxw).1
              · simpa using hl
            rw [this]; simp; omega
        · intro id hid
          obtain ⟨t1, e1⟩ := stL_hp (fun j => listed.getD j false) 0 es s
          obtain ⟨t2, e2⟩ := stL_hp (fun j => decide (j < 0 + i)) 0 es s
          rw [e1, e2, List.getElem?_append_left (by omega), List.getElem?_append_left (by omega)]
        · intro hal
          refine stL_hp_congr _ _ 0 es s s rfl fun k e' hk hne => ?_
          obtain ⟨p, hp, hkm⟩ := hek k e' hk
          obtain ⟨e'', r1, _, r3, _⟩ := he k p hkm hp
          rw [hk] at r1; injection r1 with r1; subst r1
          have hap : isAlloc p = true := by
            by_cases hh : isAlloc p = true
            · exact hh
            · exact absurd (r3 (by simpa using hh)) hne
          simp only [Nat.zero_add]
          rcases Nat.lt_trichotomy k i with hlt' | rfl | hgt
          · rw [hearly k p hp hlt' (conflict_of_alloc hal hap)]; simp [hlt']
          · rw [h2]; simp
          · have : listed.getD k false = false := by
              by_cases hl : listed.getD k false = true
              · have hcf := hlate k p hp hgt hl
                rw [conflict_of_alloc hap hal] at hcf; cases hcf
              · simpa using hl
            rw [this]; simp; omega
      refine freeOp_sound h ho (q4 _ hag) fun s' a' w' hs' hr' => ?_
      subst hs'
      refine ih _ a' w' ?_ (by simpa using hs) (fun j hj => ?_) (waits_set (by omega) h3 hc) ?_
      · have := count_set (l := listed) (i := i) (by omega) h2; omega
      · rw [getD_set _ _ _ (by omega)] at hj
        simp only [Bool.or_eq_true, beq_iff_eq] at hj
        rcases hj with hj | rfl
        · exact hlt j hj
        · exact him
      · rw [stL_insert (fun j => listed.getD j false) i e 0 es s (fun _ _ _ => trivial) (Nat.zero_le _) (by simpa using q1) h2 ?_] at hr'
        · rw [show (fun j => (listed.setIfInBounds i true).getD j false) = fun j => listed.getD j false || j == i from funext fun j => getD_set _ _ _ (by omega)]
          exact hr'
        · intro k f hf' hik hl
          simp only [Nat.zero_add] at hik hl
          have hkm : k < m := by have := (List.getElem?_eq_some_iff.1 hf').1; omega
          have hp : ops[k]? = some (ops[k]'(by omega)) := by simp
          obtain ⟨e'', r1, r2, r3, _⟩ := he k _ hkm hp
          rw [hf'] at r1; injection r1 with r1; subst r1
          have hcf := hlate k _ hp hik hl
          obtain ⟨hc1, hc2⟩ := conflict_false hcf
          refine ⟨fun x hx y hy hxy => ?_, ?_⟩
          · exact absurd (q2 x hx) (hc1 _ (hxy ▸ r2 y hy)).2
          · rcases hc2 with hh | hh
            · exact .inr (r3 hh)
            · exact .inl (q3 hh)

/-- THE LAW OF A DRAWN REGION. -/
theorem draw_sem {id : Nat} {ops : Array Oper} {Q : Ex → St → Prop} (m : Nat) (hmo : P.follows .mixedOrders = true) (hd : drawOK m ops.toList = true) (hm : m ≤ ops.size)
    (hk : freeK P s.hp.length ops.toList (ops.toList.take m) s fun s' => opsK P ops.toList (ops.toList.drop m) s' (Q .normal)) : SemC P (.region id ops true) Q s := by
  intro κ a w hr
  obtain ⟨es, h1, h2, h3⟩ := free_effs (base := s.hp.length) (all := ops.toList) (Nat.le_refl _) (ops.toList.take m) s (Nat.le_refl _) hk
  refine wpIn_region_any hmo ?_
  have hd' := drawOK_spec hd
  have hel : es.length = m := by rw [h1]; simp; omega
  refine free_any (base := s.hp.length) hd' hm (fun s' a' w' k1 k2 => ⟨.normal, s', rfl, k1, k2⟩) hel s (Nat.le_refl _) (fun i o him ho => ?_) h2 ops.size _ a _ ?_ ?_ ?_ ?_ ?_
  · exact h3 i o (by rw [List.getElem?_take_of_lt him]; simpa using ho)
  · simp
  · simp
  · intro i hi; simp [Array.getD] at hi
  · intro i hi; simp [Array.getD] at hi
  · have e0 : stL (fun j => (Array.replicate ops.size false).getD j false) 0 es s = s := by
      have : ∀ (es : List Eff) (i : Nat) (s : St), stL (fun _ => false) i es s = s := by
        intro es
        induction es with
        | nil => intros; rfl
        | cons e es ih => intro i s; simp only [stL, Bool.false_eq_true, if_false]; exact ih _ _
      rw [show (fun j => (Array.replicate ops.size false).getD j false) = fun _ => false from funext fun j => by simp [Array.getD]]
      exact this es 0 s
    rw [e0]
    obtain ⟨Φ, B, au, h⟩ := hr
    exact ⟨Φ, B, au, h.grow (Grows.drew w _)⟩

end
end Go.Idl
end
