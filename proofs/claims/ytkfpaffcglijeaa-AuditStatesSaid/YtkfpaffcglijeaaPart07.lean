/- Drawn regions, part 2: each free operation has an effect of its own, whatever else was done.; Drawn regions, part 3: the law.; From the memory that a statement speaks of to ideal data: the arguments of a law.; A law whose call is known on ideal data: the row that is claimed of it. -/
import Derived.ProofKit
import Derived.OpenShut
import Derived.ChangeArms
import Derived.ChangeOld
import Derived.SizedLaws
import Derived.Below
import Derived.Carry
import Derived.Deep.Slices
import Derived.JoinedOf
import Derived.Test.YtkfpaffcglijeaaPart06
set_option linter.all false
section
namespace Go.Idl

/-- what append leaves of its first argument -/
def argW (x : Operand) (v : V) : List (Nat × V) := match x with
  | .tmp i => [(i, v)]
  | _ => []

/-- a value goes to its place -/
def effPut (dst : Option Nat) (v : V) : Eff := { ws := (dst.toList).map fun d => (d, v), push := none }

theorem effPut_app (dst : Option Nat) (v : V) (s : St) : (effPut dst v).app s = s.put dst v := by
  cases dst <;> simp [effPut, Eff.app, St.put, writeTm]

/-- what an operation reads of a state is there in another one -/
structure Agree (all : List Oper) (base : Nat) (o : Oper) (s s' : St) : Prop where
  tm : ∀ x ∈ opUses all o, s'.tm[x]? = s.tm[x]?
  hp : ∀ id, id < base → s'.hp[id]? = s.hp[id]?
  al : isAlloc o = true → s'.hp = s.hp

section
variable {P : Program} {base : Nat} {all : List Oper} {o : Oper} {s s' : St} {K : St → Prop}

theorem Agree.ev (h : Agree all base o s s') {x : Operand} (hx : x ∈ o.op.operands) (t : TypeId) : ev P t s' x = ev P t s x := by
  cases x with
  | tmp i =>
    have : i ∈ opUses all o := List.mem_append_left _ (List.mem_filterMap.2 ⟨.tmp i, by simpa using hx, rfl⟩)
    have := h.tm i this
    simp [Idl.ev, List.getD, this]
  | const v => rfl
  | «global» g => rfl
  | func f => rfl

theorem Agree.argVs (h : Agree all base o s s') {c : Call} (ho : o.op = .call c) : argVs P s' c = argVs P s c := by
  unfold Idl.argVs
  refine List.map_congr_left fun p hp => ?_
  obtain ⟨x, t⟩ := p
  have hx : x ∈ c.args := by have := (List.of_mem_zip hp).1; simpa using this
  simp only
  rw [h.ev (x := x) (by rw [ho]; simp only [Op.operands, Call.operands]; exact Array.mem_append.2 (.inr hx))]

/-- What is promised of a free operation. -/
def Local (P : Program) (base : Nat) (all : List Oper) (o : Oper) (s : St) (K : St → Prop) (step : St → (St → Prop) → Prop) : Prop :=
  ∃ e : Eff, K (e.app s) ∧ (∀ p ∈ e.ws, p.1 ∈ opWrites o) ∧ (isAlloc o = false → e.push = none) ∧ ∀ s', Agree all base o s s' → step s' (fun x => x = e.app s')

theorem local_put {v : V} {step : St → (St → Prop) → Prop} (hk : K (s.put o.dst v)) (h : ∀ s', Agree all base o s s' → step s' (fun x => x = s'.put o.dst v)) : Local P base all o s K step := by
  refine ⟨effPut o.dst v, by rw [effPut_app]; exact hk, fun p hp => ?_, fun _ => rfl, fun s' ha => ?_⟩
  · simp only [effPut, List.mem_map] at hp
    obtain ⟨d, hd, rfl⟩ := hp
    exact List.mem_append_left _ hd
  · have := h s' ha
    simpa only [effPut_app] using this

theorem binK_fun {op : BinOp} {t : TypeId} {x y : V} {k : V → Prop} (h : binK P op t x y k) : ∃ v, k v ∧ ∀ k' : V → Prop, k' v → binK P op t x y k' := by
  unfold binK at h
  split at h
  · split at h
    · obtain ⟨a, b, c⟩ := h; exact ⟨_, c, fun k' hk' => by simp only [binK]; exact ⟨a, b, hk'⟩⟩
    · obtain ⟨a, b, c⟩ := h; exact ⟨_, c, fun k' hk' => by simp only [binK]; exact ⟨a, b, hk'⟩⟩
    · obtain ⟨a, c⟩ := h; exact ⟨_, c, fun k' hk' => by simp only [binK]; exact ⟨a, hk'⟩⟩
    · obtain ⟨a, c⟩ := h; exact ⟨_, c, fun k' hk' => by simp only [binK]; exact ⟨a, hk'⟩⟩
    · rename_i n1 n2 n3 n4
      split at h
      · rename_i r hr
        obtain ⟨a, c⟩ := h
        refine ⟨_, c, fun k' hk' => ?_⟩
        cases op <;> first | exact absurd rfl n1 | exact absurd rfl n2 | exact absurd rfl n3 | exact absurd rfl n4 | (simp only [binK, hr]; exact ⟨a, hk'⟩)
      · exact h.elim
  · split at h
    · obtain ⟨a, c⟩ := h; exact ⟨_, c, fun k' hk' => by simp only [binK]; exact ⟨a, hk'⟩⟩
    · obtain ⟨a, c⟩ := h; exact ⟨_, c, fun k' hk' => by simp only [binK]; exact ⟨a, hk'⟩⟩
    · exact h.elim
  · split at h
    · exact ⟨_, h, fun k' hk' => by simp only [binK]; exact hk'⟩
    · exact ⟨_, h, fun k' hk' => by simp only [binK]; exact hk'⟩
    · exact ⟨_, h, fun k' hk' => by simp only [binK]; exact hk'⟩
    · obtain ⟨a, c⟩ := h; exact ⟨_, c, fun k' hk' => by simp only [binK]; exact ⟨a, hk'⟩⟩
    · exact h.elim
  · obtain ⟨a, b, h⟩ := h
    split at h
    · rename_i r hr; exact ⟨_, h, fun k' hk' => by simp only [binK, hr]; exact ⟨a, b, hk'⟩⟩
    · rename_i r hr; exact ⟨_, h, fun k' hk' => by simp only [binK, hr]; exact ⟨a, b, hk'⟩⟩
    · exact h.elim
  · rename_i n1 n2 n3 n4
    split at h
    · rename_i r' er
      obtain ⟨hp, h⟩ := h
      split at h
      · exact ⟨_, h, fun k' hk' => by
          unfold binK
          split
          · exact absurd rfl (n1 _ _ _ _ rfl)
          · exact absurd rfl (n2 _ _ rfl)
          · exact absurd rfl (n3 _ _ rfl)
          · exact absurd rfl (n4 _ _ rfl)
          · simp only [er]; exact ⟨hp, hk'⟩⟩
      · exact ⟨_, h, fun k' hk' => by
          unfold binK
          split
          · exact absurd rfl (n1 _ _ _ _ rfl)
          · exact absurd rfl (n2 _ _ rfl)
          · exact absurd rfl (n3 _ _ rfl)
          · exact absurd rfl (n4 _ _ rfl)
          · simp only [er]; exact ⟨hp, hk'⟩⟩
      · exact h.elim
    · exact h.elim

theorem Agree.sliceIx (h : Agree all base o s s') {d : Int} {x : Option Operand} (hx : ∀ y, x = some y → y ∈ o.op.operands) : sliceIx P s' d x = sliceIx P s d x := by
  cases x with
  | none => rfl
  | some y => simp only [Idl.sliceIx, h.ev (hx y rfl)]

theorem sliceK_fun {t : TypeId} {x : V} {lo hi mx : Option Operand} {k : V → Prop} (h : sliceK P t x s lo hi mx k) : ∃ v, k v ∧ ∀ k' : V → Prop, k' v → sliceK P t x s lo hi mx k' := by
  unfold sliceK at h
  split at h
  · rename_i z xs e
    split at h
    · rename_i l u m e1 e2 e3
      obtain ⟨a1, a2, a3, a4, a5, a6, c⟩ := h
      exact ⟨_, c, fun k' hk' => by unfold sliceK; simp only [e, e1, e2, e3]; exact ⟨a1, a2, a3, a4, a5, a6, hk'⟩⟩
    · exact h.elim
  · rename_i z e
    split at h
    · rename_i l u m e1 e2 e3
      obtain ⟨a1, a2, a3, a4, a5, c⟩ := h
      exact ⟨_, c, fun k' hk' => by unfold sliceK; simp only [e, e1, e2, e3]; exact ⟨a1, a2, a3, a4, a5, hk'⟩⟩
    · exact h.elim
  · rename_i b e
    split at h
    · rename_i l u e1 e2
      obtain ⟨a1, a2, a3, a4, c⟩ := h
      exact ⟨_, c, fun k' hk' => by unfold sliceK; simp only [e, e1, e2]; exact ⟨a1, a2, a3, a4, hk'⟩⟩
    · exact h.elim
  · rename_i id z off len cap e
    split at h
    · rename_i l u m e1 e2 e3
      obtain ⟨a1, a2, a3, a4, a5, a6, c⟩ := h
      exact ⟨_, c, fun k' hk' => by unfold sliceK; simp only [e, e1, e2, e3]; exact ⟨a1, a2, a3, a4, a5, a6, hk'⟩⟩
    · exact h.elim
  · exact h.elim

theorem sliceK_congr (h : Agree all base o s s') {t : TypeId} {x : V} {lo hi mx : Option Operand} {k : V → Prop} (hl : ∀ y, lo = some y → y ∈ o.op.operands) (hh : ∀ y, hi = some y → y ∈ o.op.operands) (hm : ∀ y, mx = some y → y ∈ o.op.operands) :
    sliceK P t x s' lo hi mx k = sliceK P t x s lo hi mx k := by
  unfold sliceK
  simp only [h.sliceIx hl, h.sliceIx hh, h.sliceIx hm]

/-- where a load looks -/
def sameAt (a : V) (s s' : St) : Prop := match a with
  | .ptr id _ | .aptr id _ _ _ => s'.hp[id]? = s.hp[id]?
  | _ => True

/-- loading, where nothing is taken away -/
theorem loadK_fun {t : TypeId} {a : V} {dst : Option Nat} (h : loadK P t a s dst false K) :
    ∃ v, K (s.put dst v) ∧ ∀ (s' : St) (K' : St → Prop), sameAt a s s' → K' (s'.put dst v) → loadK P t a s' dst false K' := by
  cases a with
  | lptr l z xs i j =>
    simp only [loadK] at h
    split at h
    · rename_i d e; exact ⟨_, h, fun s' K' _ hk' => by simp only [loadK, e]; exact hk'⟩
    · exact h.elim
  | ptr id off =>
    simp only [loadK] at h
    split at h
    · rename_i cs e
      split at h
      · rename_i ek
        obtain ⟨h1, h3, h2⟩ := h
        exact ⟨_, h2, fun s' K' hs hk' => by simp only [sameAt] at hs; simp only [loadK, hs, e, ek]; exact ⟨h1, h3, hk'⟩⟩
      · rename_i ek
        split at h
        · rename_i v ev
          obtain ⟨h1, h2⟩ := h
          simp only [Bool.false_eq_true, if_false] at h2
          exact ⟨_, h2, fun s' K' hs hk' => by simp only [sameAt] at hs; simp only [loadK, hs, e, ek, ev, Bool.false_eq_true, if_false]; exact ⟨h1, hk'⟩⟩
        · exact h.elim
      · exact h.elim
    · exact h.elim
  | aptr id z i j =>
    simp only [loadK] at h
    split at h
    · rename_i z' xs e
      split at h
      · rename_i d ed
        obtain ⟨h1, h2⟩ := h
        exact ⟨_, h2, fun s' K' hs hk' => by simp only [sameAt] at hs; simp only [loadK, hs, e, ed]; exact ⟨h1, hk'⟩⟩
      · exact h.elim
    · exact h.elim
  | _ => exact h.elim

/-- **An operation of the free part does the same wherever what it reads is there.** -/
theorem freeStep_local (hk : freeStep P base o s K) : Local P base all o s K (freeStep P base o) := by
  cases ho : o.op with
  | move x =>
    simp only [freeStep, ho] at hk
    exact local_put hk fun s' ha => by simp only [freeStep, ho, ha.ev (x := x) (by rw [ho]; simp [Op.operands])]
  | «assign» x =>
    simp only [freeStep, ho] at hk
    exact local_put hk fun s' ha => by simp only [freeStep, ho, ha.ev (x := x) (by rw [ho]; simp [Op.operands])]
  | pick c x y =>
    simp only [freeStep, ho, stepK] at hk
    split at hk
    · rename_i t e
      have h1 : ∀ s', Agree all base o s s' → ev P 0 s' c = .d (.bool t) := fun s' ha => by rw [ha.ev (by rw [ho]; simp [Op.operands]), e]
      cases t with
      | true => exact local_put (hk.1 rfl) fun s' ha => by simp [freeStep, ho, stepK, h1 s' ha, ha.ev (x := x) (by rw [ho]; simp [Op.operands])]
      | false => exact local_put (hk.2 rfl) fun s' ha => by simp [freeStep, ho, stepK, h1 s' ha, ha.ev (x := y) (by rw [ho]; simp [Op.operands])]
    · exact hk.elim
  | alloc t =>
    simp only [freeStep, ho, stepK] at hk
    split at hk
    · rename_i cs e
      refine ⟨{ ws := (o.dst.toList).map fun d => (d, .ptr s.hp.length 0), push := some (.var cs) }, ?_, fun p hp => ?_, fun hh => by simp [isAlloc, ho] at hh, fun s' ha => ?_⟩
      · cases hd : o.dst <;> simpa [Eff.app, St.put, writeTm, hd] using hk
      · simp only [List.mem_map] at hp
        obtain ⟨d, hd, rfl⟩ := hp
        exact List.mem_append_left _ hd
      · have hh := ha.al (by simp [isAlloc, ho])
        cases hd : o.dst <;> simp [freeStep, ho, stepK, e, Eff.app, St.put, writeTm, hd, hh]
    · exact hk.elim
  | box t x =>
    simp only [freeStep, ho, stepK] at hk
    obtain ⟨hn, hk⟩ := hk
    refine ⟨{ ws := (o.dst.toList).map fun d => (d, .ptr s.hp.length 0), push := some (.var (ev P t s x).cp.flat) }, ?_, fun p hp => ?_, fun hh => by simp [isAlloc, ho] at hh, fun s' ha => ?_⟩
    · cases hd : o.dst <;> simpa [Eff.app, St.put, writeTm, hd] using hk
    · simp only [List.mem_map] at hp
      obtain ⟨d, hd, rfl⟩ := hp
      exact List.mem_append_left _ hd
    · have hh := ha.al (by simp [isAlloc, ho])
      have he := ha.ev (P := P) (x := x) (by rw [ho]; simp [Op.operands]) t
      cases hd : o.dst <;> simp [freeStep, ho, stepK, he, hn, Eff.app, St.put, writeTm, hd, hh]
  | load t x =>
    simp only [freeStep, ho] at hk
    have he : ∀ s', Agree all base o s s' → ev P 0 s' x = ev P 0 s x := fun s' ha => ha.ev (by rw [ho]; simp [Op.operands]) 0
    cases hx : ev P 0 s x with
    | ptr id off =>
      rw [hx] at hk
      obtain ⟨hb, hk⟩ := hk
      obtain ⟨v, h1, h2⟩ := loadK_fun hk
      exact local_put h1 fun s' ha => by simp only [freeStep, ho, he s' ha, hx]; exact ⟨hb, h2 s' _ (ha.hp id hb) rfl⟩
    | aptr id z i j =>
      rw [hx] at hk
      obtain ⟨hb, hk⟩ := hk
      obtain ⟨v, h1, h2⟩ := loadK_fun hk
      exact local_put h1 fun s' ha => by simp only [freeStep, ho, he s' ha, hx]; exact ⟨hb, h2 s' _ (ha.hp id hb) rfl⟩
    | lptr l z xs i j =>
      rw [hx] at hk
      obtain ⟨v, h1, h2⟩ := loadK_fun hk
      exact local_put h1 fun s' ha => by simp only [freeStep, ho, he s' ha, hx]; exact h2 s' _ trivial rfl
    | _ => rw [hx] at hk; exact hk.elim
  | binOp op t x y t' =>
    simp only [freeStep, ho, stepK] at hk
    obtain ⟨hnc, hk⟩ := hk
    rw [hnc, cond_false] at hk
    obtain ⟨v, h1, h2⟩ := binK_fun hk
    exact local_put h1 fun s' ha => by
      simp only [freeStep, ho, stepK, hnc, cond_false, true_and, ha.ev (x := x) (by rw [ho]; simp [Op.operands]), ha.ev (x := y) (by rw [ho]; simp [Op.operands])]
      exact h2 _ rfl
  | unOp op t x =>
    have he : ∀ s', Agree all base o s s' → ev P 0 s' x = ev P 0 s x := fun s' ha => ha.ev (by rw [ho]; simp [Op.operands]) 0
    simp only [freeStep, ho, stepK] at hk
    split at hk
    · rename_i b e; exact local_put hk fun s' ha => by simp only [freeStep, ho, stepK, he s' ha, e]
    · rename_i k n e; exact local_put hk fun s' ha => by simp only [freeStep, ho, stepK, he s' ha, e]
    · rename_i k n e; exact local_put hk fun s' ha => by simp only [freeStep, ho, stepK, he s' ha, e]
    · exact hk.elim
  | convert a b x =>
    have he : ∀ s', Agree all base o s s' → ev P a s' x = ev P a s x := fun s' ha => ha.ev (by rw [ho]; simp [Op.operands]) a
    simp only [freeStep, ho, stepK] at hk
    split at hk
    · rename_i k n e
      split at hk
      · rename_i k' e2; obtain ⟨h1, hk⟩ := hk; exact local_put hk fun s' ha => by simp only [freeStep, ho, stepK, he s' ha, e, e2]; exact ⟨h1, trivial⟩
      · exact hk.elim
    · rename_i b' e; obtain ⟨h1, h2, hk⟩ := hk; exact local_put hk fun s' ha => by simp only [freeStep, ho, stepK, he s' ha, e]; exact ⟨h1, h2, trivial⟩
    · exact hk.elim
  | makeFunc f fs cs =>
    simp only [freeStep, ho, stepK] at hk
    obtain ⟨h1, hk⟩ := hk
    exact local_put hk fun s' ha => by
      simp only [freeStep, ho, stepK]
      refine ⟨h1, ?_⟩
      congr 2
      refine List.map_congr_left fun x hx => ?_
      rw [ha.ev (x := x) (by rw [ho]; simp only [Op.operands]; exact Array.mem_append.2 (.inr (by simpa using hx)))]
  | slice t x lo hi mx =>
    simp only [freeStep, ho, stepK] at hk
    obtain ⟨v, h1, h2⟩ := sliceK_fun hk
    exact local_put h1 fun s' ha => by
      simp only [freeStep, ho, stepK, ha.ev (x := x) (by rw [ho]; simp [Op.operands])]
      rw [sliceK_congr ha (fun y hy => by rw [ho, hy]; simp [Op.operands]) (fun y hy => by rw [ho, hy]; simp [Op.operands]) (fun y hy => by rw [ho, hy]; simp [Op.operands])]
      exact h2 _ rfl
  | fieldAddr t x f =>
    have he : ∀ s', Agree all base o s s' → ev P 0 s' x = ev P 0 s x := fun s' ha => ha.ev (by rw [ho]; simp [Op.operands]) 0
    simp only [freeStep, ho, stepK] at hk
    split at hk
    · rename_i e e2; exact local_put hk fun s' ha => by simp only [freeStep, ho, stepK, he s' ha, e, e2]
    · rename_i e e2; exact local_put hk fun s' ha => by simp only [freeStep, ho, stepK, he s' ha, e, e2]
    · rename_i e e2; exact local_put hk fun s' ha => by simp only [freeStep, ho, stepK, he s' ha, e, e2]
    · exact hk.elim
  | field t x f =>
    have he : ∀ s', Agree all base o s s' → ev P t s' x = ev P t s x := fun s' ha => ha.ev (by rw [ho]; simp [Op.operands]) t
    simp only [freeStep, ho, stepK] at hk
    split at hk
    · rename_i d n ft e e2
      split at hk
      · rename_i y e3; obtain ⟨h1, hk⟩ := hk; exact local_put hk fun s' ha => by simp only [freeStep, ho, stepK, he s' ha, e, e2, e3]; exact ⟨h1, trivial⟩
      · exact hk.elim
    · rename_i d n ft e e2
      split at hk
      · rename_i y e3; exact local_put hk fun s' ha => by simp only [freeStep, ho, stepK, he s' ha, e, e2, e3]
      · exact hk.elim
    · exact hk.elim
  | indexAddr t x i =>
    have he : ∀ s', Agree all base o s s' → ev P t s' x = ev P t s x := fun s' ha => ha.ev (by rw [ho]; simp [Op.operands]) t
    have he2 : ∀ s', Agree all base o s s' → ev P 0 s' i = ev P 0 s i := fun s' ha => ha.ev (by rw [ho]; simp [Op.operands]) 0
    simp only [freeStep, ho] at hk
    split at hk
    · rename_i id z off len cap ex
      obtain ⟨hb, hk⟩ := hk
      simp only [stepK, ho, ex] at hk
      split at hk
      · rename_i e e2; cases e
      · rename_i e e2
        injection e with q1 q2 q3 q4 q5; subst q1; subst q2; subst q3; subst q4; subst q5
        obtain ⟨a1, a2, a3, hk⟩ := hk
        exact local_put hk fun s' ha => by
          simp only [freeStep, ho, he s' ha, ex, stepK, he2 s' ha, e2, ha.hp _ hb]
          exact ⟨hb, a1, a2, a3, trivial⟩
      · rename_i e e2; cases e
      · exact hk.elim
    · rename_i hnr
      simp only [stepK, ho] at hk
      split at hk
      · rename_i e e2; obtain ⟨a1, a2, a3, hk⟩ := hk; exact local_put hk fun s' ha => by simp only [freeStep, ho, stepK, he s' ha, he2 s' ha, e, e2]; exact ⟨a1, a2, a3, trivial⟩
      · rename_i e e2; exact absurd e (hnr _ _ _ _ _)
      · rename_i e e2
        split at hk
        · rename_i e3; obtain ⟨a1, a2, hk⟩ := hk; exact local_put hk fun s' ha => by simp only [freeStep, ho, stepK, he s' ha, he2 s' ha, e, e2, e3]; exact ⟨a1, a2, trivial⟩
        · exact hk.elim
      · exact hk.elim
  | lookup t x y ok =>
    have he : ∀ s', Agree all base o s s' → ev P t s' x = ev P t s x := fun s' ha => ha.ev (by rw [ho]; simp [Op.operands]) t
    have he2 : ∀ s', Agree all base o s s' → ∀ t, ev P t s' y = ev P t s y := fun s' ha => ha.ev (by rw [ho]; simp [Op.operands])
    simp only [freeStep, ho] at hk
    split at hk
    · rename_i id ex
      obtain ⟨hb, hk⟩ := hk
      simp only [stepK, ho] at hk
      unfold lookupK at hk
      rw [ex] at hk
      split at hk
      · rename_i id' k kt et e1 ek em
        injection e1 with e1; subst e1
        rw [em] at ek
        simp only [Option.map_some, Option.getD_some] at ek
        split at hk
        · rename_i clock es ehp
          obtain ⟨hkey, hk⟩ := hk
          split at hk
          · rename_i i V ef
            exact local_put hk fun s' ha => by
              simp only [freeStep, ho, he s' ha, ex, stepK, he2 s' ha]
              refine ⟨hb, ?_⟩
              unfold lookupK
              simp only [em, Option.map_some, Option.getD_some, ek, ha.hp _ hb, ehp, ef]
              exact ⟨hkey, trivial⟩
          · rename_i ef
            split at hk
            · rename_i Z eZ
              exact local_put hk fun s' ha => by
                simp only [freeStep, ho, he s' ha, ex, stepK, he2 s' ha]
                refine ⟨hb, ?_⟩
                unfold lookupK
                simp only [em, Option.map_some, Option.getD_some, ek, ha.hp _ hb, ehp, ef, eZ]
                exact ⟨hkey, trivial⟩
            · exact hk.elim
          · exact hk.elim
        · exact hk.elim
      · exact hk.elim
    · exact hk.elim
  | index t x i =>
    have he : ∀ s', Agree all base o s s' → ev P t s' x = ev P t s x := fun s' ha => ha.ev (by rw [ho]; simp [Op.operands]) t
    have he2 : ∀ s', Agree all base o s s' → ev P 0 s' i = ev P 0 s i := fun s' ha => ha.ev (by rw [ho]; simp [Op.operands]) 0
    simp only [freeStep, ho, stepK] at hk
    split at hk
    · rename_i e e2; obtain ⟨a1, a2, a3, hk⟩ := hk; exact local_put hk fun s' ha => by simp only [freeStep, ho, stepK, he s' ha, he2 s' ha, e, e2]; exact ⟨a1, a2, a3, trivial⟩
    · exact hk.elim
  | extract x i =>
    have he : ∀ s', Agree all base o s s' → ev P 0 s' x = ev P 0 s x := fun s' ha => ha.ev (by rw [ho]; simp [Op.operands]) 0
    simp only [freeStep, ho] at hk
    split at hk
    · rename_i e
      split at hk
      · rename_i e2; obtain ⟨h1, hk⟩ := hk; exact local_put hk fun s' ha => by simp only [freeStep, ho, he s' ha, e, e2]; exact ⟨h1, trivial⟩
      · exact hk.elim
    · exact hk.elim
  | build t ps =>
    have he : ∀ s', Agree all base o s s' → (ps.toList.map fun p => (p.1, ev P (((fieldOff P t p.1).map (·.2)).getD 0) s' p.2)) = ps.toList.map fun p => (p.1, ev P (((fieldOff P t p.1).map (·.2)).getD 0) s p.2) := fun s' ha =>
      List.map_congr_left fun p hp => by rw [ha.ev (x := p.2) (by rw [ho]; simp only [Op.operands]; simp; exact ⟨p.1, by simpa using hp⟩)]
    simp only [freeStep, ho, stepK] at hk
    split at hk
    · rename_i e e2
      split at hk
      · rename_i e3; obtain ⟨h1, hk⟩ := hk; exact local_put hk fun s' ha => by simp only [freeStep, ho, stepK, he s' ha, e, e2, e3]; exact ⟨h1, trivial⟩
      · exact hk.elim
    · exact hk.elim
  | makeSlice t l c =>
    have he : ∀ s', Agree all base o s s' → ev P 0 s' l = ev P 0 s l := fun s' ha => ha.ev (by rw [ho]; simp [Op.operands]) 0
    have he2 : ∀ s', Agree all base o s s' → ev P 0 s' c = ev P 0 s c := fun s' ha => ha.ev (by rw [ho]; simp [Op.operands]) 0
    simp only [freeStep, ho, makeOwnK] at hk
    split at hk
    · rename_i e1 e2 e3 e4
      split at hk
      · rename_i e5; obtain ⟨h1, h2, h3, h4, h5, h6, h7, hk⟩ := hk; exact local_put hk fun s' ha => by simp only [freeStep, ho, makeOwnK, he s' ha, he2 s' ha, e1, e2, e3, e4, e5]; exact ⟨h1, h2, h3, h4, h5, h6, h7, trivial⟩
      · exact hk.elim
    · exact hk.elim
  | buildSlice t n ps =>
    have he : ∀ e s', Agree all base o s s' → (ps.toList.map fun p => (p.1, ev P e s' p.2)) = ps.toList.map fun p => (p.1, ev P e s p.2) := fun e s' ha =>
      List.map_congr_left fun p hp => by rw [ha.ev (x := p.2) (by rw [ho]; simp only [Op.operands]; simp; exact ⟨p.1, by simpa using hp⟩)]
    simp only [freeStep, ho, stepK] at hk
    split at hk
    · rename_i e e2
      split at hk
      · rename_i e3
        split at hk
        · rename_i e4; obtain ⟨h1, h2, h3, h4, hk⟩ := hk; exact local_put hk fun s' ha => by simp only [freeStep, ho, stepK, he _ s' ha, e, e2, e3, e4]; exact ⟨h1, h2, h3, h4, trivial⟩
        · exact hk.elim
      · exact hk.elim
    · exact hk.elim
  | call c =>
    have hav : ∀ s', Agree all base o s s' → argVs P s' c = argVs P s c := fun s' ha => ha.argVs ho
    simp only [freeStep, ho] at hk
    unfold freeCall at hk
    split at hk
    · rename_i g eg
      have he : ∀ s', Agree all base o s s' → ev P 0 s' g = ev P 0 s g := fun s' ha => ha.ev (by rw [ho]; simp [Op.operands, Call.operands, eg]) 0
      split at hk
      · rename_i f caps e
        obtain ⟨h1, h0, ds, r, h2, h3, h4, hk⟩ := hk
        exact local_put hk fun s' ha => by
          simp only [freeStep, ho]
          unfold freeCall
          simp only [eg, he s' ha, e]
          exact ⟨h1, h0, ds, r, by rw [hav s' ha]; exact h2, h3, h4, rfl⟩
      · exact hk.elim
    · rename_i eg
      have aux : ∀ s' : St, (freeStep P base o s' (fun x => x = s'.put o.dst (.d (.int .i64 0)))) = (freeStep P base o s' (fun x => x = s'.put o.dst (.d (.int .i64 0)))) := fun _ => rfl
      split at hk
      · exact hk.elim
      · rename_i hnm
        unfold callK0 at hk
        simp only [eg] at hk
        split at hk
        · rename_i e; obtain ⟨a1, a2, hk⟩ := hk; exact local_put hk fun s' ha => by simp only [freeStep, ho]; unfold freeCall; simp only [eg, hav s' ha, e]; unfold callK0; simp only [eg, hav s' ha, e]; exact ⟨a1, a2, trivial⟩
        · rename_i e; obtain ⟨a1, a2, hk⟩ := hk; exact local_put hk fun s' ha => by simp only [freeStep, ho]; unfold freeCall; simp only [eg, hav s' ha, e]; unfold callK0; simp only [eg, hav s' ha, e]; exact ⟨a1, a2, trivial⟩
        · rename_i e; obtain ⟨a1, a2, hk⟩ := hk; exact local_put hk fun s' ha => by simp only [freeStep, ho]; unfold freeCall; simp only [eg, hav s' ha, e]; unfold callK0; simp only [eg, hav s' ha, e]; exact ⟨a1, a2, trivial⟩
        · rename_i e; obtain ⟨a1, a2, hk⟩ := hk; exact local_put hk fun s' ha => by simp only [freeStep, ho]; unfold freeCall; simp only [eg, hav s' ha, e]; unfold callK0; simp only [eg, hav s' ha, e]; exact ⟨a1, a2, trivial⟩
        · rename_i e; exact absurd e (hnm _)
        · exact hk.elim
    · rename_i eg
      unfold callK0 at hk
      simp only [eg] at hk
      split at hk
      · rename_i x y exy
        have hx : x ∈ o.op.operands := by rw [ho]; simp only [Op.operands, Call.operands, eg]; have : x ∈ c.args.toList := by rw [exy]; simp
                                          simpa using this
        have hy : y ∈ o.op.operands := by rw [ho]; simp only [Op.operands, Call.operands, eg]; have : y ∈ c.args.toList := by rw [exy]; simp
                                          simpa using this
        split at hk
        · rename_i z xs ly z' ys e1 e2
          split at hk
          · rename_i sz by_ e3
            obtain ⟨a1, a2, a3, a4, a5, a6, a7, a8, hk⟩ := hk
            refine ⟨{ ws := argW x (ev P (c.argTypes.getD 0 0) s x).cp ++ (o.dst.toList.map fun d => (d, .own z (xs ++ ys))), push := none }, ?_, fun p hp => ?_, fun _ => rfl, fun s' ha => ?_⟩
            · cases x <;> cases hd : o.dst <;> simpa [argW, Eff.app, St.put, St.at_, writeTm, hd] using hk
            · rcases List.mem_append.1 hp with hp | hp
              · refine List.mem_append_right _ ?_
                cases x with
                | tmp i => simp [argW] at hp; subst hp; simp [arg0, ho, eg, exy]
                | _ => simp [argW] at hp
              · simp only [List.mem_map] at hp
                obtain ⟨d, hd, rfl⟩ := hp
                exact List.mem_append_left _ hd
            · simp only [freeStep, ho]; unfold freeCall; simp only [eg]; unfold callK0; simp only [eg, exy, ha.ev hx, ha.ev hy, e1, e2, e3]
              refine ⟨a1, a2, a3, a4, a5, a6, a7, a8, ?_⟩
              cases x <;> cases hd : o.dst <;> simp [argW, Eff.app, St.put, St.at_, writeTm]
          · exact hk.elim
        · exact hk.elim
      · exact hk.elim
    · rename_i eg
      unfold callK0 at hk
      simp only [eg] at hk
      split at hk
      · rename_i e; exact local_put hk fun s' ha => by simp only [freeStep, ho]; unfold freeCall; simp only [eg]; unfold callK0; simp only [eg, hav s' ha, e]
      · exact hk.elim
    · rename_i eg
      unfold callK0 at hk
      simp only [eg] at hk
      split at hk
      · rename_i e; exact local_put hk fun s' ha => by simp only [freeStep, ho]; unfold freeCall; simp only [eg]; unfold callK0; simp only [eg, hav s' ha, e]
      · exact hk.elim
    · exact hk.elim
  | _ => simp [freeStep, ho, stepK] at hk

/-- with its guard -/
theorem freeOp_local (hk : freeOp P base all o s K) : Local P base all o s K (freeOp P base all o) := by
  unfold freeOp at hk
  split at hk
  · rename_i hg
    obtain ⟨e, h1, h2, h3, h4⟩ := freeStep_local (all := all) hk
    exact ⟨e, h1, h2, h3, fun s' ha => by unfold freeOp; simp only [hg]; exact h4 s' ha⟩
  · rename_i j want hg
    split at hk
    · rename_i t et
      have ht : t ∈ opUses all o := by
        unfold opUses; rw [hg]; refine List.mem_append_right _ ?_; simp [et]
      split at hk
      · rename_i b eb
        by_cases hb : b = want
        · obtain ⟨e, h1, h2, h3, h4⟩ := freeStep_local (all := all) (hk.1 hb)
          refine ⟨e, h1, h2, h3, fun s' ha => ?_⟩
          unfold freeOp; simp only [hg, et, ha.tm t ht, eb]
          exact ⟨fun _ => h4 s' ha, fun hn => by subst hb; cases b <;> simp at hn⟩
        · have hb' : b = !want := by cases b <;> cases want <;> simp_all
          exact local_put (hk.2 hb') fun s' ha => by
            unfold freeOp; simp only [hg, et, ha.tm t ht, eb]
            exact ⟨fun hh => absurd hh hb, fun _ => trivial⟩
      · rename_i eb
        exact local_put hk fun s' ha => by
          unfold freeOp; simp only [hg, et, ha.tm t ht, eb]
      · exact hk.elim
    · exact hk.elim

/-- The effects of a free part, one an operation. -/
theorem free_effs (hb : base ≤ s.hp.length) : ∀ (ops : List Oper) (s : St), base ≤ s.hp.length → freeK P base all ops s K → ∃ es : List Eff, es.length = ops.length ∧ K (stL (fun _ => true) 0 es s) ∧
    ∀ (i : Nat) o, ops[i]? = some o → ∃ e, es[i]? = some e ∧ (∀ p ∈ e.ws, p.1 ∈ opWrites o) ∧ (isAlloc o = false → e.push = none) ∧
      ∀ s', Agree all base o (stL (fun _ => true) 0 (es.take i) s) s' → freeOp P base all o s' (fun x => x = e.app s')
  | [], s, _, hk => ⟨[], rfl, hk, by simp⟩
  | o :: ops, s, hs, hk => by
    simp only [freeK] at hk
    obtain ⟨e, h1, h2, h3, h4⟩ := freeOp_local hk
    have hlen : base ≤ (e.app s).hp.length := by simp [Eff.app]; omega
    obtain ⟨es, k1, k2, k3⟩ := free_effs hb ops (e.app s) hlen h1
    have hshift : ∀ (es : List Eff) (i : Nat) (s : St), stL (fun _ => true) (i + 1) es s = stL (fun _ => true) i es s := by
      intro es
      induction es with
      | nil => intro i s; rfl
      | cons f es ih => intro i s; simp only [stL, if_true]; rw [ih]
    refine ⟨e :: es, by simp [k1], by simp only [stL, if_true]; rw [hshift]; exact k2, fun i o' ho => ?_⟩
    cases i with
    | zero =>
      simp at ho; subst ho
      exact ⟨e, rfl, h2, h3, fun s' ha => h4 s' (by simpa [stL] using ha)⟩
    | succ i =>
      obtain ⟨e', q1, q2, q3, q4⟩ := k3 i o' (by simpa using ho)
      refine ⟨e', by simpa using q1, q2, q3, fun s' ha => q4 s' ?_⟩
      simp only [List.take_succ_cons, stL, if_true, hshift] at ha
      exact ha

end
end Go.Idl
end
section
namespace Go.Idl

section
variable {P : Program} {κ : Ctx} {s : St} {a : Act} {w : World} {K : St → Prop} {o : Oper} {base : Nat}

theorem mv_false (s : St) (x : Operand) (v : V) (dst : Option Nat) : mv s x v dst false = s.put dst v.cp := by
  unfold mv; simp

theorem freeCall_callK {c : Call} {dst : Option Nat} (hk : freeCall P c s dst K) : callK P c s dst K := by
  unfold freeCall at hk
  split at hk
  · rename_i g eg
    split at hk
    · rename_i f caps e
      obtain ⟨h1, h0, ds, r, h2, h3, h4, hk⟩ := hk
      unfold callK
      simp only [eg]
      unfold callK0
      simp only [eg, e, h1, cond_true]
      refine ⟨?_, ?_⟩
      · rw [List.all_append, h0, Bool.and_true, List.all_eq_true]
        intro v hv
        have hc : v.cp = v := by
          simp only [argVs, List.mem_map] at hv
          obtain ⟨x, _, rfl⟩ := hv
          exact Idl.V.cp_cp _
        obtain ⟨q1, q2⟩ := allD_get h2
        obtain ⟨j, hj, rfl⟩ := List.getElem_of_mem hv
        have hj' : j < ds.length := by rw [← q1]; simp; omega
        obtain ⟨v', e1, e2⟩ := q2 j _ (List.getElem?_eq_getElem hj')
        rw [List.getElem?_append_left hj, List.getElem?_eq_getElem hj] at e1
        injection e1 with e1; subst e1
        generalize (argVs P s c)[j] = v at e2 hc
        cases v <;> simp_all [V.d?, V.cp, V.bare]
      · exact callK_pcall h4 h2 h3 hk
    · exact hk.elim
  · rename_i eg
    split at hk
    · exact hk.elim
    · unfold callK; simp only [eg]; exact hk
  · rename_i eg
    unfold callK
    split
    · rename_i x y t0 t1 _ ea et
      split
      · rename_i e
        unfold callK0 at hk
        simp only [eg, ea] at hk
        have : c.argTypes = #[t0, t1] := toList_two et
        rw [this] at hk
        have ed0 : (#[t0, t1] : Array TypeId).getD 0 0 = t0 := rfl
        rw [ed0, e] at hk
        simp [appBase] at hk
      · exact hk
    · rename_i e _ _; rw [eg] at e; cases e
    · rename_i e _ _; rw [eg] at e; cases e
    · rename_i e _ _; rw [eg] at e; cases e
    · rename_i e _ _; rw [eg] at e; cases e
    · exact hk
  · rename_i eg; unfold callK; simp only [eg]; exact hk
  · rename_i eg; unfold callK; simp only [eg]; exact hk
  · exact hk.elim

/-- a slice made as a value -/
theorem does_makeOwn {Φ : CM} {B : List Nat} {au : Auth} {t : TypeId} {l c : Operand} (h : Inv κ Φ B au s a w) (ho : o.op = .makeSlice t l c) (hk : makeOwnK P t l c s o.dst K) : Does P κ o a w K := by
  unfold makeOwnK at hk
  split at hk
  · rename_i e z y k n k' m e1 e2 el ec
    split at hk
    · rename_i zd ez
      obtain ⟨rfl, hn, hby, hnm, hdst, hzd, hz0, hk⟩ := hk
      obtain ⟨ty, i, zv, hut, hi, hzv, hsz, hyb, hzs⟩ := elI_inv e2
      have : e = ty := by simp [elemTy, hut] at e1; exact e1.symm
      subst this
      have hln := repD_int (ev_d h el)
      have hcn := repD_int (ev_d h ec)
      have hz := zero_rep (Φ := Φ) ez hi hzv (by rw [hzd, hzs])
      have hzr := zeros_rep (n := n.toNat) hz hzd hz0
      have hall : ∀ x ∈ List.replicate n.toNat zd, x.flat.length = z := fun x hx => by rw [(List.mem_replicate.1 hx).2]; exact hzd
      obtain ⟨arr, harr⟩ : ∃ arr, arr = (Array.range (n.toNat * z)).map (zv.cells[· % zv.cells.size]!) := ⟨_, rfl⟩
      rw [← harr] at hzr
      obtain ⟨d, hd⟩ := Option.isSome_iff_exists.1 hdst
      rw [hd] at hk
      obtain ⟨Φ', au', hfin⟩ := h.lay (el := e) (rest := []) (z := z) (xs := List.replicate n.toNat zd) hzr hall d n.toNat (by simp) (by
        rw [← hzr.get.1, flat_length hall]; simp)
      refine does_value (v := .slice (some ⟨w.heap.size, 0, none⟩) n.toNat n.toNat) ?_ hk ⟨Φ', B, au', by rw [hd]; simpa using hfin⟩
      unfold execOp; rw [ho]; refine run_v ?_
      have hw : IntKind.i64.wrap n = n := wrap_i64 (by omega) (by omega)
      subst hsz; subst hyb
      simp only [hln, hcn]
      unfold Instr.makeSlice
      rw [Sem.run_bind, run_underlying hut]; simp only [Result.andThen_ok, asInt, asIntOf, pure_bind]
      rw [Sem.run_bind, run_typeInfo hi]; simp only [Result.andThen_ok, hw]
      have c1 : decide (n < 0) = false := by simpa using hn
      have c2 : decide ((i.bytes : Int) * n > 2 ^ 48) = false := by simp; omega
      have c3 : decide (n > n) = false := by simp
      simp only [c1, c2, c3, Bool.or_self, Bool.false_eq_true, if_false]
      rw [Sem.run_bind, run_askRoom]; simp only [Result.andThen_ok]
      rw [Sem.run_bind, run_sizeOf hi]; simp only [Result.andThen_ok]
      split
      · rename_i h0
        have hc0 : (Array.range (n.toNat * i.size)).map (fun x => (#[] : Array Value)[x % (#[] : Array Value).size]!) = (Array.range (n.toNat * i.size)).map (zv.cells[· % zv.cells.size]!) := by rw [h0]; simp
        rw [hc0, ← harr]; rfl
      · rw [Sem.run_bind, run_zeroValue hi hzv]; simp only [Result.andThen_ok]; rw [← harr]; rfl
    · exact hk.elim
  · exact hk.elim

theorem freeStep_sound (h : Rel κ s a w) (hk : freeStep P base o s K) : Does P κ o a w K := by
  unfold freeStep at hk
  split at hk
  · rename_i x ho
    obtain ⟨Φ, B, au, h⟩ := h
    exact does_move (take := false) h (.inl ho) (by rw [mv_false]; exact hk)
  · rename_i x ho
    obtain ⟨Φ, B, au, h⟩ := h
    exact does_move (take := false) h (.inr ho) (by rw [mv_false]; exact hk)
  · rename_i t x ho
    obtain ⟨Φ, B, au, h⟩ := h
    refine does_load (r := []) h ho ?_
    simp only [stepK, ho, takes]
    split at hk
    · exact hk.2
    · exact hk.2
    · exact hk
  · rename_i x ix ho
    obtain ⟨Φ, B, au, h⟩ := h
    split at hk
    · rename_i vs e
      split at hk
      · rename_i V eV
        obtain ⟨hnt, hk⟩ := hk
        have g := ev_rep (P := P) h 0 x
        rw [e] at g
        generalize hv : a.eval x = v at g
        cases g with
        | tup hl =>
          rename_i cs
          obtain ⟨q1, q2⟩ := hl.get
          have hix : ix < cs.length := by rw [← q1]; exact (List.getElem?_eq_some_iff.1 eV).1
          have hc : cs[ix]? = some cs[ix] := List.getElem?_eq_getElem hix
          have hrep := q2 ix V _ eV hc
          refine does_plain (v := cs[ix]) h ?_ hrep.cp (fun _ => OwnV_cp) hk
          unfold execOp; rw [ho]; refine run_v ?_
          simp only [hv]
          unfold Instr.extract
          simp [hix]
      · exact hk.elim
    · exact hk.elim
  · rename_i c ho
    exact step_sound (r := []) h (by simp only [stepK, ho]; exact freeCall_callK hk)
  · split at hk
    · exact step_sound (r := []) h hk.2
    · exact step_sound (r := []) h hk
  · split at hk
    · exact step_sound (r := []) h hk.2
    · exact hk.elim
  · exact step_sound (r := []) h hk.2
  · rename_i t l c ho
    obtain ⟨Φ, B, au, h⟩ := h
    exact does_makeOwn h ho hk
  · exact hk.elim
  · exact hk.elim
  · exact hk.elim
  · exact hk.elim
  · exact hk.elim
  · exact hk.elim
  · exact step_sound (r := []) h hk

theorem freeStep_nodefer {c : Call} (hk : freeStep P base o s K) : o.op ≠ .defer c := by
  intro e; simp [freeStep, stepK, e] at hk

theorem guard_yield {ops : Array Oper} {j t : Nat} {b : Bool} (h : Rel κ s a w) (et : (ops.toList[j]?).bind (·.dst) = some t) (eb : s.tm[t]? = some (.d (.bool b))) : yielded ops a.tmps j = some b := by
  obtain ⟨Φ, B, au, hi⟩ := h
  have hlt : t < s.tm.length := (List.getElem?_eq_some_iff.1 eb).1
  have hat : t < a.tmps.size := by rw [← hi.tl]; exact hlt
  have hv : a.tmps[t]? = some (.bool b) := by
    have := (hi.tm t _ _ eb (Array.getElem?_eq_getElem hat)).1
    cases this with | d q => rw [Array.getElem?_eq_getElem hat, repD_bool q]
  unfold yielded
  rw [Array.getElem?_toList] at et
  simp only [et, Option.bind_some, hv]

theorem freeOp_sound {ops : Array Oper} {i : Nat} {Q : Exit → Act → World → Prop} {next : Act → World → Prop} (h : Rel κ s a w) (hi : ops[i]? = some o) (hk : freeOp P base ops.toList o s K)
    (hn : ∀ s' a' w', K s' → Rel κ s' a' w' → next a' w') : wpOpIn κ.F 0 P ops Q i next a w := by
  unfold wpOpIn
  simp only [hi]
  unfold freeOp at hk
  split at hk
  · rename_i hg
    rw [if_pos (by simp [Region.wanted, hg])]
    exact (freeStep_sound h hk).wpIn (fun c => freeStep_nodefer hk) hn
  · rename_i j want hg
    split at hk
    · rename_i t et
      split at hk
      · rename_i b eb
        have hy := guard_yield (ops := ops) h et eb
        by_cases e : b = want
        · rw [if_pos (by simp [Region.wanted, hg, hy, e])]
          exact (freeStep_sound h (hk.1 e)).wpIn (fun c => freeStep_nodefer (hk.1 e)) hn
        · rw [if_neg (by simp [Region.wanted, hg, hy, e])]
          have e' : b = !want := by cases b <;> cases want <;> simp_all
          exact ⟨fun _ _ => trivial, hn _ _ _ (hk.2 e') (h.skip o.dst)⟩
      · rename_i eb
        rw [if_neg (by simp [Region.wanted, hg, guard_skip h et eb])]
        exact ⟨fun _ _ => trivial, hn _ _ _ hk (h.skip o.dst)⟩
      · exact hk.elim
    · exact hk.elim

/-- one operation of the rest -/
theorem restOp_sound {ops : Array Oper} {i : Nat} {rest : List Oper} {Q : Exit → Act → World → Prop} {next : Act → World → Prop} (h : Rel κ s a w) (hi : ops[i]? = some o) (hk : opsK P ops.toList (o :: rest) s K)
    (hn : ∀ s' a' w', opsK P ops.toList rest s' K → Rel κ s' a' w' → next a' w') : wpOpIn κ.F 0 P ops Q i next a w := by
  unfold wpOpIn
  simp only [hi]
  simp only [opsK] at hk
  split at hk
  · rename_i hg
    rw [if_pos (by simp [Region.wanted, hg])]
    exact (step_sound h hk).wpIn (fun c => stepK_nodefer hk) hn
  · rename_i j want hg
    split at hk
    · rename_i t et
      split at hk
      · rename_i b eb
        have hy := guard_yield (ops := ops) h et eb
        obtain ⟨k1, k2⟩ := hk
        obtain ⟨Φ, B, au, hinv⟩ := h
        have hlt : t < s.tm.length := (List.getElem?_eq_some_iff.1 eb).1
        have hat : t < a.tmps.size := by rw [← hinv.tl]; exact hlt
        have hv : a.tmps[t]? = some (.bool b) := by
          have := (hinv.tm t _ _ eb (Array.getElem?_eq_getElem hat)).1
          cases this with | d q => rw [Array.getElem?_eq_getElem hat, repD_bool q]
        have hset : ∀ b', b = b' → Rel κ { s with tm := s.tm.set t (.d (.bool b')) } a w := by
          rintro b' rfl
          refine ⟨Φ, B, au, hinv.islot t fun V' v hV hv' => ?_⟩
          rw [hv] at hv'; injection hv' with hv'; subst hv'
          exact ⟨.d (.bool _), trivial⟩
        by_cases e : b = want
        · rw [if_pos (by simp [Region.wanted, hg, hy, e])]
          have hk1 := k1 e
          exact (step_sound (hset want e) hk1).wpIn (fun c => stepK_nodefer hk1) hn
        · rw [if_neg (by simp [Region.wanted, hg, hy, e])]
          have e' : b = !want := by cases b <;> cases want <;> simp_all
          exact ⟨fun _ _ => trivial, hn _ _ _ (k2 e') ((hset (!want) e').skip o.dst)⟩
      · rename_i eb
        rw [if_neg (by simp [Region.wanted, hg, guard_skip h et eb])]
        exact ⟨fun _ _ => trivial, hn _ _ _ hk (h.skip o.dst)⟩
      · exact hk.elim
    · exact hk.elim

/-! ### What is listed -/
/-- all that an operation waits for is listed -/
def Waits (ops : Array Oper) (listed : Array Bool) (i : Nat) : Prop := ∀ o, ops[i]? = some o → ∀ e ∈ o.after, Region.binds .any e = true → listed.getD e.on false = true

theorem mask_fold {acc : List Nat} : ∀ (l : List Edge) (m0 j : Nat), Nat.testBit (l.foldl (fun m e => Nat.lor (Nat.lor m (Nat.shiftLeft 1 e.on)) (acc.getD e.on 0)) m0) j = true → Nat.testBit m0 j = true ∨ ∃ e ∈ l, j = e.on ∨ Nat.testBit (acc.getD e.on 0) j = true
  | [], m0, j, h => .inl h
  | e :: l, m0, j, h => by
    simp only [List.foldl_cons] at h
    rcases mask_fold l _ j h with h | ⟨e', he', h⟩
    · have h' : Nat.testBit ((m0 ||| (1 <<< e.on)) ||| acc.getD e.on 0) j = true := h
      rw [Nat.testBit_or, Nat.testBit_or, Nat.testBit_shiftLeft] at h'
      simp only [Bool.or_eq_true, Bool.and_eq_true, decide_eq_true_eq] at h'
      rcases h' with (h' | ⟨h1, h2⟩) | h'
      · exact .inl h'
      · right
        refine ⟨e, by simp, .inl ?_⟩
        have : j - e.on = 0 := by
          rcases Nat.eq_zero_or_pos (j - e.on) with h | h
          · exact h
          · exfalso
            obtain ⟨k, hk⟩ : ∃ k, j - e.on = k + 1 := ⟨j - e.on - 1, by omega⟩
            rw [hk, Nat.testBit_succ] at h2; simp at h2
        omega
      · exact .inr ⟨e, by simp, .inr h'⟩
    · exact .inr ⟨e', by simp [he'], h⟩

theorem preds_listed {ops : Array Oper} {listed : Array Bool} : ∀ (rest : List Oper) (acc : List Nat), (∀ j, rest[j]? = ops[acc.length + j]?) → (∀ i, listed.getD i false = true → Waits ops listed i) →
    (∀ i, Waits ops listed i → ∀ j, Nat.testBit (acc.getD i 0) j = true → listed.getD j false = true) → ∀ i, Waits ops listed i → ∀ j, Nat.testBit ((predsL rest acc).getD i 0) j = true → listed.getD j false = true
  | [], acc, _, _, ha, i, hi, j, hj => ha i hi j hj
  | o :: rest, acc, hr, hc, ha, i, hi, j, hj => by
    simp only [predsL] at hj
    refine preds_listed rest _ (fun j => ?_) hc (fun i hi j hj => ?_) i hi j hj
    · have := hr (j + 1)
      simp only [List.getElem?_cons_succ] at this
      rw [this]; simp [Nat.add_assoc, Nat.add_comm 1 j]
    · rw [List.getD, List.getElem?_append] at hj
      split at hj
      · exact ha i hi j hj
      · rename_i hlt
        have hii : i = acc.length ∨ acc.length < i := by omega
        rcases hii with rfl | h
        · simp only [Nat.sub_self, List.getElem?_cons_zero, Option.getD_some] at hj
          rcases mask_fold _ _ _ hj with hj | ⟨e, he, hj⟩
          · simp at hj
          · simp only [List.mem_filter, Array.mem_toList_iff] at he
            obtain ⟨he, hb⟩ := he
            have ho : ops[acc.length]? = some o := by have := hr 0; simpa using this.symm
            have hon := hi o ho e he hb
            rcases hj with rfl | hj
            · exact hon
            · exact ha e.on (hc _ hon) j hj
        · rw [List.getElem?_eq_none (by simp; omega)] at hj
          simp at hj

theorem getD_bool (l : Array Bool) (i : Nat) : (l.getD i true = false) ↔ (i < l.size ∧ l.getD i false = false) := by
  simp only [Array.getD]
  split <;> simp [*]

theorem ready_iff {ops : Array Oper} {listed : Array Bool} (hs : listed.size = ops.size) {i : Nat} : i ∈ Region.ready .any ops listed ↔ i < ops.size ∧ listed.getD i false = false ∧ Waits ops listed i := by
  rw [mem_ready, getD_bool, hs]
  constructor
  · rintro ⟨⟨h1, h2⟩, o, ho, h3⟩
    exact ⟨h1, h2, fun o' ho' => by rw [ho] at ho'; injection ho' with ho'; subst ho'; exact h3⟩
  · rintro ⟨h1, h2, h3⟩
    exact ⟨⟨h1, h2⟩, ops[i], by simp [h1], h3 _ (by simp [h1])⟩

theorem getD_set (l : Array Bool) (i j : Nat) (h : i < l.size) : (l.setIfInBounds i true).getD j false = (l.getD j false || j == i) := by
  simp only [Array.getD_eq_getD_getElem?, Array.getElem?_setIfInBounds]
  by_cases e : i = j
  · subst e; simp [h]
  · have e' : (j == i) = false := by simp; omega
    simp [e, e']

theorem count_set {l : Array Bool} {i : Nat} (h : i < l.size) (hf : l.getD i false = false) : (l.setIfInBounds i true).toList.count false + 1 = l.toList.count false := by
  have e : l[i] = false := by simpa [Array.getD, h] using hf
  simp only [Array.toList_setIfInBounds]
  rw [List.count_set (by simpa using h)]
  have : 0 < l.toList.count false := List.count_pos_iff.2 (by rw [← e]; simp)
  simp only [Array.getElem_toList, e, beq_self_eq_true, if_true]
  rw [if_neg (by simp)]
  omega

/-- what the test of the region says -/
structure DrawOK (m : Nat) (ops : Array Oper) : Prop where
  lt : ∀ i o, ops[i]? = some o → ∀ e ∈ o.after, Region.binds .any e = true → e.on < i
  all : ∀ i j o p, ops[i]? = some o → ops[j]? = some p → j < i → Nat.testBit ((predsL ops.toList []).getD i 0) j = true ∨ (i < m ∧ conflict ops.toList o p = false)

theorem drawOK_spec {m : Nat} {ops : Array Oper} (h : drawOK m ops.toList = true) : DrawOK m ops := by
  have key := drawGo_spec ops.toList 0 [] [] h (by simp) rfl (by simp)
  constructor
  · intro i o ho e he hb
    exact (key i o (Nat.zero_le _) (by simpa using ho)).1 e he hb
  · intro i j o p ho hp hji
    exact (key i o (Nat.zero_le _) (by simpa using ho)).2 j p hji (by simpa using hp)

theorem ready_nil {ops : Array Oper} {listed : Array Bool} {m : Nat} (hd : DrawOK m ops) (hs : listed.size = ops.size) (h : Region.ready .any ops listed = []) : ∀ i, i < ops.size → listed.getD i false = true := by
  intro i
  induction i using Nat.strongRecOn with
  | ind i ih =>
    intro hi
    by_cases hl : listed.getD i false = true
    · exact hl
    · have : i ∈ Region.ready .any ops listed := (ready_iff hs).2 ⟨hi, by simpa using hl, fun o ho e he hb => by
        have hlt := hd.lt i o ho e he hb
        exact ih e.on hlt (by omega)⟩
      rw [h] at this; cases this

theorem waits_set {ops : Array Oper} {listed : Array Bool} {i : Nat} (hi : i < listed.size) (hw : Waits ops listed i) (hc : ∀ i, listed.getD i false = true → Waits ops listed i) :
    ∀ j, (listed.setIfInBounds i true).getD j false = true → Waits ops (listed.setIfInBounds i true) j := by
  intro j hj o ho e he hb
  rw [getD_set _ _ _ hi] at hj ⊢
  simp only [Bool.or_eq_true, beq_iff_eq] at hj ⊢
  rcases hj with hj | rfl
  · exact .inl (hc j hj o ho e he hb)
  · exact .inl (hw o ho e he hb)

/-- The rest: one after the other. -/
theorem rest_any {ops : Array Oper} {m : Nat} {Q : Exit → Act → World → Prop} (hd : DrawOK m ops) (hq : ∀ s' a' w', K s' → Rel κ s' a' w' → Q .normal a' w') : ∀ (fuel k : Nat) (listed : Array Bool) (s : St) (a : Act) (w : World), k + fuel = ops.size → m ≤ k → listed.size = ops.size →
    (∀ j, listed.getD j false = decide (j < k)) → (∀ i, listed.getD i false = true → Waits ops listed i) → Rel κ s a w → opsK P ops.toList (ops.toList.drop k) s K → wpAnyIn κ.F 0 P .any ops Q fuel listed a w
  | 0, k, listed, s, a, w, hk, hm, hs, hl, hc, h, hop => by
    refine ⟨?_, ?_⟩
    · apply List.eq_nil_iff_forall_not_mem.2
      intro i hi
      obtain ⟨h1, h2, _⟩ := (ready_iff hs).1 hi
      rw [hl] at h2; simp at h2; omega
    · rw [List.drop_eq_nil_of_le (by simp; omega)] at hop
      exact hq _ _ _ hop h
  | fuel + 1, k, listed, s, a, w, hk, hm, hs, hl, hc, h, hop => by
    refine ⟨fun hn => ?_, fun i hi => ?_⟩
    · have := ready_nil hd hs hn k (by omega)
      rw [hl] at this; simp at this
    · obtain ⟨h1, h2, h3⟩ := (ready_iff hs).1 hi
      have hik : i = k := by
        rw [hl] at h2; simp at h2
        rcases Nat.lt_or_ge k i with hlt | hge
        · have ho : ops[i]? = some ops[i] := by simp [h1]
          have hp : ops[k]? = some ops[k] := by simp
          rcases hd.all i k _ _ ho hp hlt with hin | ⟨hlm, _⟩
          · have := preds_listed ops.toList [] (by simp) hc (by simp) i h3 k hin
            rw [hl] at this; simp at this
          · omega
        · omega
      subst hik
      have ho : ops[i]? = some ops[i] := by simp [h1]
      rw [List.drop_eq_getElem_cons (by simpa using h1)] at hop
      refine restOp_sound h ho (by simpa using hop) fun s' a' w' k1 k2 => ?_
      refine rest_any hd hq fuel (i + 1) _ s' a' w' (by omega) (by omega) (by simpa using hs) (fun j => ?_) (waits_set (by omega) h3 hc) k2 k1
      rw [getD_set _ _ _ (by omega), hl]
      by_cases e : j = i
      · subst e; simp
      · have : (j == i) = false := by simpa using e
        rw [this]; simp; omega

theorem stL_congr (L L' : Nat → Bool) : ∀ (i : Nat) (es : List Eff) (s : St), (∀ k, k < es.length → L (i + k) = L' (i + k)) → stL L i es s = stL L' i es s
  | _, [], _, _ => rfl
  | i, e :: es, s, h => by
    simp only [stL]
    rw [show L i = L' i by simpa using h 0 (by simp)]
    exact stL_congr L L' (i + 1) es _ fun k hk => by rw [show i + 1 + k = i + (k + 1) by omega]; exact h (k + 1) (by simpa using hk)

theorem stL_hp_congr (L L' : Nat → Bool) : ∀ (i : Nat) (es : List Eff) (s s' : St), s.hp = s'.hp → (∀ k e, es[k]? = some e → e.push ≠ none → L (i + k) = L' (i + k)) → (stL L i es s).hp = (stL L' i es s').hp
  | _, [], _, _, h, _ => h
  | i, e :: es, s, s', h, hp => by
    simp only [stL]
    refine stL_hp_congr L L' (i + 1) es _ _ ?_ fun k e' he hn => by
      rw [show i + 1 + k = i + (k + 1) by omega]; exact hp (k + 1) e' (by simpa using he) hn
    by_cases hn : e.push = none
    · split <;> split <;> simp [Eff.app, hn, h]
    · have := hp 0 e rfl hn
      simp only [Nat.add_zero] at this
      rw [this]; split <;> simp [Eff.app, h]

theorem stL_take (i : Nat) : ∀ (b : Nat) (es : List Eff) (s : St), stL (fun _ => true) b (es.take i) s = stL (fun j => decide (j < b + i)) b es s := by
  induction i with
  | zero =>
    intro b es s
    have : ∀ (es : List Eff) (c : Nat) (s : St), b ≤ c → stL (fun j => decide (j < b)) c es s = s := by
      intro es
      induction es with
      | nil => intros; rfl
      | cons e es ih => intro c s hc; simp only [stL]; rw [if_neg (by simp; omega)]; exact ih (c + 1) s (by omega)
    simp only [List.take_zero, Nat.add_zero]
    rw [this es b s (Nat.le_refl _)]; rfl
  | succ i ih =>
    intro b es s
    cases es with
    | nil => rfl
    | cons e es =>
      simp only [List.take_succ_cons, stL, if_true]
      rw [if_pos (by simp), ih (b + 1) es _]
      exact stL_congr _ _ _ _ _ fun k _ => by simp; omega

/-- The free part, in whatever order. -/
theorem free_any {ops : Array Oper} {m : Nat} {Q : Exit → Act → World → Prop} (hd : DrawOK m ops) (hm : m ≤ ops.size) (hq : ∀ s' a' w', K s' → Rel κ s' a' w' → Q .normal a' w') {es : List Eff} (hel : es.length = m) (s : St) (hb : base ≤ s.hp.length)
    (he : ∀ (i : Nat) o, i < m → ops[i]? = some o → ∃ e, es[i]? = some e ∧ (∀ p ∈ e.ws, p.1 ∈ opWrites o) ∧ (isAlloc o = false → e.push = none) ∧
      ∀ s', Agree ops.toList base o (stL (fun _ => true) 0 (es.take i) s) s' → freeOp P base ops.toList o s' (fun x => x = e.app s'))
    (hop : opsK P ops.toList (ops.toList.drop m) (stL (fun _ => true) 0 es s) K) : ∀ (fuel : Nat) (listed : Array Bool) (a : Act) (w : World), listed.toList.count false = fuel → listed.size = ops.size →
    (∀ i, listed.getD i false = true → i < m) → (∀ i, listed.getD i false = true → Waits ops listed i) → Rel κ (stL (fun j => listed.getD j false) 0 es s) a w → wpAnyIn κ.F 0 P .any ops Q fuel listed a w := by
  intro fuel
  induction fuel with
  | zero =>
    intro listed a w hf hs hlt hc h
    have hall : ∀ i, i < ops.size → listed.getD i false = true := fun i hi => by
      by_cases e : listed.getD i false = true
      · exact e
      · exfalso
        have e' : listed[i]'(by omega) = false := by simpa [Array.getD, show i < listed.size by omega] using e
        have : 0 < listed.toList.count false := List.count_pos_iff.2 (by rw [← e']; simp)
        omega
    have hms : ops.size = m := by
      rcases Nat.lt_or_ge m ops.size with h1 | h1
      · have := hlt m (hall m h1); omega
      · omega
    refine ⟨?_, ?_⟩
    · apply List.eq_nil_iff_forall_not_mem.2
      intro i hi
      obtain ⟨h1, h2, _⟩ := (ready_iff hs).1 hi
      rw [hall i h1] at h2; cases h2
    · rw [List.drop_eq_nil_of_le (by simp; omega)] at hop
      rw [stL_congr _ (fun _ => true) 0 es s fun k hk => by simpa using hall k (by omega)] at h
      exact hq _ _ _ hop h
  | succ fuel ih =>
    intro listed a w hf hs hlt hc h
    by_cases hfin : ∀ i, i < m → listed.getD i false = true
    · -- the rest
      have hlm : ∀ j, listed.getD j false = decide (j < m) := fun j => by
        by_cases e : j < m
        · rw [hfin j e]; simp [e]
        · have : ¬ listed.getD j false = true := fun hh => e (hlt j hh)
          simp [e]; simpa using this
      rw [stL_congr _ (fun _ => true) 0 es s fun k hk => by simpa using hfin k (by omega)] at h
      have hcnt : m + (fuel + 1) = ops.size := by
        rw [← hf, ← hs]
        have e1 : listed.toList = (List.range listed.size).map fun j => decide (j < m) := by
          apply List.ext_getElem
          · simp
          · intro i h1 h2
            have := hlm i
            simp only [List.getElem_map, List.getElem_range]
            rw [← this]
            simp at h1
            simp [Array.getD, h1]
        rw [e1, hs]
        have e2 : ∀ n, m ≤ n → m + ((List.range n).map fun j => decide (j < m)).count false = n := by
          intro n
          induction n with
          | zero => intro h; simp; omega
          | succ n ihn =>
            intro h
            rw [List.range_succ, List.map_append, List.count_append]
            rcases Nat.lt_or_ge n m with h1 | h1
            · have : m = n + 1 := by omega
              subst this
              have e3 : ((List.range n).map fun j => decide (j < n + 1)).count false = 0 := by
                rw [List.count_eq_zero]
                intro hmem
                simp only [List.mem_map, List.mem_range] at hmem
                obtain ⟨j, hj, hj2⟩ := hmem
                simp at hj2; omega
              rw [e3]; simp
            · have := ihn h1
              have e4 : decide (n < m) = false := by simp; omega
              simp [e4]; omega
        exact e2 _ hm
      exact rest_any hd hq (fuel + 1) m listed _ a w hcnt (Nat.le_refl _) hs hlm hc h hop
    · -- one more of the free part
      refine ⟨fun hn => absurd (fun i hi => ready_nil hd hs hn i (by omega)) hfin, fun i hi => ?_⟩
      obtain ⟨h1, h2, h3⟩ := (ready_iff hs).1 hi
      have hpre : ∀ j, Nat.testBit ((predsL ops.toList []).getD i 0) j = true → listed.getD j false = true := preds_listed ops.toList [] (by simp) hc (by simp) i h3
      have ho : ops[i]? = some ops[i] := by simp [h1]
      have him : i < m := by
        rcases Nat.lt_or_ge i m with h' | h'
        · exact h'
        · exfalso
          refine hfin fun j hj => ?_
          rcases hd.all i j _ ops[j] ho (by simp) (by omega) with hin | ⟨hlm, _⟩
          · exact hpre j hin
          · omega
      obtain ⟨e, q1, q2, q3, q4⟩ := he i _ him ho
      -- earlier ones that are felt are done; later ones that feel are not
      have hearly : ∀ j p, ops[j]? = some p → j < i → conflict ops.toList ops[i] p = true → listed.getD j false = true := fun j p hp hji hcf => by
        rcases hd.all i j _ p ho hp hji with hin | ⟨_, hcf'⟩
        · exact hpre j hin
        · rw [hcf] at hcf'; cases hcf'
      have hlate : ∀ j p, ops[j]? = some p → i < j → listed.getD j false = true → conflict ops.toList p ops[i] = false := fun j p hp hij hl => by
        rcases hd.all j i p _ hp ho hij with hin | ⟨_, hcf'⟩
        · have := preds_listed ops.toList [] (by simp) hc (by simp) j (hc j hl) i hin
          rw [h2] at this; cases this
        · exact hcf'
      have hag : Agree ops.toList base ops[i] (stL (fun _ => true) 0 (es.take i) s) (stL (fun j => listed.getD j false) 0 es s) := by
        rw [stL_take]
        have hek : ∀ k e', es[k]? = some e' → ∃ p, ops[k]? = some p ∧ k < m := fun k e' hk => by
          have hk := (List.getElem?_eq_some_iff.1 hk).1
          exact ⟨ops[k]'(by omega), by simp, by omega⟩
        constructor
        · intro x hx
          refine stL_get _ _ x 0 es s s rfl rfl fun k e' hk hw => ?_
          obtain ⟨p, hp, hkm⟩ := hek k e' hk
          obtain ⟨e'', r1, r2, _⟩ := he k p hkm hp
          rw [hk] at r1; injection r1 with r1; subst r1
          obtain ⟨pr, hpr, hprx⟩ := hw
          have hxw : x ∈ opWrites p := hprx ▸ r2 pr hpr
          simp only [Nat.zero_add]
          rcases Nat.lt_trichotomy k i with hlt' | rfl | hgt
          · rw [hearly k p hp hlt' (conflict_of_meet hxw hx)]
            simp [hlt']
          · rw [h2]; simp
          · have : listed.getD k false = false := by
              by_cases hl : listed.getD k false = true
              · have hcf := hlate k p hp hgt hl
                exact absurd hx ((conflict_false hcf).1 x hxw).1
              · simpa using hl
            rw [this]; simp; omega
        · intro id hid
          obtain ⟨t1, e1⟩ := stL_hp (fun j => listed.getD j false) 0 es s
          obtain ⟨t2, e2⟩ := stL_hp (fun j => decide (j < 0 + i)) 0 es s
          rw [e1, e2, List.getElem?_append_left (by omega), List.getElem?_append_left (by omega)]
        · intro hal
          refine stL_hp_congr _ _ 0 es s s rfl fun k e' hk hne => ?_
          obtain ⟨p, hp, hkm⟩ := hek k e' hk
          obtain ⟨e'', r1, _, r3, _⟩ := he k p hkm hp
          rw [hk] at r1; injection r1 with r1; subst r1
          have hap : isAlloc p = true := by
            by_cases hh : isAlloc p = true
            · exact hh
            · exact absurd (r3 (by simpa using hh)) hne
          simp only [Nat.zero_add]
          rcases Nat.lt_trichotomy k i with hlt' | rfl | hgt
          · rw [hearly k p hp hlt' (conflict_of_alloc hal hap)]; simp [hlt']
          · rw [h2]; simp
          · have : listed.getD k false = false := by
              by_cases hl : listed.getD k false = true
              · have hcf := hlate k p hp hgt hl
                rw [conflict_of_alloc hap hal] at hcf; cases hcf
              · simpa using hl
            rw [this]; simp; omega
      refine freeOp_sound h ho (q4 _ hag) fun s' a' w' hs' hr' => ?_
      subst hs'
      refine ih _ a' w' ?_ (by simpa using hs) (fun j hj => ?_) (waits_set (by omega) h3 hc) ?_
      · have := count_set (l := listed) (i := i) (by omega) h2; omega
      · rw [getD_set _ _ _ (by omega)] at hj
        simp only [Bool.or_eq_true, beq_iff_eq] at hj
        rcases hj with hj | rfl
        · exact hlt j hj
        · exact him
      · rw [stL_insert (fun j => listed.getD j false) i e 0 es s (fun _ _ _ => trivial) (Nat.zero_le _) (by simpa using q1) h2 ?_] at hr'
        · rw [show (fun j => (listed.setIfInBounds i true).getD j false) = fun j => listed.getD j false || j == i from funext fun j => getD_set _ _ _ (by omega)]
          exact hr'
        · intro k f hf' hik hl
          simp only [Nat.zero_add] at hik hl
          have hkm : k < m := by have := (List.getElem?_eq_some_iff.1 hf').1; omega
          have hp : ops[k]? = some (ops[k]'(by omega)) := by simp
          obtain ⟨e'', r1, r2, r3, _⟩ := he k _ hkm hp
          rw [hf'] at r1; injection r1 with r1; subst r1
          have hcf := hlate k _ hp hik hl
          obtain ⟨hc1, hc2⟩ := conflict_false hcf
          refine ⟨fun x hx y hy hxy => ?_, ?_⟩
          · exact absurd (q2 x hx) (hc1 _ (hxy ▸ r2 y hy)).2
          · rcases hc2 with hh | hh
            · exact .inr (r3 hh)
            · exact .inl (q3 hh)

/-- THE LAW OF A DRAWN REGION. -/
theorem draw_sem {id : Nat} {ops : Array Oper} {Q : Ex → St → Prop} (m : Nat) (hmo : P.follows .mixedOrders = true) (hd : drawOK m ops.toList = true) (hm : m ≤ ops.size)
    (hk : freeK P s.hp.length ops.toList (ops.toList.take m) s fun s' => opsK P ops.toList (ops.toList.drop m) s' (Q .normal)) : SemC P (.region id ops true) Q s := by
  intro κ a w hr
  obtain ⟨es, h1, h2, h3⟩ := free_effs (base := s.hp.length) (all := ops.toList) (Nat.le_refl _) (ops.toList.take m) s (Nat.le_refl _) hk
  refine wpIn_region_any hmo ?_
  have hd' := drawOK_spec hd
  have hel : es.length = m := by rw [h1]; simp; omega
  refine free_any (base := s.hp.length) hd' hm (fun s' a' w' k1 k2 => ⟨.normal, s', rfl, k1, k2⟩) hel s (Nat.le_refl _) (fun i o him ho => ?_) h2 ops.size _ a _ ?_ ?_ ?_ ?_ ?_
  · exact h3 i o (by rw [List.getElem?_take_of_lt him]; simpa using ho)
  · simp
  · simp
  · intro i hi; simp [Array.getD] at hi
  · intro i hi; simp [Array.getD] at hi
  · have e0 : stL (fun j => (Array.replicate ops.size false).getD j false) 0 es s = s := by
      have : ∀ (es : List Eff) (i : Nat) (s : St), stL (fun _ => false) i es s = s := by
        intro es
        induction es with
        | nil => intros; rfl
        | cons e es ih => intro i s; simp only [stL, Bool.false_eq_true, if_false]; exact ih _ _
      rw [show (fun j => (Array.replicate ops.size false).getD j false) = fun _ => false from funext fun j => by simp [Array.getD]]
      exact this es 0 s
    rw [e0]
    obtain ⟨Φ, B, au, h⟩ := hr
    exact ⟨Φ, B, au, h.grow (Grows.drew w _)⟩

end
end Go.Idl
end
section
namespace Go.Idl
open Go.RowKit Go.ChangeShapes Go.WideShapes

/-- all cells of a world -/
def cellsOfW (w : World) : CM := fun _ b o => w.cell? ⟨b, o, none⟩

/-- fields that lie one behind the other -/
def consec (P : Program) : Nat → List Field → Nat → Bool
  | o, [], z => o == z
  | o, f :: r, z => f.offset == o && consec P (o + P.cellsOf f.type) r z

/-- types of plain data: numbers, bools, strings, slices and structs of these -/
def plainTy (P : Program) : Nat → TypeId → Bool
  | 0, _ => false
  | n + 1, t => match P.underlying t with
    | some .bool => true
    | some (.int _) => true
    | some .string => true
    | some (.slice e) => decide (0 < P.cellsOf e) && plainTy P n e
    | some (.struct fs) => (fs.toList.all fun f => plainTy P n f.type) && consec P 0 fs.toList (P.cellsOf t)
    | _ => false

def isStruct (P : Program) (t : TypeId) : Bool := match P.underlying t with
  | some (.struct _) => true
  | _ => false

/-- cells that hold a value of a type -/
def TyD (P : Program) : Nat → TypeId → List D → Prop
  | 0, _, _ => False
  | n + 1, t, ds => match P.underlying t with
    | some .bool => ∃ b, ds = [.bool b]
    | some (.int k) => ∃ m, ds = [.int k m] ∧ (Lit.int k m).wf = true
    | some .string => ∃ s : ByteArray, ds = [.str s] ∧ s.size ≤ reachBytes
    | some (.slice e) => ∃ xs, ds = [.sl false (P.cellsOf e) xs] ∧ xs.length ≤ maxLen ∧ xs.length * P.bytesOf e ≤ reachBytes ∧ ∀ x ∈ xs, x.flat.length = P.cellsOf e ∧ (isStruct P e = true → ∃ cs, x = .agg cs) ∧ (isStruct P e = false → ∀ cs, x ≠ .agg cs) ∧ TyD P n e x.flat
    | some (.struct fs) => ds.length = P.cellsOf t ∧ ∀ f ∈ fs.toList, TyD P n f.type ((ds.drop f.offset).take (P.cellsOf f.type))
    | _ => False

theorem TyD.length_le {P : Program} : ∀ {n : Nat} {t : TypeId} {ds : List D}, TyD P n t ds → isStruct P t = false → ∃ d, ds = [d] ∧ ∀ cs, d ≠ .agg cs := by
  intro n t ds h hs
  cases n with
  | zero => exact h.elim
  | succ n =>
    unfold TyD at h
    unfold isStruct at hs
    split at h
    · obtain ⟨b, rfl⟩ := h; exact ⟨_, rfl, by simp⟩
    · obtain ⟨b, rfl, _⟩ := h; exact ⟨_, rfl, by simp⟩
    · obtain ⟨b, rfl, _⟩ := h; exact ⟨_, rfl, by simp⟩
    · obtain ⟨b, rfl, _⟩ := h; exact ⟨_, rfl, by simp⟩
    · rename_i e; rw [e] at hs; simp at hs
    · exact h.elim

theorem weightsAll_mem {H : Type} {P : Program} {e : TypeId} : ∀ {l : List (DataW H)} {d : DataW H}, d ∈ l → ∀ x ∈ d.weights P e, x ∈ DataW.weightsAll P e l
  | a :: l, d, hd, x, hx => by
    unfold DataW.weightsAll
    rcases List.mem_cons.1 hd with rfl | hd
    · exact List.mem_append_left _ hx
    · exact List.mem_append_right _ (weightsAll_mem hd x hx)

theorem weightsEach_mem {H : Type} {P : Program} : ∀ {ts : List TypeId} {l : List (DataW H)} {i : Nat} {t : TypeId} {d : DataW H}, ts[i]? = some t → l[i]? = some d → ∀ x ∈ d.weights P t, x ∈ DataW.weightsEach P ts l
  | t :: ts, d :: l, 0, _, _, ht, hd, x, hx => by
    simp at ht hd; subst ht; subst hd
    unfold DataW.weightsEach; exact List.mem_append_left _ hx
  | t :: ts, d :: l, i + 1, _, _, ht, hd, x, hx => by
    unfold DataW.weightsEach; exact List.mem_append_right _ (weightsEach_mem (i := i) (by simpa using ht) (by simpa using hd) x hx)
  | [], _, _, _, _, ht, _, _, _ => by simp at ht
  | _ :: _, [], _, _, _, _, hd, _, _ => by simp at hd

/-- cell by cell -/
def CellsRep (Φ : CM) (ds : List D) (cs : List Value) : Prop := ds.length = cs.length ∧ ∀ (j : Nat) d c, ds[j]? = some d → cs[j]? = some c → okCell c ∧ RepD Φ d c

theorem cellsRep_one {Φ : CM} {d : D} {c : Value} (h : okCell c) (h' : RepD Φ d c) : CellsRep Φ [d] [c] :=
  ⟨rfl, fun j d' c' hd hc => by cases j <;> simp at hd hc; subst hd; subst hc; exact ⟨h, h'⟩⟩

theorem CellsRep.append {Φ : CM} {a b : List D} {c d : List Value} (h : CellsRep Φ a c) (h' : CellsRep Φ b d) : CellsRep Φ (a ++ b) (c ++ d) := by
  refine ⟨by simp [h.1, h'.1], fun j x v hx hv => ?_⟩
  rw [List.getElem?_append] at hx hv
  rw [h.1] at hx
  split at hx
  · rename_i hlt; rw [if_pos hlt] at hv; exact h.2 j x v hx hv
  · rename_i hlt; rw [if_neg hlt] at hv; exact h'.2 _ x v hx hv

/-- fields, one behind the other -/
theorem fields_rep {P : Program} {Φ : CM} {n z : Nat} {cs : List Value} : ∀ (L : List Field) (o : Nat), consec P o L z = true → cs.length = z → o ≤ z →
    (∀ f ∈ L, ∃ ds, CellsRep Φ ds ((cs.drop f.offset).take (P.cellsOf f.type)) ∧ TyD P n f.type ds) → ∃ ds, CellsRep Φ ds (cs.drop o) ∧ ∀ f ∈ L, TyD P n f.type ((ds.drop (f.offset - o)).take (P.cellsOf f.type))
  | [], o, hc, hl, ho, _ => by
    simp only [consec, beq_iff_eq] at hc
    refine ⟨[], ?_, by simp⟩
    rw [List.drop_eq_nil_of_le (by omega)]
    exact ⟨rfl, by simp⟩
  | f :: L, o, hc, hl, ho, hf => by
    simp only [consec, Bool.and_eq_true, beq_iff_eq] at hc
    obtain ⟨rfl, hc⟩ := hc
    have hle : ∀ (L : List Field) (o : Nat), consec P o L z = true → o ≤ z := by
      intro L
      induction L with
      | nil => intro o h; simp only [consec, beq_iff_eq] at h; omega
      | cons g L ih => intro o h; simp only [consec, Bool.and_eq_true, beq_iff_eq] at h; have := ih _ h.2; omega
    have ho' := hle L _ hc
    obtain ⟨ds0, h1, h2⟩ := hf f (by simp)
    obtain ⟨ds, q1, q2⟩ := fields_rep L (f.offset + P.cellsOf f.type) hc hl ho' fun g hg => hf g (by simp [hg])
    have hd0 : ds0.length = P.cellsOf f.type := by rw [h1.1, List.length_take, List.length_drop]; omega
    refine ⟨ds0 ++ ds, ?_, fun g hg => ?_⟩
    · have := h1.append q1
      rw [← List.drop_drop, List.take_append_drop] at this
      exact this
    · rcases List.mem_cons.1 hg with rfl | hg
      · rw [Nat.sub_self, List.drop_zero, List.take_append_of_le_length (by omega), List.take_of_length_le (by omega)]; exact h2
      · have hoff : ∀ (L : List Field) (o : Nat), consec P o L z = true → ∀ g ∈ L, o ≤ g.offset := by
          intro L
          induction L with
          | nil => intro o h g hg; cases hg
          | cons k L ih =>
            intro o h g hg
            simp only [consec, Bool.and_eq_true, beq_iff_eq] at h
            rcases List.mem_cons.1 hg with rfl | hg
            · omega
            · have := ih _ h.2 g hg; omega
        have := hoff L _ hc g hg
        rw [List.drop_append, List.drop_eq_nil_of_le (by omega), List.nil_append, hd0, show g.offset - f.offset - P.cellsOf f.type = g.offset - (f.offset + P.cellsOf f.type) by omega]
        exact q2 g hg

theorem spot_of_cell {w : World} {a : Addr} {v : Value} (h : w.cell? a = some v) : a.spot = none := by
  unfold World.cell? at h
  split at h
  · split at h
    · cases h
    · rename_i hh; cases hs : a.spot with
      | none => rfl
      | some q => rw [hs] at hh; simp at hh
  · cases h

/-- What is read is data. -/
theorem trod_rep {H : Type} {enc : TypeId × Value → H} {P : Program} {w : World} {base : Nat} {spare : Nat → Bool} {held : Bool} :
    ∀ (n : Nat) {t : TypeId} {cs : List Value} {x : DataW H × List MemPlace} {fuel : Nat}, plainTy P n t = true → DataW.trod enc P w base spare held fuel t cs = some x → (∀ y ∈ x.1.weights P t, y ≤ reachBytes) →
      ∃ ds, CellsRep (cellsOfW w) ds cs ∧ TyD P n t ds := by
  intro n
  induction n with
  | zero => intro t cs x fuel hp; simp [plainTy] at hp
  | succ n ih =>
    intro t cs x fuel hp h hw
    unfold plainTy at hp
    unfold TyD
    split at hp
    · rename_i e
      obtain ⟨b, rfl, rfl⟩ := DataW.trod_bool e h
      exact ⟨[.bool b], cellsRep_one trivial (.bool b), b, rfl⟩
    · rename_i k e
      obtain ⟨b, rfl, rfl, hb⟩ := DataW.trod_int e h
      exact ⟨[.int k b], cellsRep_one trivial (.int k b), b, rfl, hb⟩
    · rename_i e
      obtain ⟨s, rfl, rfl, hs⟩ := DataW.trod_string e h
      refine ⟨[.str s], cellsRep_one trivial (.str s), s, rfl, ?_⟩
      have := hw s.data.toList.length (by simp [DataW.weights])
      simpa using this
    · rename_i e eu
      simp only [Bool.and_eq_true, decide_eq_true_eq] at hp
      obtain ⟨hz0, hp⟩ := hp
      rcases DataW.trod_slice eu h with ⟨rfl, rfl⟩ | ⟨a, len, cap, elems, rest, m, rfl, rfl, rfl, hb, hl, hm, hlen, hel, hsp, hns⟩
      · exact ⟨[.sl false (P.cellsOf e) []], cellsRep_one trivial .sl0, [], rfl, by simp, by simp, by simp⟩
      · have hw0 : (elems.length + rest.length) * P.bytesOf e ≤ reachBytes := by
          have := hw ((elems.length + rest.length) * P.bytesOf e) (by simp [DataW.weights, eu])
          exact this
        have hex : ∀ i, i < len → ∃ d : D, d.flat.length = P.cellsOf e ∧ CellsAt (cellsOfW w) false a.block (a.off + i * P.cellsOf e) d.flat ∧ (i = 0 → a.spot = none) ∧ (isStruct P e = true → ∃ cs, d = .agg cs) ∧ (isStruct P e = false → ∀ cs, d ≠ .agg cs) ∧ TyD P n e d.flat := by
          intro i hi
          have h1 := hel i hi
          have hs1 : elems[i]? = some (elems[i]'(by omega)) := by simp
          rw [hs1] at h1
          obtain ⟨cs', hc1, hc2⟩ := Option.bind_eq_some_iff.1 h1
          obtain ⟨_, hc4, hc5⟩ := World.cells?_some hc1
          obtain ⟨ds, ⟨q1, q2⟩, q3⟩ := ih (t := e) (x := elems[i]'(by omega)) hp hc2 (fun y hy => hw y (by
            simp only [DataW.weights, eu]
            refine List.mem_cons_of_mem _ (List.mem_append_left _ ?_)
            exact weightsAll_mem (List.mem_map.2 ⟨_, List.getElem_mem _, rfl⟩) y hy))
          have hspot : i = 0 → a.spot = none := by
            rintro rfl
            have h6 := hc5 0 hz0
            have h7 : cs'[0]? = some (cs'[0]'(by omega)) := by simp
            rw [h7] at h6
            simp only [Nat.zero_mul] at h6
            exact spot_of_cell (a := (a.add 0).add 0) h6
          have hcells : CellsAt (cellsOfW w) false a.block (a.off + i * P.cellsOf e) ds := by
            refine CellsAt.of fun j d hd => ?_
            have hj : j < P.cellsOf e := by rw [← hc4, ← q1]; exact (List.getElem?_eq_some_iff.1 hd).1
            have hcj : cs'[j]? = some (cs'[j]'(by omega)) := by simp
            have h6 := hc5 j hj
            rw [hcj] at h6
            obtain ⟨r1, r2⟩ := q2 j d _ hd hcj
            refine ⟨_, ?_, r1, r2⟩
            rw [← h6]
            show w.cell? ⟨a.block, a.off + i * P.cellsOf e + j, none⟩ = _
            congr 1
            have hsp := spot_of_cell h6
            have hb1 : ((a.add (i * P.cellsOf e)).add j).block = a.block := by unfold Addr.add; split <;> split <;> rfl
            have ho1 : ((a.add (i * P.cellsOf e)).add j).off = a.off + i * P.cellsOf e + j := by unfold Addr.add; split <;> split <;> simp_all
            rw [← hb1, ← ho1, ← hsp]
          cases hst : isStruct P e with
          | true => exact ⟨.agg ds, by simp [D.flat, q1, hc4], by simpa [D.flat] using hcells, hspot, fun _ => ⟨ds, rfl⟩, by simp, by simpa [D.flat] using q3⟩
          | false =>
            obtain ⟨d, rfl, hd⟩ := TyD.length_le q3 hst
            have hfl : d.flat = [d] := by cases d <;> first | rfl | exact absurd rfl (hd _)
            exact ⟨d, by rw [hfl, ← hc4, ← q1], by rw [hfl]; exact hcells, hspot, by simp, fun _ => hd, by rw [hfl]; exact q3⟩
        obtain ⟨f, hf⟩ := Deep.choose_lt hex
        refine ⟨[.sl false (P.cellsOf e) ((List.range len).map f)], cellsRep_one trivial ?_, (List.range len).map f, rfl, by simp; omega, ?_, ?_⟩
        · rcases Nat.eq_zero_or_pos len with rfl | hpos
          · exact .sl0
          · have hE : ∀ z, z = P.cellsOf e → ElemsAt (cellsOfW w) false z a.block a.off ((List.range len).map f) := by
              rintro z rfl
              refine ElemsAt.of fun i x hx => ?_
              simp only [List.getElem?_map, Option.map_eq_some_iff] at hx
              obtain ⟨i', hi', rfl⟩ := hx
              have hi'' := List.getElem?_eq_some_iff.1 hi'
              obtain ⟨hlt, he⟩ := hi''
              simp at hlt he; subst he
              obtain ⟨r1, r2, _⟩ := hf i hlt
              exact ⟨r1, r2⟩
            have hl' : ((List.range len).map f).length = len := by simp
            have hz : a = ⟨a.block, a.off, none⟩ := by
              have := (hf 0 hpos).2.2.1 rfl
              cases a with | mk b o sp => simp only at this; subst this; rfl
            have := RepD.sl (Φ := cellsOfW w) (z := P.cellsOf e) (b := a.block) (o := a.off) (xs := (List.range len).map f) (cap := cap) (by simp; omega) (by simpa using hl) (hE _ rfl)
            rw [hl'] at this
            rw [hz]; exact this
        · simp only [List.length_map, List.length_range]
          refine Nat.le_trans (Nat.mul_le_mul_right _ ?_) hw0
          omega
        · intro x hx
          simp only [List.mem_map, List.mem_range] at hx
          obtain ⟨i, hi, rfl⟩ := hx
          obtain ⟨r1, r2, r3, r4, r5, r6⟩ := hf i hi
          exact ⟨r1, r4, r5, r6⟩
    · rename_i fs eu
      simp only [Bool.and_eq_true, List.all_eq_true] at hp
      obtain ⟨hp1, hp2⟩ := hp
      obtain ⟨xs, m, rfl, rfl, hcl, hxl, hx⟩ := DataW.trod_struct eu h
      have hfld : ∀ (i : Nat) (f : Field), fs[i]? = some f → ∃ ds, CellsRep (cellsOfW w) ds ((cs.drop f.offset).take (P.cellsOf f.type)) ∧ TyD P n f.type ds := by
        intro i f hf
        have hi : i < xs.length := by rw [hxl]; exact (Array.getElem?_eq_some_iff.1 hf).1
        have h1 := hx i f hf
        rw [List.getElem?_eq_getElem hi] at h1
        refine ih (x := xs[i]) (hp1 f (by have := Array.mem_of_getElem? hf; simpa using this)) h1 fun y hy => hw y ?_
        simp only [DataW.weights, eu]
        exact weightsEach_mem (i := i) (by rw [List.getElem?_map, Array.getElem?_toList, hf]; rfl) (by rw [List.getElem?_map, List.getElem?_eq_getElem hi]; rfl) y hy
      obtain ⟨ds, q1, q2⟩ := fields_rep fs.toList 0 hp2 hcl (Nat.zero_le _) fun f hf => by
        obtain ⟨i, hi⟩ := List.getElem?_of_mem hf
        exact hfld i f (by simpa using hi)
      simp only [List.drop_zero, Nat.sub_zero] at q1 q2
      exact ⟨ds, q1, by rw [q1.1, hcl], fun f hf => q2 f hf⟩
    · cases hp

end Go.Idl
end
section
namespace Go.Idl
open Go.RowKit Go.ChangeShapes Go.WideShapes

/-- a datum that is a value of a type -/
def TyV (P : Program) (n : Nat) (t : TypeId) (x : D) : Prop := (isStruct P t = true → ∃ cs, x = .agg cs) ∧ (isStruct P t = false → ∀ cs, x ≠ .agg cs) ∧ TyD P n t x.flat

inductive TyAll (P : Program) (n : Nat) : List TypeId → List D → Prop
  | nil : TyAll P n [] []
  | cons {t ts x xs} : TyV P n t x → TyAll P n ts xs → TyAll P n (t :: ts) (x :: xs)

inductive RepAll (Φ : CM) : List D → List Value → Prop
  | nil : RepAll Φ [] []
  | cons {x xs v vs} : RepD Φ x v → RepAll Φ xs vs → RepAll Φ (x :: xs) (v :: vs)

theorem arg_rep {H : Type} {enc : TypeId × Value → H} {P : Program} {w : World} {b b0 : Nat} {spare : Nat → Bool} {held : Bool} {r : Reach} {n : Nat} {t : TypeId} {v : Value} {d : DataW H} {p : List MemPlace}
    (hp : plainTy P n t = true) (hv : Value.okWide P w r b0 t v) (h : DataW.Trod enc P w b spare held t v d p) (hw : ∀ y ∈ d.weights P t, y ≤ reachBytes) : ∃ x, RepD (cellsOfW w) x v ∧ TyV P n t x := by
  obtain ⟨fuel, hf⟩ := h
  obtain ⟨ds, hc, ht⟩ := trod_rep n hp hf hw
  cases hst : isStruct P t with
  | true =>
    unfold isStruct at hst
    split at hst
    · rename_i fs eu
      obtain ⟨cs, rfl, _⟩ := okWide_struct eu hv
      simp only [Value.cells] at hc
      refine ⟨.agg ds, ?_, fun _ => ⟨ds, rfl⟩, fun hh => ?_, ht⟩
      · have := RepD.agg (Φ := cellsOfW w) (RepL.of hc.1 hc.2)
        simpa using this
      · unfold isStruct at hh; rw [eu] at hh; cases hh
    · cases hst
  | false =>
    obtain ⟨x, rfl, hx⟩ := TyD.length_le ht hst
    have hfl : x.flat = [x] := by cases x <;> first | rfl | exact absurd rfl (hx _)
    have hone : v.cells.toList = [v] := by
      cases n with
      | zero => exact ht.elim
      | succ n =>
        unfold TyD at ht
        split at ht
        · rename_i e; obtain ⟨c, rfl⟩ : ∃ c, v = .bool c := by simp only [Value.okWide, e, Cell.okWide] at hv; cases v <;> simp_all [Cell.ok]
          rfl
        · rename_i e; obtain ⟨c, c', rfl⟩ : ∃ c c', v = .int c c' := by simp only [Value.okWide, e, Cell.okWide] at hv; cases v <;> simp_all [Cell.ok]
          rfl
        · rename_i e; obtain ⟨c, rfl⟩ := okWide_string e hv
          rfl
        · rename_i e; obtain ⟨c, c', c'', rfl⟩ := okWide_slice e hv
          rfl
        · rename_i e; unfold isStruct at hst; rw [e] at hst; cases hst
        · exact ht.elim
    rw [hone] at hc
    refine ⟨x, (hc.2 0 x v rfl rfl).2, fun hh => (by cases hst.symm.trans hh), fun _ => hx, by rw [hfl]; exact ht⟩

theorem args_rep {H : Type} {enc : TypeId × Value → H} {P : Program} {w : World} {b b0 : Nat} {spare : Nat → Bool} {held : Bool} {r : Reach} {n : Nat} : ∀ {ts : List TypeId} {vs : List Value} {ds : List (DataW H)} {ps : List MemPlace},
    ts.all (plainTy P n) = true → (∀ (j : Nat) t v, ts[j]? = some t → vs[j]? = some v → Value.okWide P w r b0 t v) → DataW.TrodAll enc P w b spare held ts vs ds ps → (∀ y ∈ DataW.weightsEach P ts ds, y ≤ reachBytes) →
      ∃ xs, RepAll (cellsOfW w) xs vs ∧ TyAll P n ts xs
  | [], vs, ds, ps, _, _, h, _ => by
    obtain ⟨rfl, _, _⟩ := trodAll_nil h
    exact ⟨[], .nil, .nil⟩
  | t :: ts, vs, ds, ps, hp, hv, h, hw => by
    obtain ⟨v, vs', d, ds', p, q, rfl, rfl, rfl, h1, h2⟩ := trodAll_cons h
    simp only [List.all_cons, Bool.and_eq_true] at hp
    obtain ⟨x, q1, q2⟩ := arg_rep hp.1 (hv 0 t v rfl rfl) h1 fun y hy => hw y (by unfold DataW.weightsEach; exact List.mem_append_left _ hy)
    obtain ⟨xs, q3, q4⟩ := args_rep hp.2 (fun j t v ht hv' => hv (j + 1) t v (by simpa using ht) (by simpa using hv')) h2 fun y hy => hw y (by unfold DataW.weightsEach; exact List.mem_append_right _ hy)
    exact ⟨x :: xs, .cons q1 q3, .cons q2 q4⟩

theorem RepAll.get {Φ : CM} {xs : List D} {vs : List Value} (h : RepAll Φ xs vs) : xs.length = vs.length ∧ ∀ (i : Nat) x v, xs[i]? = some x → vs[i]? = some v → RepD Φ x v := by
  induction h with
  | nil => simp
  | cons a _ ih =>
    refine ⟨by simp [ih.1], fun i x v hx hv => ?_⟩
    cases i with
    | zero => simp at hx hv; subst hx; subst hv; exact a
    | succ i => exact ih.2 i x v (by simpa using hx) (by simpa using hv)

/-- A call on data, in the kit's words. -/
theorem law_calls {P : Program} {f : FuncId} {xs : List D} {args : Array Value} {w : World} {b : Bool} (h : PCall P f xs (.d (.bool b))) (hr : RepAll (cellsOfW w) xs args.toList) :
    Calls P f args w fun e w' => e = .returned (.bool b) ∧ Below w.heap.size w w' := by
  obtain ⟨hl, hg⟩ := hr.get
  have h0 : Inv (Ctx.at_ (cellsOfW w) [] (fun _ => none) w) (cellsOfW w) [] (fun _ => none) ⟨xs.map V.d, [], ([] : List IObj).length⟩ ⟨args, []⟩ w := by
    refine { phi := fun lb _ _ _ e => e, phia := fun lb _ _ _ _ _ _ e => (by cases e), auw := fun _ _ _ e => (by cases e), size := Nat.le_refl _, keep := fun _ _ _ => rfl, pre := List.prefix_refl _, lePhi := CM.le_refl _, tl := by simp [hl], tm := fun i V v hV hv => ?_, hl := rfl, nb := ⟨Nat.le_refl _, Nat.le_refl _⟩, hp := fun id o b ho => (by simp at ho), df := ⟨[], rfl, List.nodup_nil, by simp⟩, rd := fun l hl => (by cases hl), lp := fun l r e => ⟨r, e⟩, src := fun lb b o v e => .inl e, wo := ⟨rfl, rfl, rfl⟩ }
    have hV' : (xs.map Idl.V.d)[i]? = some V := hV
    simp only [List.getElem?_map, Option.map_eq_some_iff] at hV'
    obtain ⟨x, hx, rfl⟩ := hV'
    exact ⟨.d (hg i x v hx (by simpa using hv)), trivial⟩
  refine (callsIn_wide (n := 0)).1 (CallsIn.mono (F := Fence.wide) (h (cellsOfW w) [] (fun _ => none) w args h0) ?_)
  rintro e w' ⟨v, r, hp', rfl, rfl, Φ', B', au', g⟩
  have hv := (g.tm 0 _ v rfl rfl).1
  obtain rfl : v = .bool b := by cases hv with | d q => exact repD_bool q
  exact ⟨rfl, ⟨g.wo.2.1, g.wo.1, g.wo.2.2, g.size, fun k hk => g.keep k hk (by simp [Ctx.at_])⟩⟩

theorem trodAll_back {H : Type} {enc : TypeId × Value → H} {P : Program} (hl : laidOutB P = true) {W W' : World} (hb : Below W.heap.size W W') : ∀ {ts : List TypeId} {vs : List Value} {ds : List (DataW H)} {ps : List MemPlace},
    ts.all (fun t => P.readableRec t && decide (t < P.types.size)) = true → DataW.TrodAll enc P W 0 (fun _ => true) true ts vs ds ps → DataW.TrodAll enc P W' 0 (fun b => decide (b < W.heap.size)) true ts vs ds ps
  | [], vs, ds, ps, _, h => by
    obtain ⟨rfl, rfl, rfl⟩ := trodAll_nil h
    exact trodAll_mk0
  | t :: ts, vs, ds, ps, hr, h => by
    obtain ⟨v, vs', d, ds', p, q, rfl, rfl, rfl, h1, h2⟩ := trodAll_cons h
    simp only [List.all_cons, Bool.and_eq_true, decide_eq_true_eq] at hr
    have hlt : ∀ x ∈ p, x.block < W.heap.size := by obtain ⟨m, hm⟩ := h1; exact DataW.trod_lt m _ _ _ hm
    exact ⟨p, q, Below.trod hl hr.1.1 hr.1.2 h1 hb hlt, trodAll_back hl hb hr.2 h2, rfl⟩

/-- what a row of a law says of its specification -/
def LawSpec (s : ChangeSpec) (n : Nat) : Prop := s.vars = [] ∧ ∀ (H : Type) (ds : List (DataW H)), ds.length = n → s.fn H ds = { results := [.lit (.bool true)], args := ds }

theorem trodAll_length {H : Type} {enc : TypeId × Value → H} {P : Program} {W : World} {b : Nat} {sp : Nat → Bool} {held : Bool} : ∀ {ts : List TypeId} {vs : List Value} {ds : List (DataW H)} {ps : List MemPlace}, DataW.TrodAll enc P W b sp held ts vs ds ps → ds.length = ts.length
  | [], vs, ds, ps, h => by obtain ⟨rfl, rfl, rfl⟩ := trodAll_nil h; rfl
  | t :: ts, vs, ds, ps, h => by
    obtain ⟨v, vs', d, ds', p, q, rfl, rfl, rfl, h1, h2⟩ := trodAll_cons h
    simp [trodAll_length h2]

/-- THE ROW OF A LAW. -/
theorem law_lifted {C : Checked} {os : Os} {f : FuncId} {fn : Func} {s : ChangeSpec} {conds : List PathCond} {H : Type} {enc : TypeId × Value → H} {tb : TypeId} (n : Nat)
    (own : ownKnob C.prog.godebug = none) (started : os.Started) (noInit : C.prog.inits.idxOf? f = none) (hfn : C.prog.funcs[f]? = some fn)
    (witness : ∃ (w : World) (tape : Tape) (i : Input), w.os = os ∧ (w.forCall tape i).Shaped C.prog ∧ i.vars = [] ∧ Input.okWide C.prog (w.forCall tape i) .any w.heap.size f i ∧
      s.pre6 enc C.prog fn conds false (w.forCall tape i).memory i.args ∧ ({} : Assume).holds C.prog (lone (Frame.enter C.prog f i.args .normal) [] (w.forCall tape i)))
    (hplain : fn.params.toList.all (plainTy C.prog n) = true) (hread : fn.params.toList.all (fun t => C.prog.readableRec t && decide (t < C.prog.types.size)) = true) (laid : laidOutB C.prog = true)
    (hret : fn.resultTypes = #[tb]) (htb : C.prog.underlying tb = some .bool) (hs : LawSpec s fn.params.size)
    (pure : ∀ xs, TyAll C.prog n fn.params.toList xs → PCall C.prog f xs (.d (.bool true))) :
    ReturnsInHanded {} C os f .any (s.pre6 enc C.prog fn conds false) (s.post enc C.prog fn false true false false) := by
  refine returnsInHanded_of_change_sized own started noInit hfn witness ?_
  intro W base args ds gs before hval hW _ hsz _
  have hW' := hW
  obtain ⟨p, q, hA, hV, rfl, hfz, hnd⟩ := hW
  rw [hs.1] at hV
  obtain ⟨rfl, rfl⟩ := trodVars_none hV
  have hweights : ∀ y ∈ DataW.weightsEach C.prog fn.params.toList ds, y ≤ reachBytes := by
    intro y hy
    have e1 : s.plain.varTypes C.prog = [] := by unfold DataSpec.varTypes; simp [ChangeSpec.plain, hs.1]
    rw [e1, List.append_nil, List.append_nil] at hsz
    simpa using List.all_eq_true.1 hsz y hy
  obtain ⟨xs, q1, q2⟩ := args_rep hplain (fun j t v ht hv => hval j t v (by simpa using ht) (by simpa using hv)) hA hweights
  refine (law_calls (pure xs q2) q1).mono fun e W' ⟨he, bel⟩ => ?_
  subst he
  have hfn' : s.fn H (ds ++ []) = { results := [.lit (.bool true)], args := ds } := by rw [List.append_nil]; exact hs.2 H ds (by rw [trodAll_length hA]; simp)
  refine ⟨_, rfl, ds, [], _, [], p, [], hW', ?_, ?_, ?_, bel.frame _, fun h => by cases h⟩
  · rw [hfn', hret]
    exact trodAll_mk1 (shut_bool htb _)
  · rw [hfn']; exact trodAll_back laid bel hread hA
  · rw [hs.1, hfn']; rfl

end Go.Idl
end
