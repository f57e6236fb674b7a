/- Regions whose order is drawn, with two variables that are made new behind the free operations: in either order. -/
import Derived.Test.YtkfpaffcglijeaaPart09
set_option linter.all false
namespace Go.Idl

/-- no slot is felt -/
def conf0 (all : List Oper) (o p : Oper) : Prop := (∀ x ∈ opWrites o, x ∉ opUses all p ∧ x ∉ opWrites p) ∧ ∀ x ∈ opWrites p, x ∉ opUses all o
theorem conf0_of {all : List Oper} {o p : Oper} (h : conflictM (maskL (opUses all o)) (maskL (opWrites o)) false (maskL (opUses all p)) (maskL (opWrites p)) false = false) : conf0 all o p := by
  unfold conflictM at h
  simp only [Bool.or_eq_false_iff, Bool.and_eq_false_iff, Bool.not_eq_false', Bool.false_and, and_true] at h
  exact ⟨land_zero2 h.1, land_zero h.2⟩

def alcGo (all : List Oper) (m0 : Nat) : Nat → List Oper → List Seen → List Nat → Bool
  | _, [], _, _ => true
  | i, o :: r, prev, acc => forceN (maskOf o acc) fun mask => forceN (maskL (opUses all o)) fun u => forceN (maskL (opWrites o)) fun w =>
      (o.after.toList.all fun e => !Region.binds .any e || decide (e.on < i)) && checkPrev m0 i mask u w false 0 prev && alcGo all m0 (i + 1) r (prev ++ [⟨u, w, false⟩]) (acc ++ [mask])

theorem alcGo_spec {all : List Oper} {m0 : Nat} : ∀ (rest : List Oper) (i : Nat) (prev : List Seen) (acc : List Nat), alcGo all m0 i rest prev acc = true → rest = all.drop i → acc.length = i → prev = (all.take i).map (fun o => ⟨maskL (opUses all o), maskL (opWrites o), false⟩) →
    ∀ k o, i ≤ k → all[k]? = some o → (∀ e ∈ o.after, Region.binds .any e = true → e.on < k) ∧ ∀ j p, j < k → all[j]? = some p → Nat.testBit ((predsL rest acc).getD k 0) j = true ∨ (k < m0 ∧ conf0 all o p)
  | [], i, prev, acc, _, hr, _, _, k, o, hk, ho => by
    have hlt := (List.getElem?_eq_some_iff.1 ho).1
    have := congrArg List.length hr
    simp at this; omega
  | q :: r, i, prev, acc, h, hr, ha, hp, k, o, hk, ho => by
    simp only [alcGo, forceN_eq, Bool.and_eq_true] at h
    obtain ⟨⟨h1, h2⟩, h3⟩ := h
    have hq : all[i]? = some q := by have := congrArg (·[0]?) hr; simpa using this.symm
    have hil : i < all.length := (List.getElem?_eq_some_iff.1 hq).1
    rcases Nat.lt_or_eq_of_le hk with hlt | rfl
    · have := alcGo_spec r (i + 1) _ _ h3 (by have := congrArg List.tail hr; simpa [List.tail_drop] using this) (by simp [ha]) (by rw [hp, List.take_succ, hq]; simp) k o hlt ho
      simpa only [predsL] using this
    · rw [hq] at ho; injection ho with ho; subst ho
      refine ⟨fun e he hb => ?_, fun j p hj hpj => ?_⟩
      · rw [List.all_eq_true] at h1
        have := h1 e (by simpa using he)
        simpa [hb] using this
      · have hpl : prev[j]? = some ⟨maskL (opUses all p), maskL (opWrites p), false⟩ := by
          rw [hp, List.getElem?_map, List.getElem?_take_of_lt hj, hpj]; rfl
        have := checkPrev_spec h2 j _ hpl
        rw [Nat.zero_add] at this
        have hmask : (predsL (q :: r) acc).getD i 0 = maskOf q acc := by
          unfold predsL
          rw [predsL_get r _ i (by simp [ha]), List.getD, List.getElem?_append_right (by omega)]
          simp [ha]
        rw [hmask]; exact this.imp id fun h => ⟨h.1, conf0_of h.2⟩

section
variable {P : Program} {κ : Ctx} {K : St → Prop}

/-- new variables, one behind the other -/
def pushS : List (Nat × IObj) → St → St
  | [], s => s
  | p :: r, s => pushS r (({ s with hp := s.hp ++ [p.2] } : St).put (some p.1) (.ptr s.hp.length 0))
theorem pushS_snoc : ∀ (ds : List (Nat × IObj)) (p : Nat × IObj) (s : St), pushS (ds ++ [p]) s = (({ (pushS ds s) with hp := (pushS ds s).hp ++ [p.2] } : St).put (some p.1) (.ptr (pushS ds s).hp.length 0))
  | [], _, _ => rfl
  | q :: r, p, s => by
    rw [List.cons_append, pushS, pushS_snoc r p]; rfl
theorem pushS_hp : ∀ (ds : List (Nat × IObj)) (s : St), (pushS ds s).hp = s.hp ++ ds.map (·.2)
  | [], s => by simp [pushS]
  | p :: r, s => by
    rw [pushS, pushS_hp r]; simp [St.put]
theorem pushS_get : ∀ (ds : List (Nat × IObj)) (s : St) (y : Nat), (∀ p ∈ ds, p.1 ≠ y) → (pushS ds s).tm[y]? = s.tm[y]?
  | [], _, _, _ => rfl
  | p :: r, s, y, h => by
    rw [pushS, pushS_get r _ y fun q hq => h q (by simp [hq])]
    simp only [St.put]
    rw [List.getElem?_set_ne (h p (by simp))]
theorem app_pushS {e : Eff} (hp : e.push = none) : ∀ (ds : List (Nat × IObj)) (s : St), (∀ p ∈ e.ws, ∀ q ∈ ds, p.1 ≠ q.1) → e.app (pushS ds s) = pushS ds (e.app s)
  | [], _, _ => rfl
  | q :: r, s, h => by
    rw [pushS, pushS, app_pushS hp r _ fun p hp' q' hq' => h p hp' q' (by simp [hq'])]
    congr 1
    simp [Eff.app, St.put, hp, writeTm_set e.ws s.tm q.1 _ fun p hpm => h p hpm q (by simp)]

section
variable {ops : Array Oper} {m base : Nat} {ox oy : Oper} {X Y : Nat × IObj} {Q : Exit → Act → World → Prop} {es : List Eff} {s : St}

/-- what the test says of the region: n free ones, two that make a variable, the rest -/
structure AlcOK (P : Program) (n : Nat) (ops : Array Oper) (ox oy : Oper) (X Y : Nat × IObj) : Prop where
  lt : ∀ i o, ops[i]? = some o → ∀ e ∈ o.after, Region.binds .any e = true → e.on < i
  all : ∀ i j o p, ops[i]? = some o → ops[j]? = some p → j < i → Nat.testBit ((predsL ops.toList []).getD i 0) j = true ∨ (i < n + 2 ∧ conf0 ops.toList o p)
  hm : n + 2 ≤ ops.size
  hx : ops[n]? = some ox
  hy : ops[n + 1]? = some oy
  gx : ox.guard = none
  gy : oy.guard = none
  sx : ∀ s K, K (pushS [X] s) → stepK P ox [] s K
  sy : ∀ s K, K (pushS [Y] s) → stepK P oy [] s K
  xs : ∀ i o, i < n → ops[i]? = some o → isAlloc o = false ∧ (X.1 ∉ opUses ops.toList o ∧ X.1 ∉ opWrites o) ∧ Y.1 ∉ opUses ops.toList o ∧ Y.1 ∉ opWrites o

structure EffsOK (P : Program) (base n : Nat) (ops : Array Oper) (es : List Eff) (s : St) : Prop where
  len : es.length = n
  hb : base ≤ s.hp.length
  he : ∀ i o, i < n → ops[i]? = some o → ∃ e, es[i]? = some e ∧ (∀ p ∈ e.ws, p.1 ∈ opWrites o) ∧ e.push = none ∧
    ∀ s', Agree ops.toList base o (stL (fun _ => true) 0 (es.take i) s) s' → freeOp P base ops.toList o s' (fun x => x = e.app s')

variable {n : Nat}
theorem EffsOK.hp (hE : EffsOK P base n ops es s) (hm : n + 2 ≤ ops.size) (L : Nat → Bool) : (stL L 0 es s).hp = s.hp := by
  refine stL_hp_none L 0 es s fun k e hk _ => ?_
  have hkm : k < n := by rw [← hE.len]; exact (List.getElem?_eq_some_iff.1 hk).1
  obtain ⟨e', h1, _, h3, _⟩ := hE.he k (ops[k]'(by omega)) hkm (by simp)
  rw [hk] at h1; injection h1 with h1; subst h1; exact h3

theorem alc_agree (hM : AlcOK P n ops ox oy X Y) (hE : EffsOK P base n ops es s) {listed : Array Bool} (hc : ∀ i, listed.getD i false = true → Waits ops listed i) {i : Nat} {o : Oper} (him : i < n) (ho : ops[i]? = some o) (h2 : listed.getD i false = false) (h3 : Waits ops listed i) {s' : St}
    (htm : ∀ y ∈ opUses ops.toList o, s'.tm[y]? = (stL (fun j => listed.getD j false) 0 es s).tm[y]?) (hhp : ∀ id, id < base → s'.hp[id]? = s.hp[id]?) : Agree ops.toList base o (stL (fun _ => true) 0 (es.take i) s) s' := by
  have hm := hM.hm
  have hpre : ∀ j, Nat.testBit ((predsL ops.toList []).getD i 0) j = true → listed.getD j false = true := preds_listed ops.toList [] (by simp) hc (by simp) i h3
  rw [stL_take]
  constructor
  · intro y hy
    rw [htm y hy]
    refine stL_get _ _ y 0 es s s rfl rfl fun k e' hk hw => ?_
    have hkm : k < n := by rw [← hE.len]; exact (List.getElem?_eq_some_iff.1 hk).1
    simp only [Nat.zero_add]
    have hp : ops[k]? = some (ops[k]'(by omega)) := by simp
    obtain ⟨e'', r1, r2, _⟩ := hE.he k _ hkm hp
    rw [hk] at r1; injection r1 with r1; subst r1
    obtain ⟨pr, hpr, hprx⟩ := hw
    have hxw : y ∈ opWrites (ops[k]'(by omega)) := by rw [← hprx]; exact r2 pr hpr
    rcases Nat.lt_trichotomy k i with hlt | rfl | hgt
    · rcases hM.all i k _ _ ho hp hlt with hin | ⟨_, hcf⟩
      · rw [hpre k hin]; simp [hlt]
      · exact absurd hy (hcf.2 y hxw)
    · rw [h2]; simp
    · have : listed.getD k false = false := by
        by_cases hl : listed.getD k false = true
        · rcases hM.all k i _ _ hp ho hgt with hin | ⟨_, hcf⟩
          · have := preds_listed ops.toList [] (by simp) hc (by simp) k (hc k hl) i hin
            rw [h2] at this; cases this
          · exact absurd hy (hcf.1 y hxw).1
        · simpa using hl
      rw [this]; simp; omega
  · intro id hid
    obtain ⟨t, e⟩ := stL_hp (fun j => decide (j < 0 + i)) 0 es s
    rw [e, hhp id hid, List.getElem?_append_left (by have := hE.hb; omega)]
  · intro hal
    rw [(hM.xs i o him ho).1] at hal; cases hal

theorem alc_insert (hM : AlcOK P n ops ox oy X Y) (hE : EffsOK P base n ops es s) {listed : Array Bool} (hs : listed.size = ops.size) (hc : ∀ i, listed.getD i false = true → Waits ops listed i) {i : Nat} {o : Oper} {e : Eff} (him : i < n) (ho : ops[i]? = some o) (he : es[i]? = some e) (hw : ∀ p ∈ e.ws, p.1 ∈ opWrites o) (h2 : listed.getD i false = false) (h3 : Waits ops listed i) :
    e.app (stL (fun j => listed.getD j false) 0 es s) = stL (fun j => (listed.setIfInBounds i true).getD j false) 0 es s := by
  have hm := hM.hm
  have hil : i < listed.size := by omega
  rw [stL_insert (fun j => listed.getD j false) i e 0 es s (fun _ _ _ => trivial) (Nat.zero_le _) (by simpa using he) h2 ?_]
  · rw [show (fun j => (listed.setIfInBounds i true).getD j false) = fun j => listed.getD j false || j == i from funext fun j => getD_set _ _ _ hil]
  · intro k f hf' hik hl
    simp only [Nat.zero_add] at hik hl
    have hkm : k < n := by rw [← hE.len]; exact (List.getElem?_eq_some_iff.1 hf').1
    have hp : ops[k]? = some (ops[k]'(by omega)) := by simp
    obtain ⟨e'', r1, r2, r3, _⟩ := hE.he k _ hkm hp
    rw [hf'] at r1; injection r1 with r1; subst r1
    rcases hM.all k i _ _ hp ho hik with hin | ⟨_, hcf⟩
    · have := preds_listed ops.toList [] (by simp) hc (by simp) k (hc k hl) i hin
      rw [h2] at this; cases this
    · exact ⟨fun p hp' q hq hpq => absurd (hw p hp') (hcf.1 _ (hpq ▸ r2 q hq)).2, .inr r3⟩

/-- what of the two is made -/
def Made (n : Nat) (X Y : Nat × IObj) (listed : Array Bool) (ds : List (Nat × IObj)) : Prop :=
  (listed.getD n false = false ∧ listed.getD (n + 1) false = false ∧ ds = []) ∨ (listed.getD n false = true ∧ listed.getD (n + 1) false = false ∧ ds = [X]) ∨
  (listed.getD n false = false ∧ listed.getD (n + 1) false = true ∧ ds = [Y]) ∨ (listed.getD n false = true ∧ listed.getD (n + 1) false = true ∧ (ds = [X, Y] ∨ ds = [Y, X]))
theorem Made.sub {listed : Array Bool} {ds : List (Nat × IObj)} (h : Made n X Y listed ds) : ∀ p ∈ ds, p = X ∨ p = Y := by
  rcases h with ⟨_, _, rfl⟩ | ⟨_, _, rfl⟩ | ⟨_, _, rfl⟩ | ⟨_, _, rfl | rfl⟩ <;> simp

theorem alc_run (hM : AlcOK P n ops ox oy X Y) (hE : EffsOK P base n ops es s) (hxy : K (pushS [X, Y] (stL (fun _ => true) 0 es s))) (hyx : K (pushS [Y, X] (stL (fun _ => true) 0 es s)))
    (hfin : ∀ (listed : Array Bool) s' a' w', listed.size = ops.size → (∀ j, listed.getD j false = decide (j < n + 2)) → (∀ i, listed.getD i false = true → Waits ops listed i) → K s' → Rel κ s' a' w' → wpAnyIn κ.F 0 P .any ops Q (ops.size - (n + 2)) listed a' w') :
    ∀ (fuel : Nat) (listed : Array Bool) (ds : List (Nat × IObj)) (a : Act) (w : World), listed.toList.count false = fuel → listed.size = ops.size → (∀ i, listed.getD i false = true → i < n + 2) → (∀ i, listed.getD i false = true → Waits ops listed i) → Made n X Y listed ds →
    Rel κ (pushS ds (stL (fun j => listed.getD j false) 0 es s)) a w → wpAnyIn κ.F 0 P .any ops Q fuel listed a w := by
  have hm := hM.hm
  intro fuel
  induction fuel with
  | zero =>
    intro listed ds a w hf hs hlt hc hmd h
    have hall : ∀ i, i < ops.size → listed.getD i false = true := fun i hi => by
      by_cases e : listed.getD i false = true
      · exact e
      · exfalso
        have e' : listed[i]'(by omega) = false := by simpa [Array.getD, show i < listed.size by omega] using e
        have : 0 < listed.toList.count false := List.count_pos_iff.2 (by rw [← e']; simp)
        omega
    have hms : ops.size = n + 2 := by
      rcases Nat.lt_or_ge (n + 2) ops.size with h1 | h1
      · have := hlt (n + 2) (hall (n + 2) h1); omega
      · omega
    have hK : K (pushS ds (stL (fun j => listed.getD j false) 0 es s)) := by
      rw [stL_congr _ (fun _ => true) 0 es s fun k hk => by simpa using hall k (by have := hE.len; omega)]
      have q1 := hall n (by omega)
      have q2 := hall (n + 1) (by omega)
      rcases hmd with ⟨k1, _⟩ | ⟨_, k1, _⟩ | ⟨k1, _⟩ | ⟨_, _, rfl | rfl⟩
      · rw [q1] at k1; cases k1
      · rw [q2] at k1; cases k1
      · rw [q1] at k1; cases k1
      · exact hxy
      · exact hyx
    have := hfin listed _ a w hs (fun j => by
      by_cases e : j < n + 2
      · rw [hall j (by omega)]; simp [e]
      · have : ¬ listed.getD j false = true := fun hh => e (hlt j hh)
        simp [e]; simpa using this) hc hK h
    rwa [hms, Nat.sub_self] at this
  | succ fuel ih =>
    intro listed ds a w hf hs hlt hc hmd h
    by_cases hfi : ∀ i, i < n + 2 → listed.getD i false = true
    · have hlm : ∀ j, listed.getD j false = decide (j < n + 2) := fun j => by
        by_cases e : j < n + 2
        · rw [hfi j e]; simp [e]
        · have : ¬ listed.getD j false = true := fun hh => e (hlt j hh)
          simp [e]; simpa using this
      have hcnt := count_prefix hlm (by omega)
      rw [hf, hs] at hcnt
      have hK : K (pushS ds (stL (fun j => listed.getD j false) 0 es s)) := by
        rw [stL_congr _ (fun _ => true) 0 es s fun k hk => by simpa using hfi k (by have := hE.len; omega)]
        have q1 := hfi n (by omega)
        have q2 := hfi (n + 1) (by omega)
        rcases hmd with ⟨k1, _⟩ | ⟨_, k1, _⟩ | ⟨k1, _⟩ | ⟨_, _, rfl | rfl⟩
        · rw [q1] at k1; cases k1
        · rw [q2] at k1; cases k1
        · rw [q1] at k1; cases k1
        · exact hxy
        · exact hyx
      have := hfin listed _ a w hs hlm hc hK h
      rwa [show ops.size - (n + 2) = fuel + 1 by omega] at this
    · have hnil : Region.ready .any ops listed = [] → ∀ i, i < ops.size → listed.getD i false = true := fun hn i => by
        induction i using Nat.strongRecOn with
        | ind i ih =>
          intro hi
          refine Classical.byContradiction fun hno => ?_
          have : i ∈ Region.ready .any ops listed := (ready_iff hs).2 ⟨hi, by simpa using hno, fun o ho e he hb => by
            have := hM.lt i o ho e he hb
            exact ih e.on this (by omega)⟩
          rw [hn] at this; cases this
      refine ⟨fun hn => absurd (fun i hi => hnil hn i (by omega)) hfi, fun i hi => ?_⟩
      obtain ⟨h1, h2, h3⟩ := (ready_iff hs).1 hi
      have ho : ops[i]? = some ops[i] := by simp [h1]
      have him : i < n + 2 := by
        rcases Nat.lt_or_ge i (n + 2) with h' | h'
        · exact h'
        · exfalso
          refine hfi fun j hj => ?_
          rcases hM.all i j ops[i] (ops[j]'(by omega)) (by simp) (by simp) (by omega) with hin | ⟨hlm, _⟩
          · exact preds_listed ops.toList [] (by simp) hc (by simp) i h3 j hin
          · omega
      have hset := fun j => getD_set listed i j (by omega)
      have hcount : (listed.setIfInBounds i true).toList.count false = fuel := by
        have := count_set (l := listed) (i := i) (by omega) h2; omega
      have hlt' : ∀ j, (listed.setIfInBounds i true).getD j false = true → j < n + 2 := fun j hj => by
        rw [hset] at hj
        simp only [Bool.or_eq_true, beq_iff_eq] at hj
        rcases hj with hj | rfl
        · exact hlt j hj
        · exact him
      rcases Nat.lt_or_ge i n with hin | hin
      · -- a free one
        obtain ⟨e, q1, q2, q3, q4⟩ := hE.he i _ hin ho
        obtain ⟨x1, x2, x3⟩ := hM.xs i _ hin ho
        have hno : ∀ y, (y ∈ opUses ops.toList ops[i] ∨ y ∈ opWrites ops[i]) → ∀ p ∈ ds, p.1 ≠ y := fun y hy p hp e => by
          subst e
          rcases hmd.sub p hp with rfl | rfl
          · rcases hy with hy | hy
            · exact x2.1 hy
            · exact x2.2 hy
          · rcases hy with hy | hy
            · exact x3.1 hy
            · exact x3.2 hy
        have hag := alc_agree hM hE hc hin ho h2 h3 (s' := pushS ds (stL (fun j => listed.getD j false) 0 es s)) (fun y hy => pushS_get ds _ y (hno y (.inl hy))) fun id hid => by
          rw [pushS_hp, hE.hp hm, List.getElem?_append_left (by have := hE.hb; omega)]
        refine freeOp_sound h ho (q4 _ hag) fun s' a' w' hs' hr' => ?_
        subst hs'
        rw [app_pushS q3 ds _ (fun p hp q hq e => hno p.1 (.inr (q2 p hp)) q hq e.symm), alc_insert hM hE hs hc hin ho q1 q2 h2 h3] at hr'
        refine ih _ ds a' w' hcount (by simpa using hs) hlt' (waits_set (by omega) h3 hc) ?_ hr'
        unfold Made at hmd ⊢
        rw [hset, hset]
        have n1 : (n == i) = false := by simp; omega
        have n2 : (n + 1 == i) = false := by simp; omega
        rw [n1, n2, Bool.or_false, Bool.or_false]; exact hmd
      · -- one of the two
        have hsame : stL (fun j => (listed.setIfInBounds i true).getD j false) 0 es s = stL (fun j => listed.getD j false) 0 es s := by
          refine stL_congr _ _ 0 es s fun k hk => ?_
          have hkn : k < n := by have := hE.len; omega
          simp only [Nat.zero_add]
          rw [hset]
          have : (k == i) = false := by simp; omega
          rw [this, Bool.or_false]
        have hi2 : i = n ∨ i = n + 1 := by omega
        rcases hi2 with rfl | rfl
        · have hox : ops[i] = ox := by have := hM.hx; rw [ho] at this; injection this
          refine restOp_sound (rest := []) (K := fun s' => s' = pushS [X] (pushS ds (stL (fun j => listed.getD j false) 0 es s))) h hM.hx (by simp only [opsK, hM.gx]; exact hM.sx _ _ rfl) fun s' a' w' k1 k2 => ?_
          simp only [opsK] at k1
          subst k1
          have e1 : pushS [X] (pushS ds (stL (fun j => listed.getD j false) 0 es s)) = pushS (ds ++ [X]) (stL (fun j => (listed.setIfInBounds i true).getD j false) 0 es s) := by
            rw [hsame, pushS_snoc]; rfl
          rw [e1] at k2
          refine ih _ (ds ++ [X]) a' w' hcount (by simpa using hs) hlt' (waits_set (by omega) h3 hc) ?_ k2
          unfold Made at hmd ⊢
          rw [hset, hset]
          have n2 : (i + 1 == i) = false := by simp
          simp only [BEq.rfl, n2, Bool.or_true, Bool.or_false]
          rcases hmd with ⟨_, m2, rfl⟩ | ⟨m1, _⟩ | ⟨_, m2, rfl⟩ | ⟨m1, _⟩
          · exact .inr (.inl ⟨trivial, m2, rfl⟩)
          · rw [h2] at m1; cases m1
          · exact .inr (.inr (.inr ⟨trivial, m2, .inr rfl⟩))
          · rw [h2] at m1; cases m1
        · have hoy : ops[n + 1] = oy := by have := hM.hy; rw [ho] at this; injection this
          refine restOp_sound (rest := []) (K := fun s' => s' = pushS [Y] (pushS ds (stL (fun j => listed.getD j false) 0 es s))) h hM.hy (by simp only [opsK, hM.gy]; exact hM.sy _ _ rfl) fun s' a' w' k1 k2 => ?_
          simp only [opsK] at k1
          subst k1
          have e1 : pushS [Y] (pushS ds (stL (fun j => listed.getD j false) 0 es s)) = pushS (ds ++ [Y]) (stL (fun j => (listed.setIfInBounds (n + 1) true).getD j false) 0 es s) := by
            rw [hsame, pushS_snoc]; rfl
          rw [e1] at k2
          refine ih _ (ds ++ [Y]) a' w' hcount (by simpa using hs) hlt' (waits_set (by omega) h3 hc) ?_ k2
          unfold Made at hmd ⊢
          rw [hset, hset]
          have n2 : (n == n + 1) = false := by simp
          simp only [BEq.rfl, n2, Bool.or_true, Bool.or_false]
          rcases hmd with ⟨m1, _, rfl⟩ | ⟨m1, _, rfl⟩ | ⟨_, m2, _⟩ | ⟨_, m2, _⟩
          · exact .inr (.inr (.inl ⟨m1, trivial, rfl⟩))
          · exact .inr (.inr (.inr ⟨m1, trivial, .inl rfl⟩))
          · rw [h2] at m2; cases m2
          · rw [h2] at m2; cases m2

/-- THE LAW OF A DRAWN REGION with two variables that are made new. -/
theorem alc_sem {κ : Ctx} {a : Act} {w : World} (hM : AlcOK P n ops ox oy X Y)
    (hk : freeK P s.hp.length ops.toList (ops.toList.take n) s fun s' => K (pushS [X, Y] s') ∧ K (pushS [Y, X] s')) (hr : Rel κ s a w)
    (hfin : ∀ (listed : Array Bool) s' a' w', listed.size = ops.size → (∀ j, listed.getD j false = decide (j < n + 2)) → (∀ i, listed.getD i false = true → Waits ops listed i) → K s' → Rel κ s' a' w' → wpAnyIn κ.F 0 P .any ops Q (ops.size - (n + 2)) listed a' w') :
    wpAnyIn κ.F 0 P .any ops Q ops.size (Array.replicate ops.size false) a w := by
  have hm := hM.hm
  obtain ⟨es, h1, ⟨h2, h2'⟩, h3⟩ := free_effs (base := s.hp.length) (all := ops.toList) (Nat.le_refl _) (ops.toList.take n) s (Nat.le_refl _) hk
  have hE : EffsOK P s.hp.length n ops es s := by
    refine ⟨by rw [h1]; simp; omega, Nat.le_refl _, fun i o him ho => ?_⟩
    obtain ⟨e, q1, q2, q3, q4⟩ := h3 i o (by rw [List.getElem?_take_of_lt him]; simpa using ho)
    exact ⟨e, q1, q2, q3 (hM.xs i o him ho).1, q4⟩
  refine alc_run hM hE h2 h2' hfin ops.size _ [] a w (by simp) (by simp) (fun i hi => by simp [Array.getD] at hi) (fun i hi => by simp [Array.getD] at hi) (.inl ⟨by simp [Array.getD], by simp [Array.getD], rfl⟩) ?_
  have e0 : stL (fun j => (Array.replicate ops.size false).getD j false) 0 es s = s := by
    have : ∀ (es : List Eff) (i : Nat) (s : St), stL (fun _ => false) i es s = s := by
      intro es
      induction es with
      | nil => intros; rfl
      | cons e es ih => intro i s; simp only [stL, Bool.false_eq_true, if_false]; exact ih _ _
    rw [show (fun j => (Array.replicate ops.size false).getD j false) = fun _ => false from funext fun j => by simp [Array.getD]]
    exact this es 0 s
  rw [e0]; exact hr
end
end
/-! ### Free operations, and behind them the others in each order that may be; variables may be made ahead of their time -/
def isAllocB (o : Oper) : Bool := o.guard.isNone && o.dst.isSome && (match o.op with | .alloc _ => true | _ => false)
def checkPrevX (m0 i mask u w : Nat) (al : Bool) : Nat → List Seen → Bool
  | _, [] => true
  | j, p :: r => (Nat.testBit mask j || ((decide (i < m0) || al) && !conflictM u w false p.u p.w false) || decide (m0 ≤ j)) && checkPrevX m0 i mask u w al (j + 1) r
def alxGo (all : List Oper) (m0 : Nat) : Nat → List Oper → List Seen → List Nat → Bool
  | _, [], _, _ => true
  | i, o :: r, prev, acc => forceN (maskOf o acc) fun mask => forceN (maskL (opUses all o)) fun u => forceN (maskL (opWrites o)) fun w =>
      (o.after.toList.all fun e => !Region.binds .any e || decide (e.on < i)) && checkPrevX m0 i mask u w (isAllocB o) 0 prev && (!decide (i < m0) || !isAlloc o) && alxGo all m0 (i + 1) r (prev ++ [⟨u, w, false⟩]) (acc ++ [mask])
theorem checkPrevX_spec {m0 i mask u w : Nat} {al : Bool} : ∀ {l : List Seen} {j : Nat}, checkPrevX m0 i mask u w al j l = true → ∀ k p, l[k]? = some p → Nat.testBit mask (j + k) = true ∨ ((i < m0 ∨ al = true) ∧ conflictM u w false p.u p.w false = false) ∨ m0 ≤ j + k
  | [], _, _, k, p, hp => by simp at hp
  | q :: r, j, h, k, p, hp => by
    simp only [checkPrevX, Bool.and_eq_true, Bool.or_eq_true, decide_eq_true_eq, Bool.not_eq_true'] at h
    cases k with
    | zero => simp at hp; subst hp; rcases h.1 with (h | h) | h
              · exact .inl h
              · exact .inr (.inl h)
              · exact .inr (.inr h)
    | succ k =>
      have := checkPrevX_spec h.2 k p (by simpa using hp)
      rw [show j + (k + 1) = j + 1 + k by omega]; exact this
theorem alxGo_spec {all : List Oper} {m0 : Nat} : ∀ (rest : List Oper) (i : Nat) (prev : List Seen) (acc : List Nat), alxGo all m0 i rest prev acc = true → rest = all.drop i → acc.length = i → prev = (all.take i).map (fun o => ⟨maskL (opUses all o), maskL (opWrites o), false⟩) →
    ∀ k o, i ≤ k → all[k]? = some o → (∀ e ∈ o.after, Region.binds .any e = true → e.on < k) ∧ (k < m0 → isAlloc o = false) ∧ ∀ j p, j < k → all[j]? = some p → Nat.testBit ((predsL rest acc).getD k 0) j = true ∨ ((k < m0 ∨ isAllocB o = true) ∧ conf0 all o p) ∨ m0 ≤ j
  | [], i, prev, acc, _, hr, _, _, k, o, hk, ho => by
    have hlt := (List.getElem?_eq_some_iff.1 ho).1
    have := congrArg List.length hr
    simp at this; omega
  | q :: r, i, prev, acc, h, hr, ha, hp, k, o, hk, ho => by
    simp only [alxGo, forceN_eq, Bool.and_eq_true] at h
    obtain ⟨⟨⟨h1, h2⟩, h4⟩, h3⟩ := h
    have hq : all[i]? = some q := by have := congrArg (·[0]?) hr; simpa using this.symm
    have hil : i < all.length := (List.getElem?_eq_some_iff.1 hq).1
    rcases Nat.lt_or_eq_of_le hk with hlt | rfl
    · have := alxGo_spec r (i + 1) _ _ h3 (by have := congrArg List.tail hr; simpa [List.tail_drop] using this) (by simp [ha]) (by rw [hp, List.take_succ, hq]; simp) k o hlt ho
      simpa only [predsL] using this
    · rw [hq] at ho; injection ho with ho; subst ho
      refine ⟨fun e he hb => ?_, fun hi => by simpa [hi] using h4, fun j p hj hpj => ?_⟩
      · rw [List.all_eq_true] at h1
        have := h1 e (by simpa using he)
        simpa [hb] using this
      · have hpl : prev[j]? = some ⟨maskL (opUses all p), maskL (opWrites p), false⟩ := by
          rw [hp, List.getElem?_map, List.getElem?_take_of_lt hj, hpj]; rfl
        have := checkPrevX_spec h2 j _ hpl
        rw [Nat.zero_add] at this
        have hmask : (predsL (q :: r) acc).getD i 0 = maskOf q acc := by
          unfold predsL
          rw [predsL_get r _ i (by simp [ha]), List.getD, List.getElem?_append_right (by omega)]
          simp [ha]
        rw [hmask]; exact this.imp id fun h => h.imp (fun h => ⟨h.1, conf0_of h.2⟩) id

section
variable {P : Program} {κ : Ctx}
variable {ops : Array Oper} {n base : Nat} {Q : Exit → Act → World → Prop} {es : List Eff} {s : St}

/-- what is made by an operation that makes a variable -/
def madeBy (P : Program) (o : Oper) : Nat × IObj := (o.dst.getD 0, .var (match o.op with | .alloc u => (zeroVs P u).getD [] | _ => []))
def madeAt (P : Program) (ops : Array Oper) (i : Nat) : Nat × IObj := match ops[i]? with | some o => madeBy P o | none => (0, .var [])
theorem madeAt_eq {i : Nat} {o : Oper} (h : ops[i]? = some o) : madeAt P ops i = madeBy P o := by unfold madeAt; rw [h]

structure AlxOK (P : Program) (n : Nat) (ops : Array Oper) : Prop where
  lt : ∀ i o, ops[i]? = some o → ∀ e ∈ o.after, Region.binds .any e = true → e.on < i
  na : ∀ i o, i < n → ops[i]? = some o → isAlloc o = false
  all : ∀ i j o p, ops[i]? = some o → ops[j]? = some p → j < i → j < n → Nat.testBit ((predsL ops.toList []).getD i 0) j = true ∨ ((i < n ∨ isAllocB o = true) ∧ conf0 ops.toList o p)
  hm : n ≤ ops.size

theorem alxE_hp (hE : EffsOK P base n ops es s) (hm : n ≤ ops.size) (L : Nat → Bool) : (stL L 0 es s).hp = s.hp := by
  refine stL_hp_none L 0 es s fun k e hk _ => ?_
  have hkm : k < n := by rw [← hE.len]; exact (List.getElem?_eq_some_iff.1 hk).1
  obtain ⟨e', h1, _, h3, _⟩ := hE.he k (ops[k]'(by omega)) hkm (by simp)
  rw [hk] at h1; injection h1 with h1; subst h1; exact h3

theorem alx_agree (hM : AlxOK P n ops) (hE : EffsOK P base n ops es s) {listed : Array Bool} (hc : ∀ i, listed.getD i false = true → Waits ops listed i) {i : Nat} {o : Oper} (him : i < n) (ho : ops[i]? = some o) (h2 : listed.getD i false = false) (h3 : Waits ops listed i) {s' : St}
    (htm : ∀ y ∈ opUses ops.toList o, s'.tm[y]? = (stL (fun j => listed.getD j false) 0 es s).tm[y]?) (hhp : ∀ id, id < base → s'.hp[id]? = s.hp[id]?) : Agree ops.toList base o (stL (fun _ => true) 0 (es.take i) s) s' := by
  have hm := hM.hm
  have hpre : ∀ j, Nat.testBit ((predsL ops.toList []).getD i 0) j = true → listed.getD j false = true := preds_listed ops.toList [] (by simp) hc (by simp) i h3
  rw [stL_take]
  constructor
  · intro y hy
    rw [htm y hy]
    refine stL_get _ _ y 0 es s s rfl rfl fun k e' hk hw => ?_
    have hkm : k < n := by rw [← hE.len]; exact (List.getElem?_eq_some_iff.1 hk).1
    simp only [Nat.zero_add]
    have hp : ops[k]? = some (ops[k]'(by omega)) := by simp
    obtain ⟨e'', r1, r2, _⟩ := hE.he k _ hkm hp
    rw [hk] at r1; injection r1 with r1; subst r1
    obtain ⟨pr, hpr, hprx⟩ := hw
    have hxw : y ∈ opWrites (ops[k]'(by omega)) := by rw [← hprx]; exact r2 pr hpr
    rcases Nat.lt_trichotomy k i with hlt | rfl | hgt
    · rcases hM.all i k _ _ ho hp hlt hkm with hin | ⟨_, hcf⟩
      · rw [hpre k hin]; simp [hlt]
      · exact absurd hy (hcf.2 y hxw)
    · rw [h2]; simp
    · have : listed.getD k false = false := by
        by_cases hl : listed.getD k false = true
        · rcases hM.all k i _ _ hp ho hgt him with hin | ⟨_, hcf⟩
          · have := preds_listed ops.toList [] (by simp) hc (by simp) k (hc k hl) i hin
            rw [h2] at this; cases this
          · exact absurd hy (hcf.1 y hxw).1
        · simpa using hl
      rw [this]; simp; omega
  · intro id hid
    obtain ⟨t, e⟩ := stL_hp (fun j => decide (j < 0 + i)) 0 es s
    rw [e, hhp id hid, List.getElem?_append_left (by have := hE.hb; omega)]
  · intro hal
    rw [hM.na i o him ho] at hal; cases hal

theorem alx_insert (hM : AlxOK P n ops) (hE : EffsOK P base n ops es s) {listed : Array Bool} (hs : listed.size = ops.size) (hc : ∀ i, listed.getD i false = true → Waits ops listed i) {i : Nat} {o : Oper} {e : Eff} (him : i < n) (ho : ops[i]? = some o) (he : es[i]? = some e) (hw : ∀ p ∈ e.ws, p.1 ∈ opWrites o) (h2 : listed.getD i false = false) (h3 : Waits ops listed i) :
    e.app (stL (fun j => listed.getD j false) 0 es s) = stL (fun j => (listed.setIfInBounds i true).getD j false) 0 es s := by
  have hm := hM.hm
  have hil : i < listed.size := by omega
  rw [stL_insert (fun j => listed.getD j false) i e 0 es s (fun _ _ _ => trivial) (Nat.zero_le _) (by simpa using he) h2 ?_]
  · rw [show (fun j => (listed.setIfInBounds i true).getD j false) = fun j => listed.getD j false || j == i from funext fun j => getD_set _ _ _ hil]
  · intro k f hf' hik hl
    simp only [Nat.zero_add] at hik hl
    have hkm : k < n := by rw [← hE.len]; exact (List.getElem?_eq_some_iff.1 hf').1
    have hp : ops[k]? = some (ops[k]'(by omega)) := by simp
    obtain ⟨e'', r1, r2, r3, _⟩ := hE.he k _ hkm hp
    rw [hf'] at r1; injection r1 with r1; subst r1
    rcases hM.all k i _ _ hp ho hik him with hin | ⟨_, hcf⟩
    · have := preds_listed ops.toList [] (by simp) hc (by simp) k (hc k hl) i hin
      rw [h2] at this; cases this
    · exact ⟨fun p hp' q hq hpq => absurd (hw p hp') (hcf.1 _ (hpq ▸ r2 q hq)).2, .inr r3⟩

theorem alx_run (hM : AlxOK P n ops) (hE : EffsOK P base n ops es s) {V : List Nat → Prop}
    (hstep : ∀ ds i o, V ds → n ≤ i → ops[i]? = some o → isAllocB o = true → i ∉ ds → (∀ e ∈ o.after, Region.binds .any e = true → e.on < n ∨ e.on ∈ ds) → (∃ u cs, o.op = .alloc u ∧ zeroVs P u = some cs) ∧ V (i :: ds))
    (hfin : ∀ (fuel : Nat) (listed : Array Bool) (ds : List Nat) a' w', listed.toList.count false = fuel → listed.size = ops.size → (∀ j, listed.getD j false = (decide (j < n) || ds.contains j)) → (∀ i, listed.getD i false = true → Waits ops listed i) → ds.Nodup → (∀ d ∈ ds, n ≤ d ∧ d < ops.size) → V ds →
      Rel κ (pushS (ds.reverse.map (madeAt P ops)) (stL (fun _ => true) 0 es s)) a' w' → wpAnyIn κ.F 0 P .any ops Q fuel listed a' w') :
    ∀ (fuel : Nat) (listed : Array Bool) (ds : List Nat) (a : Act) (w : World), listed.toList.count false = fuel → listed.size = ops.size → (∀ i, n ≤ i → listed.getD i false = ds.contains i) → (∀ d ∈ ds, n ≤ d ∧ d < ops.size ∧ ∃ o, ops[d]? = some o ∧ isAllocB o = true) → ds.Nodup → (∀ i, listed.getD i false = true → Waits ops listed i) → V ds →
    Rel κ (pushS (ds.reverse.map (madeAt P ops)) (stL (fun j => listed.getD j false) 0 es s)) a w → wpAnyIn κ.F 0 P .any ops Q fuel listed a w := by
  have hm := hM.hm
  have hdone : ∀ (fuel : Nat) (listed : Array Bool) (ds : List Nat) (a : Act) (w : World), listed.toList.count false = fuel → listed.size = ops.size → (∀ i, n ≤ i → listed.getD i false = ds.contains i) → (∀ d ∈ ds, n ≤ d ∧ d < ops.size ∧ ∃ o, ops[d]? = some o ∧ isAllocB o = true) → ds.Nodup → (∀ i, listed.getD i false = true → Waits ops listed i) → V ds →
      Rel κ (pushS (ds.reverse.map (madeAt P ops)) (stL (fun j => listed.getD j false) 0 es s)) a w → (∀ i, i < n → listed.getD i false = true) → wpAnyIn κ.F 0 P .any ops Q fuel listed a w := by
    intro fuel listed ds a w hf hs hld hds hnd hc hv h hfi
    rw [stL_congr _ (fun _ => true) 0 es s fun k hk => by simpa using hfi k (by have := hE.len; omega)] at h
    refine hfin fuel listed ds a w hf hs (fun j => ?_) hc hnd (fun d hd => ⟨(hds d hd).1, (hds d hd).2.1⟩) hv h
    by_cases e : j < n
    · rw [hfi j e]; simp [e]
    · rw [hld j (by omega)]; simp [e]
  intro fuel
  induction fuel with
  | zero =>
    intro listed ds a w hf hs hld hds hnd hc hv h
    refine hdone 0 listed ds a w hf hs hld hds hnd hc hv h fun i hi => ?_
    by_cases e : listed.getD i false = true
    · exact e
    · exfalso
      have e' : listed[i]'(by omega) = false := by simpa [Array.getD, show i < listed.size by omega] using e
      have : 0 < listed.toList.count false := List.count_pos_iff.2 (by rw [← e']; simp)
      omega
  | succ fuel ih =>
    intro listed ds a w hf hs hld hds hnd hc hv h
    by_cases hfi : ∀ i, i < n → listed.getD i false = true
    · exact hdone _ listed ds a w hf hs hld hds hnd hc hv h hfi
    have hnil : Region.ready .any ops listed = [] → ∀ i, i < ops.size → listed.getD i false = true := fun hn i => by
      induction i using Nat.strongRecOn with
      | ind i ih =>
        intro hi
        refine Classical.byContradiction fun hno => ?_
        have : i ∈ Region.ready .any ops listed := (ready_iff hs).2 ⟨hi, by simpa using hno, fun o ho e he hb => by
          have := hM.lt i o ho e he hb
          exact ih e.on this (by omega)⟩
        rw [hn] at this; cases this
    refine ⟨fun hn => absurd (fun i hi => hnil hn i (by omega)) hfi, fun i hi => ?_⟩
    obtain ⟨h1, h2, h3⟩ := (ready_iff hs).1 hi
    have ho : ops[i]? = some ops[i] := by simp [h1]
    have hset := fun j => getD_set listed i j (by omega)
    have hcount : (listed.setIfInBounds i true).toList.count false = fuel := by
      have := count_set (l := listed) (i := i) (by omega) h2; omega
    rcases Nat.lt_or_ge i n with hin | hin
    · obtain ⟨e, q1, q2, q3, q4⟩ := hE.he i _ hin ho
      have hno : ∀ y, (y ∈ opUses ops.toList ops[i] ∨ y ∈ opWrites ops[i]) → ∀ p ∈ ds.reverse.map (madeAt P ops), p.1 ≠ y := fun y hy p hp e => by
        obtain ⟨d, hd, rfl⟩ := List.mem_map.1 hp
        rw [List.mem_reverse] at hd
        obtain ⟨k1, k2, o, k3, k4⟩ := hds d hd
        rw [madeAt_eq k3] at e
        have hw : y ∈ opWrites o := by
          unfold isAllocB at k4
          simp only [Bool.and_eq_true, Option.isSome_iff_exists] at k4
          obtain ⟨⟨_, d', hd'⟩, _⟩ := k4
          simp only [madeBy, hd', Option.getD_some] at e
          subst e
          exact List.mem_append_left _ (by simp [hd'])
        have hdl : listed.getD d false = true := by rw [hld d k1]; simpa using hd
        rcases hM.all d i _ _ k3 ho (by omega) hin with hin2 | ⟨_, hcf⟩
        · have := preds_listed ops.toList [] (by simp) hc (by simp) d (hc d hdl) i hin2
          rw [h2] at this; cases this
        · rcases hy with hy | hy
          · exact (hcf.1 y hw).1 hy
          · exact (hcf.1 y hw).2 hy
      have hag := alx_agree hM hE hc hin ho h2 h3 (s' := pushS (ds.reverse.map (madeAt P ops)) (stL (fun j => listed.getD j false) 0 es s)) (fun y hy => pushS_get _ _ y (hno y (.inl hy))) fun id hid => by
        rw [pushS_hp, alxE_hp hE hm, List.getElem?_append_left (by have := hE.hb; omega)]
      refine freeOp_sound h ho (q4 _ hag) fun s' a' w' hs' hr' => ?_
      subst hs'
      rw [app_pushS q3 _ _ (fun p hp q hq e => hno p.1 (.inr (q2 p hp)) q hq e.symm), alx_insert hM hE hs hc hin ho q1 q2 h2 h3] at hr'
      refine ih _ ds a' w' hcount (by simpa using hs) (fun k hk => ?_) hds hnd (waits_set (by omega) h3 hc) hv hr'
      rw [hset, hld k hk]
      have : (k == i) = false := by simp; omega
      rw [this, Bool.or_false]
    · have hal : isAllocB ops[i] = true := by
        obtain ⟨j, hj⟩ := Classical.not_forall.1 hfi
        obtain ⟨hj, hjl⟩ := Classical.not_imp.1 hj
        rcases hM.all i j ops[i] (ops[j]'(by omega)) ho (by simp) (by omega) hj with hin2 | ⟨hh, _⟩
        · exact absurd (preds_listed ops.toList [] (by simp) hc (by simp) i h3 j hin2) hjl
        · rcases hh with hh | hh
          · omega
          · exact hh
      have hnd2 : i ∉ ds := fun hh => by
        rw [hld i hin] at h2
        simp [hh] at h2
      obtain ⟨⟨u, cs, hop, hz⟩, hv'⟩ := hstep ds i _ hv hin ho hal hnd2 (fun e he hb => by
        have hl := h3 _ ho e he hb
        rcases Nat.lt_or_ge e.on n with k | k
        · exact .inl k
        · rw [hld _ k] at hl
          exact .inr (by simpa using hl))
      have hal' := hal
      unfold isAllocB at hal'
      simp only [Bool.and_eq_true, Option.isSome_iff_exists, Option.isNone_iff_eq_none] at hal'
      obtain ⟨⟨hg, d', hd'⟩, _⟩ := hal'
      have hst : stepK P ops[i] [] (pushS (ds.reverse.map (madeAt P ops)) (stL (fun j => listed.getD j false) 0 es s)) fun s' => s' = pushS [madeAt P ops i] (pushS (ds.reverse.map (madeAt P ops)) (stL (fun j => listed.getD j false) 0 es s)) := by
        simp only [stepK, hop, hz, hd', madeAt_eq ho, madeBy, pushS, Option.getD_some]
      refine restOp_sound (rest := []) (K := fun s' => s' = pushS [madeAt P ops i] (pushS (ds.reverse.map (madeAt P ops)) (stL (fun j => listed.getD j false) 0 es s))) h ho (by simp only [opsK, hg]; exact hst) fun s' a' w' k1 k2 => ?_
      simp only [opsK] at k1
      subst k1
      have hsame : stL (fun j => (listed.setIfInBounds i true).getD j false) 0 es s = stL (fun j => listed.getD j false) 0 es s := by
        refine stL_congr _ _ 0 es s fun k hk => ?_
        have hkn : k < n := by have := hE.len; omega
        simp only [Nat.zero_add]
        rw [hset]
        have : (k == i) = false := by simp; omega
        rw [this, Bool.or_false]
      have e1 : pushS [madeAt P ops i] (pushS (ds.reverse.map (madeAt P ops)) (stL (fun j => listed.getD j false) 0 es s)) = pushS ((i :: ds).reverse.map (madeAt P ops)) (stL (fun j => (listed.setIfInBounds i true).getD j false) 0 es s) := by
        rw [hsame, List.reverse_cons, List.map_append, List.map_cons, List.map_nil, pushS_snoc]; rfl
      rw [e1] at k2
      refine ih _ (i :: ds) a' w' hcount (by simpa using hs) (fun k hk => ?_) (fun d hd => ?_) (List.nodup_cons.2 ⟨hnd2, hnd⟩) (waits_set (by omega) h3 hc) hv' k2
      · rw [hset, hld k hk, List.contains_cons, Bool.or_comm]
      · rcases List.mem_cons.1 hd with rfl | hd
        · exact ⟨hin, h1, _, ho, hal⟩
        · exact hds d hd
end
end Go.Idl
