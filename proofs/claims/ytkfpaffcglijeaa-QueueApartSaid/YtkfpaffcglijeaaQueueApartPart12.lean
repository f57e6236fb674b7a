/- Drawn regions, part 4: a free part with one call that makes something new.; Regions whose order is drawn, with two variables that are made new behind the free operations: in either order. -/
import Derived.Test.YtkfpaffcglijeaaQueueApartPart11
set_option linter.all false
section
namespace Go.Idl
set_option linter.unusedSimpArgs false
set_option linter.unusedVariables false

def checkPrevM (m0 i mask u w : Nat) (al : Bool) : Nat → List Seen → Bool
  | _, [] => true
  | j, p :: r => (Nat.testBit mask j || (decide (i < m0) && !conflictM u w al p.u p.w p.al) || decide (m0 ≤ j)) && checkPrevM m0 i mask u w al (j + 1) r

/-- the first m do not feel each other unless one waits; all others wait for these -/
def mixGo (all : List Oper) (m0 : Nat) : Nat → List Oper → List Seen → List Nat → Bool
  | _, [], _, _ => true
  | i, o :: r, prev, acc => forceN (maskOf o acc) fun mask => forceN (maskL (opUses all o)) fun u => forceN (maskL (opWrites o)) fun w =>
      (o.after.toList.all fun e => !Region.binds .any e || decide (e.on < i)) && checkPrevM m0 i mask u w (isAlloc o) 0 prev && mixGo all m0 (i + 1) r (prev ++ [⟨u, w, isAlloc o⟩]) (acc ++ [mask])

theorem checkPrevM_spec {m0 i mask u w : Nat} {al : Bool} : ∀ {l : List Seen} {j : Nat}, checkPrevM m0 i mask u w al j l = true → ∀ k p, l[k]? = some p → Nat.testBit mask (j + k) = true ∨ (i < m0 ∧ conflictM u w al p.u p.w p.al = false) ∨ m0 ≤ j + k
  | [], _, _, k, p, hp => by simp at hp
  | q :: r, j, h, k, p, hp => by
    simp only [checkPrevM, Bool.and_eq_true, Bool.or_eq_true, decide_eq_true_eq, Bool.not_eq_true'] at h
    cases k with
    | zero => simp at hp; subst hp; rcases h.1 with (h | h) | h
              · exact .inl h
              · exact .inr (.inl h)
              · exact .inr (.inr h)
    | succ k =>
      have := checkPrevM_spec h.2 k p (by simpa using hp)
      rw [show j + (k + 1) = j + 1 + k by omega]; exact this

theorem mixGo_spec {all : List Oper} {m0 : Nat} : ∀ (rest : List Oper) (i : Nat) (prev : List Seen) (acc : List Nat), mixGo all m0 i rest prev acc = true → rest = all.drop i → acc.length = i → prev = (all.take i).map (fun o => ⟨maskL (opUses all o), maskL (opWrites o), isAlloc o⟩) →
    ∀ k o, i ≤ k → all[k]? = some o → (∀ e ∈ o.after, Region.binds .any e = true → e.on < k) ∧ ∀ j p, j < k → all[j]? = some p → Nat.testBit ((predsL rest acc).getD k 0) j = true ∨ (k < m0 ∧ conflict all o p = false) ∨ m0 ≤ j
  | [], i, prev, acc, _, hr, _, _, k, o, hk, ho => by
    have hlt := (List.getElem?_eq_some_iff.1 ho).1
    have := congrArg List.length hr
    simp at this; omega
  | q :: r, i, prev, acc, h, hr, ha, hp, k, o, hk, ho => by
    simp only [mixGo, forceN_eq, Bool.and_eq_true] at h
    obtain ⟨⟨h1, h2⟩, h3⟩ := h
    have hq : all[i]? = some q := by have := congrArg (·[0]?) hr; simpa using this.symm
    have hil : i < all.length := (List.getElem?_eq_some_iff.1 hq).1
    rcases Nat.lt_or_eq_of_le hk with hlt | rfl
    · have := mixGo_spec r (i + 1) _ _ h3 (by have := congrArg List.tail hr; simpa [List.tail_drop] using this) (by simp [ha]) (by rw [hp, List.take_succ, hq]; simp) k o hlt ho
      simpa only [predsL] using this
    · rw [hq] at ho; injection ho with ho; subst ho
      refine ⟨fun e he hb => ?_, fun j p hj hpj => ?_⟩
      · rw [List.all_eq_true] at h1
        have := h1 e (by simpa using he)
        simpa [hb] using this
      · have hpl : prev[j]? = some ⟨maskL (opUses all p), maskL (opWrites p), isAlloc p⟩ := by
          rw [hp, List.getElem?_map, List.getElem?_take_of_lt hj, hpj]; rfl
        have := checkPrevM_spec h2 j _ hpl
        rw [Nat.zero_add] at this
        have hmask : (predsL (q :: r) acc).getD i 0 = maskOf q acc := by
          unfold predsL
          rw [predsL_get r _ i (by simp [ha]), List.getD, List.getElem?_append_right (by omega)]
          simp [ha]
        rw [hmask]; exact this

/-- what is asked of the call: nobody else of the free part touches where its answer goes, nor, behind it, what it reads -/
def xChk (all : List Oper) (ox : Oper) (x : Nat) : Nat → List Oper → Bool
  | _, [] => true
  | i, o :: r => (Nat.beq i x || (!isAlloc o && Nat.beq (Nat.land (maskL (opWrites ox)) (Nat.lor (maskL (opUses all o)) (maskL (opWrites o)))) 0 && (decide (i < x) || Nat.beq (Nat.land (maskL (opWrites o)) (maskL (opUses all ox))) 0))) && xChk all ox x (i + 1) r

theorem land_zero {a b : List Nat} (h : Nat.beq (Nat.land (maskL a) (maskL b)) 0 = true) : ∀ x ∈ a, x ∉ b := fun x hx hy => by
  have h0 : (maskL a) &&& (maskL b) = 0 := Nat.eq_of_beq_eq_true h
  have : Nat.testBit ((maskL a) &&& (maskL b)) x = true := by rw [Nat.testBit_and, maskL_iff.2 hx, maskL_iff.2 hy]; rfl
  rw [h0] at this; simp at this
theorem land_zero2 {a b c : List Nat} (h : Nat.beq (Nat.land (maskL a) (Nat.lor (maskL b) (maskL c))) 0 = true) : ∀ x ∈ a, x ∉ b ∧ x ∉ c := fun x hx => by
  have h0 : (maskL a) &&& ((maskL b) ||| (maskL c)) = 0 := Nat.eq_of_beq_eq_true h
  have key : ∀ y, Nat.testBit ((maskL a) &&& ((maskL b) ||| (maskL c))) y = false := fun y => by rw [h0]; simp
  have k := key x
  rw [Nat.testBit_and, Nat.testBit_or, maskL_iff.2 hx, Bool.true_and, Bool.or_eq_false_iff] at k
  exact ⟨fun hh => by (rw [maskL_iff.2 hh] at k; cases k.1), fun hh => by (rw [maskL_iff.2 hh] at k; cases k.2)⟩

theorem xChk_spec {all : List Oper} {ox : Oper} {x : Nat} : ∀ {l : List Oper} {b : Nat}, xChk all ox x b l = true → ∀ k o, l[k]? = some o → b + k ≠ x →
    isAlloc o = false ∧ (∀ t ∈ opWrites ox, t ∉ opUses all o ∧ t ∉ opWrites o) ∧ (x < b + k → ∀ t ∈ opWrites o, t ∉ opUses all ox)
  | [], _, _, k, o, ho, _ => by simp at ho
  | q :: l, b, h, k, o, ho, hne => by
    simp only [xChk, Bool.and_eq_true, Bool.or_eq_true, Bool.not_eq_true', decide_eq_true_eq] at h
    cases k with
    | zero =>
      simp at ho; subst ho
      rcases h.1 with h | ⟨⟨h1, h2⟩, h3⟩
      · exact absurd (Nat.eq_of_beq_eq_true h) (by simpa using hne)
      · refine ⟨h1, land_zero2 h2, fun hlt => ?_⟩
        rcases h3 with h3 | h3
        · omega
        · exact land_zero h3
    | succ k =>
      have := xChk_spec h.2 k o (by simpa using ho) (by omega)
      rw [show b + (k + 1) = b + 1 + k by omega]; exact this

section
variable {P : Program} {κ : Ctx} {K : St → Prop}

def noEff : Eff := { ws := [], push := none }
theorem noEff_app (s : St) : noEff.app s = s := by simp [noEff, Eff.app, writeTm]

/-- what the call leaves -/
def xSt (dst : Option Nat) (r : V) (ext : List IObj) (s : St) : St := ({ s with hp := s.hp ++ ext } : St).put dst r

theorem writeTm_set (ws : List (Nat × V)) (tm : List V) (d : Nat) (r : V) (h : ∀ p ∈ ws, p.1 ≠ d) : writeTm (tm.set d r) ws = (writeTm tm ws).set d r := by
  apply List.ext_getElem?
  intro i
  by_cases hw : ∃ p ∈ ws, p.1 = i
  · have hid : d ≠ i := by rintro rfl; obtain ⟨p, hp, e⟩ := hw; exact h p hp e
    rw [List.getElem?_set_ne hid]
    exact writeTm_get_congr ws _ _ _ (by simp) (.inl hw)
  · have hn : ∀ p ∈ ws, p.1 ≠ i := fun p hp e => hw ⟨p, hp, e⟩
    rw [writeTm_get_not ws _ _ hn]
    by_cases hid : d = i
    · subst hid
      simp only [List.getElem?_set_self', writeTm_get_not ws tm _ hn]
    · rw [List.getElem?_set_ne hid, List.getElem?_set_ne hid, writeTm_get_not ws tm _ hn]

theorem app_xSt {e : Eff} {dst : Option Nat} {r : V} {ext : List IObj} {s : St} (hw : ∀ p ∈ e.ws, ∀ d, dst = some d → p.1 ≠ d) (hp : e.push = none) : e.app (xSt dst r ext s) = xSt dst r ext (e.app s) := by
  cases dst with
  | none => simp [xSt, Eff.app, St.put, hp]
  | some d => simp [xSt, Eff.app, St.put, hp, writeTm_set e.ws s.tm d r fun p hpm => hw p hpm d rfl]

theorem count_prefix {listed : Array Bool} {m : Nat} (hlm : ∀ j, listed.getD j false = decide (j < m)) (hm : m ≤ listed.size) : m + listed.toList.count false = listed.size := by
  have e1 : listed.toList = (List.range listed.size).map fun j => decide (j < m) := by
    apply List.ext_getElem
    · simp
    · intro i h1 h2
      have := hlm i
      simp only [List.getElem_map, List.getElem_range]
      rw [← this]
      simp at h1
      simp [Array.getD, h1]
  rw [e1]
  have e2 : ∀ n, m ≤ n → m + ((List.range n).map fun j => decide (j < m)).count false = n := by
    intro n
    induction n with
    | zero => intro h; simp; omega
    | succ n ihn =>
      intro h
      rw [List.range_succ, List.map_append, List.count_append]
      rcases Nat.lt_or_ge n m with h1 | h1
      · have : m = n + 1 := by omega
        subst this
        have e3 : ((List.range n).map fun j => decide (j < n + 1)).count false = 0 := by
          rw [List.count_eq_zero]
          intro hmem
          simp only [List.mem_map, List.mem_range] at hmem
          obtain ⟨j, hj, hj2⟩ := hmem
          simp at hj2; omega
        rw [e3]; simp
      · have := ihn h1
        have e4 : decide (n < m) = false := by simp; omega
        simp [e4]; omega
  exact e2 _ hm

/-- what the test says of the region -/
structure MixOK (m x : Nat) (ox : Oper) (ops : Array Oper) : Prop where
  lt : ∀ i o, ops[i]? = some o → ∀ e ∈ o.after, Region.binds .any e = true → e.on < i
  all : ∀ i j o p, ops[i]? = some o → ops[j]? = some p → j < i → j < m → Nat.testBit ((predsL ops.toList []).getD i 0) j = true ∨ (i < m ∧ conflict ops.toList o p = false)
  hm : m ≤ ops.size
  xm : x < m
  hx : ops[x]? = some ox
  xs : ∀ i o, i < m → ops[i]? = some o → i ≠ x → isAlloc o = false ∧ (∀ t ∈ opWrites ox, t ∉ opUses ops.toList o ∧ t ∉ opWrites o) ∧ (x < i → ∀ t ∈ opWrites o, t ∉ opUses ops.toList ox)

section
variable {ops : Array Oper} {m x base : Nat} {ox : Oper} {Q : Exit → Act → World → Prop} {es : List Eff} {s : St}

structure EsOK (P : Program) (base m x : Nat) (ops : Array Oper) (es : List Eff) (s : St) : Prop where
  len : es.length = m
  hb : base ≤ s.hp.length
  xe : es[x]? = some noEff
  he : ∀ i o, i < m → i ≠ x → ops[i]? = some o → ∃ e, es[i]? = some e ∧ (∀ p ∈ e.ws, p.1 ∈ opWrites o) ∧ e.push = none ∧
    ∀ s', Agree ops.toList base o (stL (fun _ => true) 0 (es.take i) s) s' → freeOp P base ops.toList o s' (fun x => x = e.app s')

theorem EsOK.hp (hE : EsOK P base m x ops es s) (hm : m ≤ ops.size) (L : Nat → Bool) : (stL L 0 es s).hp = s.hp := by
  refine stL_hp_none L 0 es s fun k e hk _ => ?_
  have hkm : k < m := by rw [← hE.len]; exact (List.getElem?_eq_some_iff.1 hk).1
  by_cases hkx : k = x
  · subst hkx; rw [hE.xe] at hk; injection hk with hk; rw [← hk]; rfl
  · obtain ⟨e', h1, _, h3, _⟩ := hE.he k (ops[k]'(by omega)) hkm hkx (by simp)
    rw [hk] at h1; injection h1 with h1; subst h1; exact h3

/-- an operation of the free part agrees -/
theorem mix_agree (hM : MixOK m x ox ops) (hE : EsOK P base m x ops es s) {listed : Array Bool} (hc : ∀ i, listed.getD i false = true → Waits ops listed i) {i : Nat} {o : Oper} (him : i < m) (hix : i ≠ x) (ho : ops[i]? = some o) (h2 : listed.getD i false = false) (h3 : Waits ops listed i) {s' : St}
    (htm : ∀ y ∈ opUses ops.toList o, s'.tm[y]? = (stL (fun j => listed.getD j false) 0 es s).tm[y]?) (hhp : ∀ id, id < base → s'.hp[id]? = s.hp[id]?) : Agree ops.toList base o (stL (fun _ => true) 0 (es.take i) s) s' := by
  have hpre : ∀ j, Nat.testBit ((predsL ops.toList []).getD i 0) j = true → listed.getD j false = true := preds_listed ops.toList [] (by simp) hc (by simp) i h3
  rw [stL_take]
  constructor
  · intro y hy
    rw [htm y hy]
    refine stL_get _ _ y 0 es s s rfl rfl fun k e' hk hw => ?_
    have hkm : k < m := by rw [← hE.len]; exact (List.getElem?_eq_some_iff.1 hk).1
    simp only [Nat.zero_add]
    by_cases hkx : k = x
    · subst hkx; rw [hE.xe] at hk; injection hk with hk; subst hk
      obtain ⟨p, hp, _⟩ := hw; simp [noEff] at hp
    have hp : ops[k]? = some (ops[k]'(by have := hM.hm; omega)) := by simp
    obtain ⟨e'', r1, r2, _⟩ := hE.he k _ hkm hkx hp
    rw [hk] at r1; injection r1 with r1; subst r1
    obtain ⟨pr, hpr, hprx⟩ := hw
    have hxw : y ∈ opWrites (ops[k]'(by have := hM.hm; omega)) := by rw [← hprx]; exact r2 pr hpr
    rcases Nat.lt_trichotomy k i with hlt | rfl | hgt
    · rcases hM.all i k _ _ ho hp hlt hkm with hin | ⟨_, hcf⟩
      · rw [hpre k hin]; simp [hlt]
      · have := conflict_of_meet hxw hy
        rw [hcf] at this; cases this
    · rw [h2]; simp
    · have : listed.getD k false = false := by
        by_cases hl : listed.getD k false = true
        · rcases hM.all k i _ _ hp ho hgt him with hin | ⟨_, hcf⟩
          · have := preds_listed ops.toList [] (by simp) hc (by simp) k (hc k hl) i hin
            rw [h2] at this; cases this
          · exact absurd hy ((conflict_false hcf).1 y hxw).1
        · simpa using hl
      rw [this]; simp; omega
  · intro id hid
    obtain ⟨t, e⟩ := stL_hp (fun j => decide (j < 0 + i)) 0 es s
    rw [e, hhp id hid, List.getElem?_append_left (by have := hE.hb; omega)]
  · intro hal
    rw [(hM.xs i o him ho hix).1] at hal; cases hal

/-- one more of the free part is done -/
theorem mix_insert (hM : MixOK m x ox ops) (hE : EsOK P base m x ops es s) {listed : Array Bool} (hs : listed.size = ops.size) (hc : ∀ i, listed.getD i false = true → Waits ops listed i) {i : Nat} {o : Oper} {e : Eff} (him : i < m) (hix : i ≠ x) (ho : ops[i]? = some o) (he : es[i]? = some e) (hw : ∀ p ∈ e.ws, p.1 ∈ opWrites o) (h2 : listed.getD i false = false) (h3 : Waits ops listed i) :
    e.app (stL (fun j => listed.getD j false) 0 es s) = stL (fun j => (listed.setIfInBounds i true).getD j false) 0 es s := by
  have hil : i < listed.size := by have := hM.hm; omega
  rw [stL_insert (fun j => listed.getD j false) i e 0 es s (fun _ _ _ => trivial) (Nat.zero_le _) (by simpa using he) h2 ?_]
  · rw [show (fun j => (listed.setIfInBounds i true).getD j false) = fun j => listed.getD j false || j == i from funext fun j => getD_set _ _ _ hil]
  · intro k f hf' hik hl
    simp only [Nat.zero_add] at hik hl
    have hkm : k < m := by rw [← hE.len]; exact (List.getElem?_eq_some_iff.1 hf').1
    by_cases hkx : k = x
    · subst hkx; rw [hE.xe] at hf'; injection hf' with hf'; subst hf'
      exact ⟨fun p _ q hq => by simp [noEff] at hq, .inr rfl⟩
    have hp : ops[k]? = some (ops[k]'(by have := hM.hm; omega)) := by simp
    obtain ⟨e'', r1, r2, r3, _⟩ := hE.he k _ hkm hkx hp
    rw [hf'] at r1; injection r1 with r1; subst r1
    rcases hM.all k i _ _ hp ho hik him with hin | ⟨_, hcf⟩
    · have := preds_listed ops.toList [] (by simp) hc (by simp) k (hc k hl) i hin
      rw [h2] at this; cases this
    · exact ⟨fun p hp' q hq hpq => absurd (hw p hp') ((conflict_false hcf).1 _ (hpq ▸ r2 q hq)).2, .inr r3⟩

theorem mix_im (hM : MixOK m x ox ops) {listed : Array Bool} (hc : ∀ i, listed.getD i false = true → Waits ops listed i) {i : Nat} (hi : i < ops.size) (h3 : Waits ops listed i) (hfin : ¬ ∀ j, j < m → listed.getD j false = true) : i < m := by
  rcases Nat.lt_or_ge i m with h' | h'
  · exact h'
  · exfalso
    refine hfin fun j hj => ?_
    have hm := hM.hm
    rcases hM.all i j ops[i] (ops[j]'(by omega)) (by simp) (by simp) (by omega) hj with hin | ⟨hlm, _⟩
    · exact preds_listed ops.toList [] (by simp) hc (by simp) i h3 j hin
    · omega

theorem mix_nil (hM : MixOK m x ox ops) {listed : Array Bool} (hs : listed.size = ops.size) (h : Region.ready .any ops listed = []) : ∀ i, i < ops.size → listed.getD i false = true := by
  intro i
  induction i using Nat.strongRecOn with
  | ind i ih =>
    intro hi
    refine Classical.byContradiction fun hno => ?_
    have : i ∈ Region.ready .any ops listed := (ready_iff hs).2 ⟨hi, by simpa using hno, fun o ho e he hb => by
      have := hM.lt i o ho e he hb
      exact ih e.on this (by omega)⟩
    rw [h] at this; cases this

/-- behind the call -/
theorem mixA (hM : MixOK m x ox ops) (hE : EsOK P base m x ops es s) {r : V} {ext : List IObj} (hK : K (xSt ox.dst r ext (stL (fun _ => true) 0 es s)))
    (hfin : ∀ (listed : Array Bool) s' a' w', listed.size = ops.size → (∀ j, listed.getD j false = decide (j < m)) → (∀ i, listed.getD i false = true → Waits ops listed i) → K s' → Rel κ s' a' w' → wpAnyIn κ.F 0 P .any ops Q (ops.size - m) listed a' w') :
    ∀ (fuel : Nat) (listed : Array Bool) (a : Act) (w : World), listed.toList.count false = fuel → listed.size = ops.size → (∀ i, listed.getD i false = true → i < m) → (∀ i, listed.getD i false = true → Waits ops listed i) → listed.getD x false = true →
    Rel κ (xSt ox.dst r ext (stL (fun j => listed.getD j false) 0 es s)) a w → wpAnyIn κ.F 0 P .any ops Q fuel listed a w := by
  intro fuel
  induction fuel with
  | zero =>
    intro listed a w hf hs hlt hc hxl h
    have hall : ∀ i, i < ops.size → listed.getD i false = true := fun i hi => by
      by_cases e : listed.getD i false = true
      · exact e
      · exfalso
        have e' : listed[i]'(by omega) = false := by simpa [Array.getD, show i < listed.size by omega] using e
        have : 0 < listed.toList.count false := List.count_pos_iff.2 (by rw [← e']; simp)
        omega
    have hm := hM.hm
    have hms : ops.size = m := by
      rcases Nat.lt_or_ge m ops.size with h1 | h1
      · have := hlt m (hall m h1); omega
      · omega
    have := hfin listed _ a w hs (fun j => by
      by_cases e : j < m
      · rw [hall j (by omega)]; simp [e]
      · have : ¬ listed.getD j false = true := fun hh => e (hlt j hh)
        simp [e]; simpa using this) hc hK (by
      rw [stL_congr _ (fun _ => true) 0 es s fun k hk => by simpa using hall k (by have := hE.len; omega)] at h
      exact h)
    rwa [hms, Nat.sub_self] at this
  | succ fuel ih =>
    intro listed a w hf hs hlt hc hxl h
    have hm := hM.hm
    by_cases hfi : ∀ i, i < m → listed.getD i false = true
    · have hlm : ∀ j, listed.getD j false = decide (j < m) := fun j => by
        by_cases e : j < m
        · rw [hfi j e]; simp [e]
        · have : ¬ listed.getD j false = true := fun hh => e (hlt j hh)
          simp [e]; simpa using this
      have hcnt := count_prefix hlm (by omega)
      rw [hf, hs] at hcnt
      rw [stL_congr _ (fun _ => true) 0 es s fun k hk => by simpa using hfi k (by have := hE.len; omega)] at h
      have := hfin listed _ a w hs hlm hc hK h
      rwa [show ops.size - m = fuel + 1 by omega] at this
    · refine ⟨fun hn => absurd (fun i hi => mix_nil hM hs hn i (by omega)) hfi, fun i hi => ?_⟩
      obtain ⟨h1, h2, h3⟩ := (ready_iff hs).1 hi
      have ho : ops[i]? = some ops[i] := by simp [h1]
      have him := mix_im hM hc h1 h3 hfi
      have hix : i ≠ x := by rintro rfl; rw [hxl] at h2; cases h2
      obtain ⟨e, q1, q2, q3, q4⟩ := hE.he i _ him hix ho
      obtain ⟨x1, x2, x3⟩ := hM.xs i _ him ho hix
      have hd : ∀ d, ox.dst = some d → d ∈ opWrites ox := fun d hd => List.mem_append_left _ (by simp [hd])
      have hag : Agree ops.toList base ops[i] (stL (fun _ => true) 0 (es.take i) s) (xSt ox.dst r ext (stL (fun j => listed.getD j false) 0 es s)) := by
        refine mix_agree hM hE hc him hix ho h2 h3 (fun y hy => ?_) fun id hid => ?_
        · cases hdst : ox.dst with
          | none => rfl
          | some d =>
            have : d ≠ y := by rintro rfl; exact (x2 d (hd d hdst)).1 hy
            simp only [xSt, St.put]
            rw [List.getElem?_set_ne this]
        · have hh : (xSt ox.dst r ext (stL (fun j => listed.getD j false) 0 es s)).hp = (stL (fun j => listed.getD j false) 0 es s).hp ++ ext := by
            cases ox.dst <;> rfl
          rw [hh, hE.hp hm, List.getElem?_append_left (by have := hE.hb; omega)]
      refine freeOp_sound h ho (q4 _ hag) fun s' a' w' hs' hr' => ?_
      subst hs'
      rw [app_xSt (fun p hp d hdd => by rintro rfl; exact (x2 _ (hd _ hdd)).2 (q2 p hp)) q3, mix_insert hM hE hs hc him hix ho q1 q2 h2 h3] at hr'
      refine ih _ a' w' ?_ (by simpa using hs) (fun j hj => ?_) (waits_set (by omega) h3 hc) ?_ hr'
      · have := count_set (l := listed) (i := i) (by omega) h2; omega
      · rw [getD_set _ _ _ (by omega)] at hj
        simp only [Bool.or_eq_true, beq_iff_eq] at hj
        rcases hj with hj | rfl
        · exact hlt j hj
        · exact him
      · rw [getD_set _ _ _ (by omega), hxl]; rfl

theorem put_hp (s : St) (d : Option Nat) (v : V) : (s.put d v).hp = s.hp := by cases d <;> rfl

/-- the call's answer goes to its place, what it made lies at the end -/
def callX (P : Program) (c : Call) (s : St) (dst : Option Nat) (K : St → Prop) : Prop :=
  match c.callee with
  | .value g => match ev P 0 s g with
    | .fn (.func f) caps => hasBody P f = true ∧ (argVs P s c ++ caps).all V.bare = true ∧ CallK P f (argVs P s c ++ caps) s.hp fun r hp' => (∃ ext, hp' = s.hp ++ ext) ∧ K ({ s with hp := hp' }.put dst r)
    | _ => False
  | _ => False

/-- ahead of the call -/
theorem mixB (hM : MixOK m x ox ops) (hE : EsOK P base m x ops es s) {c : Call} (hop : ox.op = .call c) (hg : ox.guard = none) (hcall : callX P c (stL (fun _ => true) 0 es s) ox.dst K)
    (hfin : ∀ (listed : Array Bool) s' a' w', listed.size = ops.size → (∀ j, listed.getD j false = decide (j < m)) → (∀ i, listed.getD i false = true → Waits ops listed i) → K s' → Rel κ s' a' w' → wpAnyIn κ.F 0 P .any ops Q (ops.size - m) listed a' w') :
    ∀ (fuel : Nat) (listed : Array Bool) (a : Act) (w : World), listed.toList.count false = fuel → listed.size = ops.size → (∀ i, listed.getD i false = true → i < m) → (∀ i, listed.getD i false = true → Waits ops listed i) → listed.getD x false = false →
    Rel κ (stL (fun j => listed.getD j false) 0 es s) a w → wpAnyIn κ.F 0 P .any ops Q fuel listed a w := by
  intro fuel
  induction fuel with
  | zero =>
    intro listed a w hf hs hlt hc hxl h
    exfalso
    have hm := hM.hm
    have hxm := hM.xm
    have e' : listed[x]'(by omega) = false := by simpa [Array.getD, show x < listed.size by omega] using hxl
    have : 0 < listed.toList.count false := List.count_pos_iff.2 (by rw [← e']; simp)
    omega
  | succ fuel ih =>
    intro listed a w hf hs hlt hc hxl h
    have hm := hM.hm
    have hxm := hM.xm
    have hfi : ¬ ∀ i, i < m → listed.getD i false = true := fun hh => by rw [hh x hxm] at hxl; cases hxl
    refine ⟨fun hn => absurd (fun i hi => mix_nil hM hs hn i (by omega)) hfi, fun i hi => ?_⟩
    obtain ⟨h1, h2, h3⟩ := (ready_iff hs).1 hi
    have ho : ops[i]? = some ops[i] := by simp [h1]
    have him := mix_im hM hc h1 h3 hfi
    by_cases hix : i = x
    · -- the call itself
      subst hix
      have hox : ops[i] = ox := by have := hM.hx; rw [ho] at this; injection this
      have hpre : ∀ j, Nat.testBit ((predsL ops.toList []).getD i 0) j = true → listed.getD j false = true := preds_listed ops.toList [] (by simp) hc (by simp) i h3
      have hag : ∀ y ∈ opUses ops.toList ox, (stL (fun j => listed.getD j false) 0 es s).tm[y]? = (stL (fun _ => true) 0 es s).tm[y]? := fun y hy => by
        refine stL_get _ _ y 0 es s s rfl rfl fun k e' hk hw => ?_
        have hkm : k < m := by rw [← hE.len]; exact (List.getElem?_eq_some_iff.1 hk).1
        simp only [Nat.zero_add]
        by_cases hkx : k = i
        · subst hkx; rw [hE.xe] at hk; injection hk with hk; subst hk
          obtain ⟨p, hp, _⟩ := hw; simp [noEff] at hp
        have hp : ops[k]? = some (ops[k]'(by omega)) := by simp
        obtain ⟨e'', r1, r2, _⟩ := hE.he k _ hkm hkx hp
        rw [hk] at r1; injection r1 with r1; subst r1
        obtain ⟨pr, hpr, hprx⟩ := hw
        have hxw : y ∈ opWrites (ops[k]'(by omega)) := by rw [← hprx]; exact r2 pr hpr
        rcases Nat.lt_trichotomy k i with hlt' | rfl | hgt
        · rcases hM.all i k _ _ ho hp hlt' hkm with hin | ⟨_, hcf⟩
          · exact hpre k hin
          · rw [hox] at hcf
            have := conflict_of_meet hxw hy
            rw [hcf] at this; cases this
        · exact absurd rfl hkx
        · exact absurd hy ((hM.xs k _ hkm hp hkx).2.2 hgt y hxw)
      have hev : ∀ z ∈ ox.op.operands, ∀ t, ev P t (stL (fun j => listed.getD j false) 0 es s) z = ev P t (stL (fun _ => true) 0 es s) z := fun z hz t => by
        cases z with
        | tmp y =>
          have : y ∈ opUses ops.toList ox := List.mem_append_left _ (List.mem_filterMap.2 ⟨.tmp y, by simpa using hz, rfl⟩)
          simp only [Idl.ev, List.getD_eq_getElem?_getD, hag y this]
        | const v => rfl
        | «global» g => rfl
        | func f => rfl
      have hav : argVs P (stL (fun j => listed.getD j false) 0 es s) c = argVs P (stL (fun _ => true) 0 es s) c := by
        unfold Idl.argVs
        refine List.map_congr_left fun p hp => ?_
        obtain ⟨z, t⟩ := p
        have hz : z ∈ c.args := by have := (List.of_mem_zip hp).1; simpa using this
        simp only
        rw [hev z (by rw [hop]; simp only [Op.operands, Call.operands]; exact Array.mem_append.2 (.inr hz))]
      have hhp : ∀ L, (stL L 0 es s).hp = s.hp := hE.hp hm
      have hstep : stepK P ox [] (stL (fun j => listed.getD j false) 0 es s) fun s' => ∃ r ext, s' = xSt ox.dst r ext (stL (fun j => listed.getD j false) 0 es s) ∧ K (xSt ox.dst r ext (stL (fun _ => true) 0 es s)) := by
        unfold callX at hcall
        split at hcall
        · rename_i g eg
          have hge := hev g (by rw [hop]; simp [Op.operands, Call.operands, eg]) 0
          split at hcall
          · rename_i f caps ef
            obtain ⟨hb, hbare, hcall⟩ := hcall
            have : callK P c (stL (fun j => listed.getD j false) 0 es s) ox.dst fun s' => ∃ r ext, s' = xSt ox.dst r ext (stL (fun j => listed.getD j false) 0 es s) ∧ K (xSt ox.dst r ext (stL (fun _ => true) 0 es s)) := by
              unfold callK
              simp only [eg]
              unfold callK0
              simp only [eg, hge, ef, hb, cond_true, hav]
              refine ⟨hbare, ?_⟩
              rw [hhp] at hcall ⊢
              refine CallK.mono hcall fun r hp' hk => ?_
              obtain ⟨⟨ext, rfl⟩, hk⟩ := hk
              refine ⟨r, ext, ?_, ?_⟩
              · simp only [xSt, hhp]
              · simpa only [xSt, hhp] using hk
            simpa only [stepK, hop] using this
          · exact hcall.elim
        · exact hcall.elim
      have ho' : ops[i]? = some ox := hM.hx
      refine restOp_sound (rest := []) (K := fun s' => ∃ r ext, s' = xSt ox.dst r ext (stL (fun j => listed.getD j false) 0 es s) ∧ K (xSt ox.dst r ext (stL (fun _ => true) 0 es s))) h ho' (by simp only [opsK, hg]; exact hstep) fun s' a' w' k1 k2 => ?_
      simp only [opsK] at k1
      obtain ⟨r, ext, rfl, hK⟩ := k1
      have hsame : stL (fun j => (listed.setIfInBounds i true).getD j false) 0 es s = stL (fun j => listed.getD j false) 0 es s := by
        rw [show (fun j => (listed.setIfInBounds i true).getD j false) = fun j => listed.getD j false || j == i from funext fun j => getD_set _ _ _ (by omega)]
        rw [← stL_insert (fun j => listed.getD j false) i noEff 0 es s (fun _ _ _ => trivial) (Nat.zero_le _) (by simpa using hE.xe) h2 (fun k f _ _ _ => ⟨fun p hp => by simp [noEff] at hp, .inl rfl⟩), noEff_app]
      refine mixA hM hE hK hfin fuel _ a' w' ?_ (by simpa using hs) (fun j hj => ?_) (waits_set (by omega) h3 hc) ?_ (by rw [hsame]; exact k2)
      · have := count_set (l := listed) (i := i) (by omega) h2; omega
      · rw [getD_set _ _ _ (by omega)] at hj
        simp only [Bool.or_eq_true, beq_iff_eq] at hj
        rcases hj with hj | rfl
        · exact hlt j hj
        · exact him
      · rw [getD_set _ _ _ (by omega)]; simp
    · obtain ⟨e, q1, q2, q3, q4⟩ := hE.he i _ him hix ho
      have hag := mix_agree hM hE hc him hix ho h2 h3 (s' := stL (fun j => listed.getD j false) 0 es s) (fun y hy => rfl) fun id hid => by rw [hE.hp hm]
      refine freeOp_sound h ho (q4 _ hag) fun s' a' w' hs' hr' => ?_
      subst hs'
      rw [mix_insert hM hE hs hc him hix ho q1 q2 h2 h3] at hr'
      refine ih _ a' w' ?_ (by simpa using hs) (fun j hj => ?_) (waits_set (by omega) h3 hc) ?_ hr'
      · have := count_set (l := listed) (i := i) (by omega) h2; omega
      · rw [getD_set _ _ _ (by omega)] at hj
        simp only [Bool.or_eq_true, beq_iff_eq] at hj
        rcases hj with hj | rfl
        · exact hlt j hj
        · exact him
      · rw [getD_set _ _ _ (by omega), hxl]; simp; omega

theorem stL_shift : ∀ (es : List Eff) (i j : Nat) (s : St), stL (fun _ => true) i es s = stL (fun _ => true) j es s
  | [], _, _, _ => rfl
  | f :: es, i, j, s => by simp only [stL, if_true]; exact stL_shift es (i + 1) (j + 1) _

/-- The effects of a free part, one an operation; the call has none. -/
theorem free_effsX {x : Nat} {all : List Oper} {K : St → Prop} : ∀ (l : List Oper) (b : Nat) (s : St), base ≤ s.hp.length → freeK P base all (l.eraseIdx (x - b)) s K → b ≤ x → x < b + l.length → ∃ es : List Eff, es.length = l.length ∧ K (stL (fun _ => true) 0 es s) ∧ es[x - b]? = some noEff ∧
    ∀ (i : Nat) o, l[i]? = some o → b + i ≠ x → ∃ e, es[i]? = some e ∧ (∀ p ∈ e.ws, p.1 ∈ opWrites o) ∧ (isAlloc o = false → e.push = none) ∧
      ∀ s', Agree all base o (stL (fun _ => true) 0 (es.take i) s) s' → freeOp P base all o s' (fun x => x = e.app s')
  | [], b, s, _, _, h1, h2 => by simp at h2; omega
  | o :: l, b, s, hs, hk, h1, h2 => by
    by_cases hb : b = x
    · subst hb
      rw [Nat.sub_self, List.eraseIdx_cons_zero] at hk
      obtain ⟨es, k1, k2, k3⟩ := free_effs (base := base) (all := all) hs l s hs hk
      refine ⟨noEff :: es, by simp [k1], ?_, by simp, fun i o' ho hne => ?_⟩
      · simp only [stL, if_true, noEff_app]; rw [stL_shift es 1 0]; exact k2
      · cases i with
        | zero => omega
        | succ i =>
          obtain ⟨e', q1, q2, q3, q4⟩ := k3 i o' (by simpa using ho)
          refine ⟨e', by simpa using q1, q2, q3, fun s' ha => q4 s' ?_⟩
          simp only [List.take_succ_cons, stL, if_true, noEff_app] at ha
          rwa [stL_shift _ 1 0] at ha
    · obtain ⟨d, hd⟩ : ∃ d, x - b = d + 1 := ⟨x - b - 1, by omega⟩
      rw [hd, List.eraseIdx_cons_succ] at hk
      simp only [freeK] at hk
      obtain ⟨e, g1, g2, g3, g4⟩ := freeOp_local hk
      have hlen : base ≤ (e.app s).hp.length := by simp [Eff.app]; omega
      obtain ⟨es, k1, k2, k3, k4⟩ := free_effsX (x := x) l (b + 1) (e.app s) hlen (by rw [show x - (b + 1) = d by omega]; exact g1) (by omega) (by simp at h2; omega)
      refine ⟨e :: es, by simp [k1], ?_, by rw [hd]; simpa [show x - (b + 1) = d by omega] using k3, fun i o' ho hne => ?_⟩
      · simp only [stL, if_true]; rw [stL_shift es 1 0]; exact k2
      · cases i with
        | zero =>
          simp at ho; subst ho
          exact ⟨e, rfl, g2, g3, fun s' ha => g4 s' (by simpa [stL] using ha)⟩
        | succ i =>
          obtain ⟨e', q1, q2, q3, q4⟩ := k4 i o' (by simpa using ho) (by omega)
          refine ⟨e', by simpa using q1, q2, q3, fun s' ha => q4 s' ?_⟩
          simp only [List.take_succ_cons, stL, if_true] at ha
          rwa [stL_shift _ 1 0] at ha

/-- THE LAW OF A DRAWN REGION with one call that makes something new among its free operations. -/
theorem mix_sem {κ : Ctx} {m x : Nat} {ops : Array Oper} {ox : Oper} {Q : Exit → Act → World → Prop} {s : St} {a : Act} {w : World} {c : Call} {K : St → Prop} (hM : MixOK m x ox ops) (hop : ox.op = .call c) (hg : ox.guard = none)
    (hk : freeK P s.hp.length ops.toList ((ops.toList.take m).eraseIdx x) s fun s' => callX P c s' ox.dst K) (hr : Rel κ s a w)
    (hfin : ∀ (listed : Array Bool) s' a' w', listed.size = ops.size → (∀ j, listed.getD j false = decide (j < m)) → (∀ i, listed.getD i false = true → Waits ops listed i) → K s' → Rel κ s' a' w' → wpAnyIn κ.F 0 P .any ops Q (ops.size - m) listed a' w') :
    wpAnyIn κ.F 0 P .any ops Q ops.size (Array.replicate ops.size false) a w := by
  have hm := hM.hm
  obtain ⟨es, h1, h2, h3, h4⟩ := free_effsX (base := s.hp.length) (all := ops.toList) (x := x) (ops.toList.take m) 0 s (Nat.le_refl _) (by simpa using hk) (Nat.zero_le _) (by have := hM.xm; simp; omega)
  have hE : EsOK P s.hp.length m x ops es s := by
    refine ⟨by rw [h1]; simp; omega, Nat.le_refl _, by simpa using h3, fun i o him hix ho => ?_⟩
    obtain ⟨e, q1, q2, q3, q4⟩ := h4 i o (by rw [List.getElem?_take_of_lt him]; simpa using ho) (by omega)
    exact ⟨e, q1, q2, q3 (hM.xs i o him ho hix).1, q4⟩
  refine mixB hM hE hop hg h2 hfin ops.size _ a w (by simp) (by simp) (fun i hi => by simp [Array.getD] at hi) (fun i hi => by simp [Array.getD] at hi) (by simp [Array.getD]) ?_
  have e0 : stL (fun j => (Array.replicate ops.size false).getD j false) 0 es s = s := by
    have : ∀ (es : List Eff) (i : Nat) (s : St), stL (fun _ => false) i es s = s := by
      intro es
      induction es with
      | nil => intros; rfl
      | cons e es ih => intro i s; simp only [stL, Bool.false_eq_true, if_false]; exact ih _ _
    rw [show (fun j => (Array.replicate ops.size false).getD j false) = fun _ => false from funext fun j => by simp [Array.getD]]
    exact this es 0 s
  rw [e0]; exact hr
end
end
end Go.Idl
end
section
namespace Go.Idl

/-- no slot is felt -/
def conf0 (all : List Oper) (o p : Oper) : Prop := (∀ x ∈ opWrites o, x ∉ opUses all p ∧ x ∉ opWrites p) ∧ ∀ x ∈ opWrites p, x ∉ opUses all o
theorem conf0_of {all : List Oper} {o p : Oper} (h : conflictM (maskL (opUses all o)) (maskL (opWrites o)) false (maskL (opUses all p)) (maskL (opWrites p)) false = false) : conf0 all o p := by
  unfold conflictM at h
  simp only [Bool.or_eq_false_iff, Bool.and_eq_false_iff, Bool.not_eq_false', Bool.false_and, and_true] at h
  exact ⟨land_zero2 h.1, land_zero h.2⟩

def alcGo (all : List Oper) (m0 : Nat) : Nat → List Oper → List Seen → List Nat → Bool
  | _, [], _, _ => true
  | i, o :: r, prev, acc => forceN (maskOf o acc) fun mask => forceN (maskL (opUses all o)) fun u => forceN (maskL (opWrites o)) fun w =>
      (o.after.toList.all fun e => !Region.binds .any e || decide (e.on < i)) && checkPrev m0 i mask u w false 0 prev && alcGo all m0 (i + 1) r (prev ++ [⟨u, w, false⟩]) (acc ++ [mask])

theorem alcGo_spec {all : List Oper} {m0 : Nat} : ∀ (rest : List Oper) (i : Nat) (prev : List Seen) (acc : List Nat), alcGo all m0 i rest prev acc = true → rest = all.drop i → acc.length = i → prev = (all.take i).map (fun o => ⟨maskL (opUses all o), maskL (opWrites o), false⟩) →
    ∀ k o, i ≤ k → all[k]? = some o → (∀ e ∈ o.after, Region.binds .any e = true → e.on < k) ∧ ∀ j p, j < k → all[j]? = some p → Nat.testBit ((predsL rest acc).getD k 0) j = true ∨ (k < m0 ∧ conf0 all o p)
  | [], i, prev, acc, _, hr, _, _, k, o, hk, ho => by
    have hlt := (List.getElem?_eq_some_iff.1 ho).1
    have := congrArg List.length hr
    simp at this; omega
  | q :: r, i, prev, acc, h, hr, ha, hp, k, o, hk, ho => by
    simp only [alcGo, forceN_eq, Bool.and_eq_true] at h
    obtain ⟨⟨h1, h2⟩, h3⟩ := h
    have hq : all[i]? = some q := by have := congrArg (·[0]?) hr; simpa using this.symm
    have hil : i < all.length := (List.getElem?_eq_some_iff.1 hq).1
    rcases Nat.lt_or_eq_of_le hk with hlt | rfl
    · have := alcGo_spec r (i + 1) _ _ h3 (by have := congrArg List.tail hr; simpa [List.tail_drop] using this) (by simp [ha]) (by rw [hp, List.take_succ, hq]; simp) k o hlt ho
      simpa only [predsL] using this
    · rw [hq] at ho; injection ho with ho; subst ho
      refine ⟨fun e he hb => ?_, fun j p hj hpj => ?_⟩
      · rw [List.all_eq_true] at h1
        have := h1 e (by simpa using he)
        simpa [hb] using this
      · have hpl : prev[j]? = some ⟨maskL (opUses all p), maskL (opWrites p), false⟩ := by
          rw [hp, List.getElem?_map, List.getElem?_take_of_lt hj, hpj]; rfl
        have := checkPrev_spec h2 j _ hpl
        rw [Nat.zero_add] at this
        have hmask : (predsL (q :: r) acc).getD i 0 = maskOf q acc := by
          unfold predsL
          rw [predsL_get r _ i (by simp [ha]), List.getD, List.getElem?_append_right (by omega)]
          simp [ha]
        rw [hmask]; exact this.imp id fun h => ⟨h.1, conf0_of h.2⟩

section
variable {P : Program} {κ : Ctx} {K : St → Prop}

/-- new variables, one behind the other -/
def pushS : List (Nat × IObj) → St → St
  | [], s => s
  | p :: r, s => pushS r (({ s with hp := s.hp ++ [p.2] } : St).put (some p.1) (.ptr s.hp.length 0))
theorem pushS_snoc : ∀ (ds : List (Nat × IObj)) (p : Nat × IObj) (s : St), pushS (ds ++ [p]) s = (({ (pushS ds s) with hp := (pushS ds s).hp ++ [p.2] } : St).put (some p.1) (.ptr (pushS ds s).hp.length 0))
  | [], _, _ => rfl
  | q :: r, p, s => by
    rw [List.cons_append, pushS, pushS_snoc r p]; rfl
theorem pushS_hp : ∀ (ds : List (Nat × IObj)) (s : St), (pushS ds s).hp = s.hp ++ ds.map (·.2)
  | [], s => by simp [pushS]
  | p :: r, s => by
    rw [pushS, pushS_hp r]; simp [St.put]
theorem pushS_get : ∀ (ds : List (Nat × IObj)) (s : St) (y : Nat), (∀ p ∈ ds, p.1 ≠ y) → (pushS ds s).tm[y]? = s.tm[y]?
  | [], _, _, _ => rfl
  | p :: r, s, y, h => by
    rw [pushS, pushS_get r _ y fun q hq => h q (by simp [hq])]
    simp only [St.put]
    rw [List.getElem?_set_ne (h p (by simp))]
theorem app_pushS {e : Eff} (hp : e.push = none) : ∀ (ds : List (Nat × IObj)) (s : St), (∀ p ∈ e.ws, ∀ q ∈ ds, p.1 ≠ q.1) → e.app (pushS ds s) = pushS ds (e.app s)
  | [], _, _ => rfl
  | q :: r, s, h => by
    rw [pushS, pushS, app_pushS hp r _ fun p hp' q' hq' => h p hp' q' (by simp [hq'])]
    congr 1
    simp [Eff.app, St.put, hp, writeTm_set e.ws s.tm q.1 _ fun p hpm => h p hpm q (by simp)]

section
variable {ops : Array Oper} {m base : Nat} {ox oy : Oper} {X Y : Nat × IObj} {Q : Exit → Act → World → Prop} {es : List Eff} {s : St}

/-- what the test says of the region: n free ones, two that make a variable, the rest -/
structure AlcOK (P : Program) (n : Nat) (ops : Array Oper) (ox oy : Oper) (X Y : Nat × IObj) : Prop where
  lt : ∀ i o, ops[i]? = some o → ∀ e ∈ o.after, Region.binds .any e = true → e.on < i
  all : ∀ i j o p, ops[i]? = some o → ops[j]? = some p → j < i → Nat.testBit ((predsL ops.toList []).getD i 0) j = true ∨ (i < n + 2 ∧ conf0 ops.toList o p)
  hm : n + 2 ≤ ops.size
  hx : ops[n]? = some ox
  hy : ops[n + 1]? = some oy
  gx : ox.guard = none
  gy : oy.guard = none
  sx : ∀ s K, K (pushS [X] s) → stepK P ox [] s K
  sy : ∀ s K, K (pushS [Y] s) → stepK P oy [] s K
  xs : ∀ i o, i < n → ops[i]? = some o → isAlloc o = false ∧ (X.1 ∉ opUses ops.toList o ∧ X.1 ∉ opWrites o) ∧ Y.1 ∉ opUses ops.toList o ∧ Y.1 ∉ opWrites o

structure EffsOK (P : Program) (base n : Nat) (ops : Array Oper) (es : List Eff) (s : St) : Prop where
  len : es.length = n
  hb : base ≤ s.hp.length
  he : ∀ i o, i < n → ops[i]? = some o → ∃ e, es[i]? = some e ∧ (∀ p ∈ e.ws, p.1 ∈ opWrites o) ∧ e.push = none ∧
    ∀ s', Agree ops.toList base o (stL (fun _ => true) 0 (es.take i) s) s' → freeOp P base ops.toList o s' (fun x => x = e.app s')

variable {n : Nat}
theorem EffsOK.hp (hE : EffsOK P base n ops es s) (hm : n + 2 ≤ ops.size) (L : Nat → Bool) : (stL L 0 es s).hp = s.hp := by
  refine stL_hp_none L 0 es s fun k e hk _ => ?_
  have hkm : k < n := by rw [← hE.len]; exact (List.getElem?_eq_some_iff.1 hk).1
  obtain ⟨e', h1, _, h3, _⟩ := hE.he k (ops[k]'(by omega)) hkm (by simp)
  rw [hk] at h1; injection h1 with h1; subst h1; exact h3

theorem alc_agree (hM : AlcOK P n ops ox oy X Y) (hE : EffsOK P base n ops es s) {listed : Array Bool} (hc : ∀ i, listed.getD i false = true → Waits ops listed i) {i : Nat} {o : Oper} (him : i < n) (ho : ops[i]? = some o) (h2 : listed.getD i false = false) (h3 : Waits ops listed i) {s' : St}
    (htm : ∀ y ∈ opUses ops.toList o, s'.tm[y]? = (stL (fun j => listed.getD j false) 0 es s).tm[y]?) (hhp : ∀ id, id < base → s'.hp[id]? = s.hp[id]?) : Agree ops.toList base o (stL (fun _ => true) 0 (es.take i) s) s' := by
  have hm := hM.hm
  have hpre : ∀ j, Nat.testBit ((predsL ops.toList []).getD i 0) j = true → listed.getD j false = true := preds_listed ops.toList [] (by simp) hc (by simp) i h3
  rw [stL_take]
  constructor
  · intro y hy
    rw [htm y hy]
    refine stL_get _ _ y 0 es s s rfl rfl fun k e' hk hw => ?_
    have hkm : k < n := by rw [← hE.len]; exact (List.getElem?_eq_some_iff.1 hk).1
    simp only [Nat.zero_add]
    have hp : ops[k]? = some (ops[k]'(by omega)) := by simp
    obtain ⟨e'', r1, r2, _⟩ := hE.he k _ hkm hp
    rw [hk] at r1; injection r1 with r1; subst r1
    obtain ⟨pr, hpr, hprx⟩ := hw
    have hxw : y ∈ opWrites (ops[k]'(by omega)) := by rw [← hprx]; exact r2 pr hpr
    rcases Nat.lt_trichotomy k i with hlt | rfl | hgt
    · rcases hM.all i k _ _ ho hp hlt with hin | ⟨_, hcf⟩
      · rw [hpre k hin]; simp [hlt]
      · exact absurd hy (hcf.2 y hxw)
    · rw [h2]; simp
    · have : listed.getD k false = false := by
        by_cases hl : listed.getD k false = true
        · rcases hM.all k i _ _ hp ho hgt with hin | ⟨_, hcf⟩
          · have := preds_listed ops.toList [] (by simp) hc (by simp) k (hc k hl) i hin
            rw [h2] at this; cases this
          · exact absurd hy (hcf.1 y hxw).1
        · simpa using hl
      rw [this]; simp; omega
  · intro id hid
    obtain ⟨t, e⟩ := stL_hp (fun j => decide (j < 0 + i)) 0 es s
    rw [e, hhp id hid, List.getElem?_append_left (by have := hE.hb; omega)]
  · intro hal
    rw [(hM.xs i o him ho).1] at hal; cases hal

theorem alc_insert (hM : AlcOK P n ops ox oy X Y) (hE : EffsOK P base n ops es s) {listed : Array Bool} (hs : listed.size = ops.size) (hc : ∀ i, listed.getD i false = true → Waits ops listed i) {i : Nat} {o : Oper} {e : Eff} (him : i < n) (ho : ops[i]? = some o) (he : es[i]? = some e) (hw : ∀ p ∈ e.ws, p.1 ∈ opWrites o) (h2 : listed.getD i false = false) (h3 : Waits ops listed i) :
    e.app (stL (fun j => listed.getD j false) 0 es s) = stL (fun j => (listed.setIfInBounds i true).getD j false) 0 es s := by
  have hm := hM.hm
  have hil : i < listed.size := by omega
  rw [stL_insert (fun j => listed.getD j false) i e 0 es s (fun _ _ _ => trivial) (Nat.zero_le _) (by simpa using he) h2 ?_]
  · rw [show (fun j => (listed.setIfInBounds i true).getD j false) = fun j => listed.getD j false || j == i from funext fun j => getD_set _ _ _ hil]
  · intro k f hf' hik hl
    simp only [Nat.zero_add] at hik hl
    have hkm : k < n := by rw [← hE.len]; exact (List.getElem?_eq_some_iff.1 hf').1
    have hp : ops[k]? = some (ops[k]'(by omega)) := by simp
    obtain ⟨e'', r1, r2, r3, _⟩ := hE.he k _ hkm hp
    rw [hf'] at r1; injection r1 with r1; subst r1
    rcases hM.all k i _ _ hp ho hik with hin | ⟨_, hcf⟩
    · have := preds_listed ops.toList [] (by simp) hc (by simp) k (hc k hl) i hin
      rw [h2] at this; cases this
    · exact ⟨fun p hp' q hq hpq => absurd (hw p hp') (hcf.1 _ (hpq ▸ r2 q hq)).2, .inr r3⟩

/-- what of the two is made -/
def Made (n : Nat) (X Y : Nat × IObj) (listed : Array Bool) (ds : List (Nat × IObj)) : Prop :=
  (listed.getD n false = false ∧ listed.getD (n + 1) false = false ∧ ds = []) ∨ (listed.getD n false = true ∧ listed.getD (n + 1) false = false ∧ ds = [X]) ∨
  (listed.getD n false = false ∧ listed.getD (n + 1) false = true ∧ ds = [Y]) ∨ (listed.getD n false = true ∧ listed.getD (n + 1) false = true ∧ (ds = [X, Y] ∨ ds = [Y, X]))
theorem Made.sub {listed : Array Bool} {ds : List (Nat × IObj)} (h : Made n X Y listed ds) : ∀ p ∈ ds, p = X ∨ p = Y := by
  rcases h with ⟨_, _, rfl⟩ | ⟨_, _, rfl⟩ | ⟨_, _, rfl⟩ | ⟨_, _, rfl | rfl⟩ <;> simp

theorem alc_run (hM : AlcOK P n ops ox oy X Y) (hE : EffsOK P base n ops es s) (hxy : K (pushS [X, Y] (stL (fun _ => true) 0 es s))) (hyx : K (pushS [Y, X] (stL (fun _ => true) 0 es s)))
    (hfin : ∀ (listed : Array Bool) s' a' w', listed.size = ops.size → (∀ j, listed.getD j false = decide (j < n + 2)) → (∀ i, listed.getD i false = true → Waits ops listed i) → K s' → Rel κ s' a' w' → wpAnyIn κ.F 0 P .any ops Q (ops.size - (n + 2)) listed a' w') :
    ∀ (fuel : Nat) (listed : Array Bool) (ds : List (Nat × IObj)) (a : Act) (w : World), listed.toList.count false = fuel → listed.size = ops.size → (∀ i, listed.getD i false = true → i < n + 2) → (∀ i, listed.getD i false = true → Waits ops listed i) → Made n X Y listed ds →
    Rel κ (pushS ds (stL (fun j => listed.getD j false) 0 es s)) a w → wpAnyIn κ.F 0 P .any ops Q fuel listed a w := by
  have hm := hM.hm
  intro fuel
  induction fuel with
  | zero =>
    intro listed ds a w hf hs hlt hc hmd h
    have hall : ∀ i, i < ops.size → listed.getD i false = true := fun i hi => by
      by_cases e : listed.getD i false = true
      · exact e
      · exfalso
        have e' : listed[i]'(by omega) = false := by simpa [Array.getD, show i < listed.size by omega] using e
        have : 0 < listed.toList.count false := List.count_pos_iff.2 (by rw [← e']; simp)
        omega
    have hms : ops.size = n + 2 := by
      rcases Nat.lt_or_ge (n + 2) ops.size with h1 | h1
      · have := hlt (n + 2) (hall (n + 2) h1); omega
      · omega
    have hK : K (pushS ds (stL (fun j => listed.getD j false) 0 es s)) := by
      rw [stL_congr _ (fun _ => true) 0 es s fun k hk => by simpa using hall k (by have := hE.len; omega)]
      have q1 := hall n (by omega)
      have q2 := hall (n + 1) (by omega)
      rcases hmd with ⟨k1, _⟩ | ⟨_, k1, _⟩ | ⟨k1, _⟩ | ⟨_, _, rfl | rfl⟩
      · rw [q1] at k1; cases k1
      · rw [q2] at k1; cases k1
      · rw [q1] at k1; cases k1
      · exact hxy
      · exact hyx
    have := hfin listed _ a w hs (fun j => by
      by_cases e : j < n + 2
      · rw [hall j (by omega)]; simp [e]
      · have : ¬ listed.getD j false = true := fun hh => e (hlt j hh)
        simp [e]; simpa using this) hc hK h
    rwa [hms, Nat.sub_self] at this
  | succ fuel ih =>
    intro listed ds a w hf hs hlt hc hmd h
    by_cases hfi : ∀ i, i < n + 2 → listed.getD i false = true
    · have hlm : ∀ j, listed.getD j false = decide (j < n + 2) := fun j => by
        by_cases e : j < n + 2
        · rw [hfi j e]; simp [e]
        · have : ¬ listed.getD j false = true := fun hh => e (hlt j hh)
          simp [e]; simpa using this
      have hcnt := count_prefix hlm (by omega)
      rw [hf, hs] at hcnt
      have hK : K (pushS ds (stL (fun j => listed.getD j false) 0 es s)) := by
        rw [stL_congr _ (fun _ => true) 0 es s fun k hk => by simpa using hfi k (by have := hE.len; omega)]
        have q1 := hfi n (by omega)
        have q2 := hfi (n + 1) (by omega)
        rcases hmd with ⟨k1, _⟩ | ⟨_, k1, _⟩ | ⟨k1, _⟩ | ⟨_, _, rfl | rfl⟩
        · rw [q1] at k1; cases k1
        · rw [q2] at k1; cases k1
        · rw [q1] at k1; cases k1
        · exact hxy
        · exact hyx
      have := hfin listed _ a w hs hlm hc hK h
      rwa [show ops.size - (n + 2) = fuel + 1 by omega] at this
    · have hnil : Region.ready .any ops listed = [] → ∀ i, i < ops.size → listed.getD i false = true := fun hn i => by
        induction i using Nat.strongRecOn with
        | ind i ih =>
          intro hi
          refine Classical.byContradiction fun hno => ?_
          have : i ∈ Region.ready .any ops listed := (ready_iff hs).2 ⟨hi, by simpa using hno, fun o ho e he hb => by
            have := hM.lt i o ho e he hb
            exact ih e.on this (by omega)⟩
          rw [hn] at this; cases this
      refine ⟨fun hn => absurd (fun i hi => hnil hn i (by omega)) hfi, fun i hi => ?_⟩
      obtain ⟨h1, h2, h3⟩ := (ready_iff hs).1 hi
      have ho : ops[i]? = some ops[i] := by simp [h1]
      have him : i < n + 2 := by
        rcases Nat.lt_or_ge i (n + 2) with h' | h'
        · exact h'
        · exfalso
          refine hfi fun j hj => ?_
          rcases hM.all i j ops[i] (ops[j]'(by omega)) (by simp) (by simp) (by omega) with hin | ⟨hlm, _⟩
          · exact preds_listed ops.toList [] (by simp) hc (by simp) i h3 j hin
          · omega
      have hset := fun j => getD_set listed i j (by omega)
      have hcount : (listed.setIfInBounds i true).toList.count false = fuel := by
        have := count_set (l := listed) (i := i) (by omega) h2; omega
      have hlt' : ∀ j, (listed.setIfInBounds i true).getD j false = true → j < n + 2 := fun j hj => by
        rw [hset] at hj
        simp only [Bool.or_eq_true, beq_iff_eq] at hj
        rcases hj with hj | rfl
        · exact hlt j hj
        · exact him
      rcases Nat.lt_or_ge i n with hin | hin
      · -- a free one
        obtain ⟨e, q1, q2, q3, q4⟩ := hE.he i _ hin ho
        obtain ⟨x1, x2, x3⟩ := hM.xs i _ hin ho
        have hno : ∀ y, (y ∈ opUses ops.toList ops[i] ∨ y ∈ opWrites ops[i]) → ∀ p ∈ ds, p.1 ≠ y := fun y hy p hp e => by
          subst e
          rcases hmd.sub p hp with rfl | rfl
          · rcases hy with hy | hy
            · exact x2.1 hy
            · exact x2.2 hy
          · rcases hy with hy | hy
            · exact x3.1 hy
            · exact x3.2 hy
        have hag := alc_agree hM hE hc hin ho h2 h3 (s' := pushS ds (stL (fun j => listed.getD j false) 0 es s)) (fun y hy => pushS_get ds _ y (hno y (.inl hy))) fun id hid => by
          rw [pushS_hp, hE.hp hm, List.getElem?_append_left (by have := hE.hb; omega)]
        refine freeOp_sound h ho (q4 _ hag) fun s' a' w' hs' hr' => ?_
        subst hs'
        rw [app_pushS q3 ds _ (fun p hp q hq e => hno p.1 (.inr (q2 p hp)) q hq e.symm), alc_insert hM hE hs hc hin ho q1 q2 h2 h3] at hr'
        refine ih _ ds a' w' hcount (by simpa using hs) hlt' (waits_set (by omega) h3 hc) ?_ hr'
        unfold Made at hmd ⊢
        rw [hset, hset]
        have n1 : (n == i) = false := by simp; omega
        have n2 : (n + 1 == i) = false := by simp; omega
        rw [n1, n2, Bool.or_false, Bool.or_false]; exact hmd
      · -- one of the two
        have hsame : stL (fun j => (listed.setIfInBounds i true).getD j false) 0 es s = stL (fun j => listed.getD j false) 0 es s := by
          refine stL_congr _ _ 0 es s fun k hk => ?_
          have hkn : k < n := by have := hE.len; omega
          simp only [Nat.zero_add]
          rw [hset]
          have : (k == i) = false := by simp; omega
          rw [this, Bool.or_false]
        have hi2 : i = n ∨ i = n + 1 := by omega
        rcases hi2 with rfl | rfl
        · have hox : ops[i] = ox := by have := hM.hx; rw [ho] at this; injection this
          refine restOp_sound (rest := []) (K := fun s' => s' = pushS [X] (pushS ds (stL (fun j => listed.getD j false) 0 es s))) h hM.hx (by simp only [opsK, hM.gx]; exact hM.sx _ _ rfl) fun s' a' w' k1 k2 => ?_
          simp only [opsK] at k1
          subst k1
          have e1 : pushS [X] (pushS ds (stL (fun j => listed.getD j false) 0 es s)) = pushS (ds ++ [X]) (stL (fun j => (listed.setIfInBounds i true).getD j false) 0 es s) := by
            rw [hsame, pushS_snoc]; rfl
          rw [e1] at k2
          refine ih _ (ds ++ [X]) a' w' hcount (by simpa using hs) hlt' (waits_set (by omega) h3 hc) ?_ k2
          unfold Made at hmd ⊢
          rw [hset, hset]
          have n2 : (i + 1 == i) = false := by simp
          simp only [BEq.rfl, n2, Bool.or_true, Bool.or_false]
          rcases hmd with ⟨_, m2, rfl⟩ | ⟨m1, _⟩ | ⟨_, m2, rfl⟩ | ⟨m1, _⟩
          · exact .inr (.inl ⟨trivial, m2, rfl⟩)
          · rw [h2] at m1; cases m1
          · exact .inr (.inr (.inr ⟨trivial, m2, .inr rfl⟩))
          · rw [h2] at m1; cases m1
        · have hoy : ops[n + 1] = oy := by have := hM.hy; rw [ho] at this; injection this
          refine restOp_sound (rest := []) (K := fun s' => s' = pushS [Y] (pushS ds (stL (fun j => listed.getD j false) 0 es s))) h hM.hy (by simp only [opsK, hM.gy]; exact hM.sy _ _ rfl) fun s' a' w' k1 k2 => ?_
          simp only [opsK] at k1
          subst k1
          have e1 : pushS [Y] (pushS ds (stL (fun j => listed.getD j false) 0 es s)) = pushS (ds ++ [Y]) (stL (fun j => (listed.setIfInBounds (n + 1) true).getD j false) 0 es s) := by
            rw [hsame, pushS_snoc]; rfl
          rw [e1] at k2
          refine ih _ (ds ++ [Y]) a' w' hcount (by simpa using hs) hlt' (waits_set (by omega) h3 hc) ?_ k2
          unfold Made at hmd ⊢
          rw [hset, hset]
          have n2 : (n == n + 1) = false := by simp
          simp only [BEq.rfl, n2, Bool.or_true, Bool.or_false]
          rcases hmd with ⟨m1, _, rfl⟩ | ⟨m1, _, rfl⟩ | ⟨_, m2, _⟩ | ⟨_, m2, _⟩
          · exact .inr (.inr (.inl ⟨m1, trivial, rfl⟩))
          · exact .inr (.inr (.inr ⟨m1, trivial, .inl rfl⟩))
          · rw [h2] at m2; cases m2
          · rw [h2] at m2; cases m2

/-- THE LAW OF A DRAWN REGION with two variables that are made new. -/
theorem alc_sem {κ : Ctx} {a : Act} {w : World} (hM : AlcOK P n ops ox oy X Y)
    (hk : freeK P s.hp.length ops.toList (ops.toList.take n) s fun s' => K (pushS [X, Y] s') ∧ K (pushS [Y, X] s')) (hr : Rel κ s a w)
    (hfin : ∀ (listed : Array Bool) s' a' w', listed.size = ops.size → (∀ j, listed.getD j false = decide (j < n + 2)) → (∀ i, listed.getD i false = true → Waits ops listed i) → K s' → Rel κ s' a' w' → wpAnyIn κ.F 0 P .any ops Q (ops.size - (n + 2)) listed a' w') :
    wpAnyIn κ.F 0 P .any ops Q ops.size (Array.replicate ops.size false) a w := by
  have hm := hM.hm
  obtain ⟨es, h1, ⟨h2, h2'⟩, h3⟩ := free_effs (base := s.hp.length) (all := ops.toList) (Nat.le_refl _) (ops.toList.take n) s (Nat.le_refl _) hk
  have hE : EffsOK P s.hp.length n ops es s := by
    refine ⟨by rw [h1]; simp; omega, Nat.le_refl _, fun i o him ho => ?_⟩
    obtain ⟨e, q1, q2, q3, q4⟩ := h3 i o (by rw [List.getElem?_take_of_lt him]; simpa using ho)
    exact ⟨e, q1, q2, q3 (hM.xs i o him ho).1, q4⟩
  refine alc_run hM hE h2 h2' hfin ops.size _ [] a w (by simp) (by simp) (fun i hi => by simp [Array.getD] at hi) (fun i hi => by simp [Array.getD] at hi) (.inl ⟨by simp [Array.getD], by simp [Array.getD], rfl⟩) ?_
  have e0 : stL (fun j => (Array.replicate ops.size false).getD j false) 0 es s = s := by
    have : ∀ (es : List Eff) (i : Nat) (s : St), stL (fun _ => false) i es s = s := by
      intro es
      induction es with
      | nil => intros; rfl
      | cons e es ih => intro i s; simp only [stL, Bool.false_eq_true, if_false]; exact ih _ _
    rw [show (fun j => (Array.replicate ops.size false).getD j false) = fun _ => false from funext fun j => by simp [Array.getD]]
    exact this es 0 s
  rw [e0]; exact hr
end
end
/-! ### Free operations, and behind them the others in each order that may be; variables may be made ahead of their time -/
def isAllocB (o : Oper) : Bool := o.guard.isNone && o.dst.isSome && (match o.op with | .alloc _ => true | _ => false)
def checkPrevX (m0 i mask u w : Nat) (al : Bool) : Nat → List Seen → Bool
  | _, [] => true
  | j, p :: r => (Nat.testBit mask j || ((decide (i < m0) || al) && !conflictM u w false p.u p.w false) || decide (m0 ≤ j)) && checkPrevX m0 i mask u w al (j + 1) r
def alxGo (all : List Oper) (m0 : Nat) : Nat → List Oper → List Seen → List Nat → Bool
  | _, [], _, _ => true
  | i, o :: r, prev, acc => forceN (maskOf o acc) fun mask => forceN (maskL (opUses all o)) fun u => forceN (maskL (opWrites o)) fun w =>
      (o.after.toList.all fun e => !Region.binds .any e || decide (e.on < i)) && checkPrevX m0 i mask u w (isAllocB o) 0 prev && (!decide (i < m0) || !isAlloc o) && alxGo all m0 (i + 1) r (prev ++ [⟨u, w, false⟩]) (acc ++ [mask])
theorem checkPrevX_spec {m0 i mask u w : Nat} {al : Bool} : ∀ {l : List Seen} {j : Nat}, checkPrevX m0 i mask u w al j l = true → ∀ k p, l[k]? = some p → Nat.testBit mask (j + k) = true ∨ ((i < m0 ∨ al = true) ∧ conflictM u w false p.u p.w false = false) ∨ m0 ≤ j + k
  | [], _, _, k, p, hp => by simp at hp
  | q :: r, j, h, k, p, hp => by
    simp only [checkPrevX, Bool.and_eq_true, Bool.or_eq_true, decide_eq_true_eq, Bool.not_eq_true'] at h
    cases k with
    | zero => simp at hp; subst hp; rcases h.1 with (h | h) | h
              · exact .inl h
              · exact .inr (.inl h)
              · exact .inr (.inr h)
    | succ k =>
      have := checkPrevX_spec h.2 k p (by simpa using hp)
      rw [show j + (k + 1) = j + 1 + k by omega]; exact this
theorem alxGo_spec {all : List Oper} {m0 : Nat} : ∀ (rest : List Oper) (i : Nat) (prev : List Seen) (acc : List Nat), alxGo all m0 i rest prev acc = true → rest = all.drop i → acc.length = i → prev = (all.take i).map (fun o => ⟨maskL (opUses all o), maskL (opWrites o), false⟩) →
    ∀ k o, i ≤ k → all[k]? = some o → (∀ e ∈ o.after, Region.binds .any e = true → e.on < k) ∧ (k < m0 → isAlloc o = false) ∧ ∀ j p, j < k → all[j]? = some p → Nat.testBit ((predsL rest acc).getD k 0) j = true ∨ ((k < m0 ∨ isAllocB o = true) ∧ conf0 all o p) ∨ m0 ≤ j
  | [], i, prev, acc, _, hr, _, _, k, o, hk, ho => by
    have hlt := (List.getElem?_eq_some_iff.1 ho).1
    have := congrArg List.length hr
    simp at this; omega
  | q :: r, i, prev, acc, h, hr, ha, hp, k, o, hk, ho => by
    simp only [alxGo, forceN_eq, Bool.and_eq_true] at h
    obtain ⟨⟨⟨h1, h2⟩, h4⟩, h3⟩ := h
    have hq : all[i]? = some q := by have := congrArg (·[0]?) hr; simpa using this.symm
    have hil : i < all.length := (List.getElem?_eq_some_iff.1 hq).1
    rcases Nat.lt_or_eq_of_le hk with hlt | rfl
    · have := alxGo_spec r (i + 1) _ _ h3 (by have := congrArg List.tail hr; simpa [List.tail_drop] using this) (by simp [ha]) (by rw [hp, List.take_succ, hq]; simp) k o hlt ho
      simpa only [predsL] using this
    · rw [hq] at ho; injection ho with ho; subst ho
      refine ⟨fun e he hb => ?_, fun hi => by simpa [hi] using h4, fun j p hj hpj => ?_⟩
      · rw [List.all_eq_true] at h1
        have := h1 e (by simpa using he)
        simpa [hb] using this
      · have hpl : prev[j]? = some ⟨maskL (opUses all p), maskL (opWrites p), false⟩ := by
          rw [hp, List.getElem?_map, List.getElem?_take_of_lt hj, hpj]; rfl
        have := checkPrevX_spec h2 j _ hpl
        rw [Nat.zero_add] at this
        have hmask : (predsL (q :: r) acc).getD i 0 = maskOf q acc := by
          unfold predsL
          rw [predsL_get r _ i (by simp [ha]), List.getD, List.getElem?_append_right (by omega)]
          simp [ha]
        rw [hmask]; exact this.imp id fun h => h.imp (fun h => ⟨h.1, conf0_of h.2⟩) id

section
variable {P : Program} {κ : Ctx}
variable {ops : Array Oper} {n base : Nat} {Q : Exit → Act → World → Prop} {es : List Eff} {s : St}

/-- what is made by an operation that makes a variable -/
def madeBy (P : Program) (o : Oper) : Nat × IObj := (o.dst.getD 0, .var (match o.op with | .alloc u => (zeroVs P u).getD [] | _ => []))
def madeAt (P : Program) (ops : Array Oper) (i : Nat) : Nat × IObj := match ops[i]? with | some o => madeBy P o | none => (0, .var [])
theorem madeAt_eq {i : Nat} {o : Oper} (h : ops[i]? = some o) : madeAt P ops i = madeBy P o := by unfold madeAt; rw [h]

structure AlxOK (P : Program) (n : Nat) (ops : Array Oper) : Prop where
  lt : ∀ i o, ops[i]? = some o → ∀ e ∈ o.after, Region.binds .any e = true → e.on < i
  na : ∀ i o, i < n → ops[i]? = some o → isAlloc o = false
  all : ∀ i j o p, ops[i]? = some o → ops[j]? = some p → j < i → j < n → Nat.testBit ((predsL ops.toList []).getD i 0) j = true ∨ ((i < n ∨ isAllocB o = true) ∧ conf0 ops.toList o p)
  hm : n ≤ ops.size

theorem alxE_hp (hE : EffsOK P base n ops es s) (hm : n ≤ ops.size) (L : Nat → Bool) : (stL L 0 es s).hp = s.hp := by
  refine stL_hp_none L 0 es s fun k e hk _ => ?_
  have hkm : k < n := by rw [← hE.len]; exact (List.getElem?_eq_some_iff.1 hk).1
  obtain ⟨e', h1, _, h3, _⟩ := hE.he k (ops[k]'(by omega)) hkm (by simp)
  rw [hk] at h1; injection h1 with h1; subst h1; exact h3

theorem alx_agree (hM : AlxOK P n ops) (hE : EffsOK P base n ops es s) {listed : Array Bool} (hc : ∀ i, listed.getD i false = true → Waits ops listed i) {i : Nat} {o : Oper} (him : i < n) (ho : ops[i]? = some o) (h2 : listed.getD i false = false) (h3 : Waits ops listed i) {s' : St}
    (htm : ∀ y ∈ opUses ops.toList o, s'.tm[y]? = (stL (fun j => listed.getD j false) 0 es s).tm[y]?) (hhp : ∀ id, id < base → s'.hp[id]? = s.hp[id]?) : Agree ops.toList base o (stL (fun _ => true) 0 (es.take i) s) s' := by
  have hm := hM.hm
  have hpre : ∀ j, Nat.testBit ((predsL ops.toList []).getD i 0) j = true → listed.getD j false = true := preds_listed ops.toList [] (by simp) hc (by simp) i h3
  rw [stL_take]
  constructor
  · intro y hy
    rw [htm y hy]
    refine stL_get _ _ y 0 es s s rfl rfl fun k e' hk hw => ?_
    have hkm : k < n := by rw [← hE.len]; exact (List.getElem?_eq_some_iff.1 hk).1
    simp only [Nat.zero_add]
    have hp : ops[k]? = some (ops[k]'(by omega)) := by simp
    obtain ⟨e'', r1, r2, _⟩ := hE.he k _ hkm hp
    rw [hk] at r1; injection r1 with r1; subst r1
    obtain ⟨pr, hpr, hprx⟩ := hw
    have hxw : y ∈ opWrites (ops[k]'(by omega)) := by rw [← hprx]; exact r2 pr hpr
    rcases Nat.lt_trichotomy k i with hlt | rfl | hgt
    · rcases hM.all i k _ _ ho hp hlt hkm with hin | ⟨_, hcf⟩
      · rw [hpre k hin]; simp [hlt]
      · exact absurd hy (hcf.2 y hxw)
    · rw [h2]; simp
    · have : listed.getD k false = false := by
        by_cases hl : listed.getD k false = true
        · rcases hM.all k i _ _ hp ho hgt him with hin | ⟨_, hcf⟩
          · have := preds_listed ops.toList [] (by simp) hc (by simp) k (hc k hl) i hin
            rw [h2] at this; cases this
          · exact absurd hy (hcf.1 y hxw).1
        · simpa using hl
      rw [this]; simp; omega
  · intro id hid
    obtain ⟨t, e⟩ := stL_hp (fun j => decide (j < 0 + i)) 0 es s
    rw [e, hhp id hid, List.getElem?_append_left (by have := hE.hb; omega)]
  · intro hal
    rw [hM.na i o him ho] at hal; cases hal

theorem alx_insert (hM : AlxOK P n ops) (hE : EffsOK P base n ops es s) {listed : Array Bool} (hs : listed.size = ops.size) (hc : ∀ i, listed.getD i false = true → Waits ops listed i) {i : Nat} {o : Oper} {e : Eff} (him : i < n) (ho : ops[i]? = some o) (he : es[i]? = some e) (hw : ∀ p ∈ e.ws, p.1 ∈ opWrites o) (h2 : listed.getD i false = false) (h3 : Waits ops listed i) :
    e.app (stL (fun j => listed.getD j false) 0 es s) = stL (fun j => (listed.setIfInBounds i true).getD j false) 0 es s := by
  have hm := hM.hm
  have hil : i < listed.size := by omega
  rw [stL_insert (fun j => listed.getD j false) i e 0 es s (fun _ _ _ => trivial) (Nat.zero_le _) (by simpa using he) h2 ?_]
  · rw [show (fun j => (listed.setIfInBounds i true).getD j false) = fun j => listed.getD j false || j == i from funext fun j => getD_set _ _ _ hil]
  · intro k f hf' hik hl
    simp only [Nat.zero_add] at hik hl
    have hkm : k < n := by rw [← hE.len]; exact (List.getElem?_eq_some_iff.1 hf').1
    have hp : ops[k]? = some (ops[k]'(by omega)) := by simp
    obtain ⟨e'', r1, r2, r3, _⟩ := hE.he k _ hkm hp
    rw [hf'] at r1; injection r1 with r1; subst r1
    rcases hM.all k i _ _ hp ho hik him with hin | ⟨_, hcf⟩
    · have := preds_listed ops.toList [] (by simp) hc (by simp) k (hc k hl) i hin
      rw [h2] at this; cases this
    · exact ⟨fun p hp' q hq hpq => absurd (hw p hp') (hcf.1 _ (hpq ▸ r2 q hq)).2, .inr r3⟩

theorem alx_run (hM : AlxOK P n ops) (hE : EffsOK P base n ops es s) {V : List Nat → Prop}
    (hstep : ∀ ds i o, V ds → n ≤ i → ops[i]? = some o → isAllocB o = true → i ∉ ds → (∀ e ∈ o.after, Region.binds .any e = true → e.on < n ∨ e.on ∈ ds) → (∃ u cs, o.op = .alloc u ∧ zeroVs P u = some cs) ∧ V (i :: ds))
    (hfin : ∀ (fuel : Nat) (listed : Array Bool) (ds : List Nat) a' w', listed.toList.count false = fuel → listed.size = ops.size → (∀ j, listed.getD j false = (decide (j < n) || ds.contains j)) → (∀ i, listed.getD i false = true → Waits ops listed i) → ds.Nodup → (∀ d ∈ ds, n ≤ d ∧ d < ops.size) → V ds →
      Rel κ (pushS (ds.reverse.map (madeAt P ops)) (stL (fun _ => true) 0 es s)) a' w' → wpAnyIn κ.F 0 P .any ops Q fuel listed a' w') :
    ∀ (fuel : Nat) (listed : Array Bool) (ds : List Nat) (a : Act) (w : World), listed.toList.count false = fuel → listed.size = ops.size → (∀ i, n ≤ i → listed.getD i false = ds.contains i) → (∀ d ∈ ds, n ≤ d ∧ d < ops.size ∧ ∃ o, ops[d]? = some o ∧ isAllocB o = true) → ds.Nodup → (∀ i, listed.getD i false = true → Waits ops listed i) → V ds →
    Rel κ (pushS (ds.reverse.map (madeAt P ops)) (stL (fun j => listed.getD j false) 0 es s)) a w → wpAnyIn κ.F 0 P .any ops Q fuel listed a w := by
  have hm := hM.hm
  have hdone : ∀ (fuel : Nat) (listed : Array Bool) (ds : List Nat) (a : Act) (w : World), listed.toList.count false = fuel → listed.size = ops.size → (∀ i, n ≤ i → listed.getD i false = ds.contains i) → (∀ d ∈ ds, n ≤ d ∧ d < ops.size ∧ ∃ o, ops[d]? = some o ∧ isAllocB o = true) → ds.Nodup → (∀ i, listed.getD i false = true → Waits ops listed i) → V ds →
      Rel κ (pushS (ds.reverse.map (madeAt P ops)) (stL (fun j => listed.getD j false) 0 es s)) a w → (∀ i, i < n → listed.getD i false = true) → wpAnyIn κ.F 0 P .any ops Q fuel listed a w := by
    intro fuel listed ds a w hf hs hld hds hnd hc hv h hfi
    rw [stL_congr _ (fun _ => true) 0 es s fun k hk => by simpa using hfi k (by have := hE.len; omega)] at h
    refine hfin fuel listed ds a w hf hs (fun j => ?_) hc hnd (fun d hd => ⟨(hds d hd).1, (hds d hd).2.1⟩) hv h
    by_cases e : j < n
    · rw [hfi j e]; simp [e]
    · rw [hld j (by omega)]; simp [e]
  intro fuel
  induction fuel with
  | zero =>
    intro listed ds a w hf hs hld hds hnd hc hv h
    refine hdone 0 listed ds a w hf hs hld hds hnd hc hv h fun i hi => ?_
    by_cases e : listed.getD i false = true
    · exact e
    · exfalso
      have e' : listed[i]'(by omega) = false := by simpa [Array.getD, show i < listed.size by omega] using e
      have : 0 < listed.toList.count false := List.count_pos_iff.2 (by rw [← e']; simp)
      omega
  | succ fuel ih =>
    intro listed ds a w hf hs hld hds hnd hc hv h
    by_cases hfi : ∀ i, i < n → listed.getD i false = true
    · exact hdone _ listed ds a w hf hs hld hds hnd hc hv h hfi
    have hnil : Region.ready .any ops listed = [] → ∀ i, i < ops.size → listed.getD i false = true := fun hn i => by
      induction i using Nat.strongRecOn with
      | ind i ih =>
        intro hi
        refine Classical.byContradiction fun hno => ?_
        have : i ∈ Region.ready .any ops listed := (ready_iff hs).2 ⟨hi, by simpa using hno, fun o ho e he hb => by
          have := hM.lt i o ho e he hb
          exact ih e.on this (by omega)⟩
        rw [hn] at this; cases this
    refine ⟨fun hn => absurd (fun i hi => hnil hn i (by omega)) hfi, fun i hi => ?_⟩
    obtain ⟨h1, h2, h3⟩ := (ready_iff hs).1 hi
    have ho : ops[i]? = some ops[i] := by simp [h1]
    have hset := fun j => getD_set listed i j (by omega)
    have hcount : (listed.setIfInBounds i true).toList.count false = fuel := by
      have := count_set (l := listed) (i := i) (by omega) h2; omega
    rcases Nat.lt_or_ge i n with hin | hin
    · obtain ⟨e, q1, q2, q3, q4⟩ := hE.he i _ hin ho
      have hno : ∀ y, (y ∈ opUses ops.toList ops[i] ∨ y ∈ opWrites ops[i]) → ∀ p ∈ ds.reverse.map (madeAt P ops), p.1 ≠ y := fun y hy p hp e => by
        obtain ⟨d, hd, rfl⟩ := List.mem_map.1 hp
        rw [List.mem_reverse] at hd
        obtain ⟨k1, k2, o, k3, k4⟩ := hds d hd
        rw [madeAt_eq k3] at e
        have hw : y ∈ opWrites o := by
          unfold isAllocB at k4
          simp only [Bool.and_eq_true, Option.isSome_iff_exists] at k4
          obtain ⟨⟨_, d', hd'⟩, _⟩ := k4
          simp only [madeBy, hd', Option.getD_some] at e
          subst e
          exact List.mem_append_left _ (by simp [hd'])
        have hdl : listed.getD d false = true := by rw [hld d k1]; simpa using hd
        rcases hM.all d i _ _ k3 ho (by omega) hin with hin2 | ⟨_, hcf⟩
        · have := preds_listed ops.toList [] (by simp) hc (by simp) d (hc d hdl) i hin2
          rw [h2] at this; cases this
        · rcases hy with hy | hy
          · exact (hcf.1 y hw).1 hy
          · exact (hcf.1 y hw).2 hy
      have hag := alx_agree hM hE hc hin ho h2 h3 (s' := pushS (ds.reverse.map (madeAt P ops)) (stL (fun j => listed.getD j false) 0 es s)) (fun y hy => pushS_get _ _ y (hno y (.inl hy))) fun id hid => by
        rw [pushS_hp, alxE_hp hE hm, List.getElem?_append_left (by have := hE.hb; omega)]
      refine freeOp_sound h ho (q4 _ hag) fun s' a' w' hs' hr' => ?_
      subst hs'
      rw [app_pushS q3 _ _ (fun p hp q hq e => hno p.1 (.inr (q2 p hp)) q hq e.symm), alx_insert hM hE hs hc hin ho q1 q2 h2 h3] at hr'
      refine ih _ ds a' w' hcount (by simpa using hs) (fun k hk => ?_) hds hnd (waits_set (by omega) h3 hc) hv hr'
      rw [hset, hld k hk]
      have : (k == i) = false := by simp; omega
      rw [this, Bool.or_false]
    · have hal : isAllocB ops[i] = true := by
        obtain ⟨j, hj⟩ := Classical.not_forall.1 hfi
        obtain ⟨hj, hjl⟩ := Classical.not_imp.1 hj
        rcases hM.all i j ops[i] (ops[j]'(by omega)) ho (by simp) (by omega) hj with hin2 | ⟨hh, _⟩
        · exact absurd (preds_listed ops.toList [] (by simp) hc (by simp) i h3 j hin2) hjl
        · rcases hh with hh | hh
          · omega
          · exact hh
      have hnd2 : i ∉ ds := fun hh => by
        rw [hld i hin] at h2
        simp [hh] at h2
      obtain ⟨⟨u, cs, hop, hz⟩, hv'⟩ := hstep ds i _ hv hin ho hal hnd2 (fun e he hb => by
        have hl := h3 _ ho e he hb
        rcases Nat.lt_or_ge e.on n with k | k
        · exact .inl k
        · rw [hld _ k] at hl
          exact .inr (by simpa using hl))
      have hal' := hal
      unfold isAllocB at hal'
      simp only [Bool.and_eq_true, Option.isSome_iff_exists, Option.isNone_iff_eq_none] at hal'
      obtain ⟨⟨hg, d', hd'⟩, _⟩ := hal'
      have hst : stepK P ops[i] [] (pushS (ds.reverse.map (madeAt P ops)) (stL (fun j => listed.getD j false) 0 es s)) fun s' => s' = pushS [madeAt P ops i] (pushS (ds.reverse.map (madeAt P ops)) (stL (fun j => listed.getD j false) 0 es s)) := by
        simp only [stepK, hop, hz, hd', madeAt_eq ho, madeBy, pushS, Option.getD_some]
      refine restOp_sound (rest := []) (K := fun s' => s' = pushS [madeAt P ops i] (pushS (ds.reverse.map (madeAt P ops)) (stL (fun j => listed.getD j false) 0 es s))) h ho (by simp only [opsK, hg]; exact hst) fun s' a' w' k1 k2 => ?_
      simp only [opsK] at k1
      subst k1
      have hsame : stL (fun j => (listed.setIfInBounds i true).getD j false) 0 es s = stL (fun j => listed.getD j false) 0 es s := by
        refine stL_congr _ _ 0 es s fun k hk => ?_
        have hkn : k < n := by have := hE.len; omega
        simp only [Nat.zero_add]
        rw [hset]
        have : (k == i) = false := by simp; omega
        rw [this, Bool.or_false]
      have e1 : pushS [madeAt P ops i] (pushS (ds.reverse.map (madeAt P ops)) (stL (fun j => listed.getD j false) 0 es s)) = pushS ((i :: ds).reverse.map (madeAt P ops)) (stL (fun j => (listed.setIfInBounds i true).getD j false) 0 es s) := by
        rw [hsame, List.reverse_cons, List.map_append, List.map_cons, List.map_nil, pushS_snoc]; rfl
      rw [e1] at k2
      refine ih _ (i :: ds) a' w' hcount (by simpa using hs) (fun k hk => ?_) (fun d hd => ?_) (List.nodup_cons.2 ⟨hnd2, hnd⟩) (waits_set (by omega) h3 hc) hv' k2
      · rw [hset, hld k hk, List.contains_cons, Bool.or_comm]
      · rcases List.mem_cons.1 hd with rfl | hd
        · exact ⟨hin, h1, _, ho, hal⟩
        · exact hds d hd
end
end Go.Idl
end
