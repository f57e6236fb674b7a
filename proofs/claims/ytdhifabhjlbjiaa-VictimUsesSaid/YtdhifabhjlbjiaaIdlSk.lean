/- The keys of a map of numbers, sorted: the library's contract in my logic's words. -/
import Derived.Shelf.SlIterI.Nil
import Derived.Test.YtdhifabhjlbjiaaIdlThree
set_option linter.all false
namespace Go.Idl
open Go.Maps Go.WideElems Go.Proofs Go.RowKit
set_option linter.unusedSimpArgs false
set_option linter.unusedVariables false

section
variable {P : Program} {κ : Ctx} {Φ : CM} {B : List Nat} {au : Auth} {s : St} {a : Act} {w : World}
/-- a block that was made meanwhile: its first cells are immutable from now on, its others a slot's -/
theorem Inv.layAt (h : Inv κ Φ B au s a w) {w' : World} (gr : Grows w w') {G : Nat} (hG : w.heap.size ≤ G) {c : Array Value} {el : TypeId} (hnewb : w'.heap[G]? = some (.cells c el (0, 0))) {vs : List Value} {z : Nat} {xs : List D} (hr : RepL Φ (xs.flatMap D.flat) vs) (hz : ∀ x ∈ xs, x.flat.length = z) (d cap : Nat) (hcap : xs.length ≤ cap) (ht : c.toList.take vs.length = vs) (hsz : c.size = cap * z) :
    ∃ Φ' au', Inv κ Φ' B au' (s.put (some d) (.own z xs)) (a.put (some d) (.slice (some ⟨G, 0, none⟩) xs.length cap)) w' := by
  have g := h.grow gr
  have hnew : au G = none := by
    cases e : au G with
    | none => rfl
    | some x => have := (h.auw _ _ _ e).1; omega
  have hΦ : ∀ lb o' v, Φ lb G o' ≠ some v := by
    intro lb o' v e
    have := h.phi _ _ _ _ e
    unfold World.cell? at this
    rw [Array.getElem?_eq_none hG] at this
    simp at this
  have hlen : vs.length = xs.length * z := by rw [← hr.get.1, flat_length hz]
  have hle : Φ.le (Φ.add G 0 vs) := CM.le_add fun lb o' v _ _ => hΦ lb o' v
  let au' : Auth := fun b => if b = G then some (.slot d 0, vs.length) else au b
  have hau : ∀ b h0 st, au b = some (h0, st) → au' b = some (h0, st) := fun b h0 st e => by
    simp only [au']; rw [if_neg]; exact e
    rintro rfl; rw [hnew] at e; cases e
  have hrep : RepD (Φ.add G 0 vs) (.sl false z xs) (.slice (some ⟨G, 0, none⟩) xs.length cap) := by
    by_cases hne : xs = []
    · subst hne; exact .sl0
    · refine .sl hne hcap (.ofFlat ?_ hz)
      exact (hr.mono hle).cellsAt fun j v hj => CM.add_get j v hj
  have i1 : Inv κ (Φ.add G 0 vs) B au' s a w' := by
    refine { g with phi := fun lb b o v e => ?_, phia := fun lb b o v h0 st hp e => ?_, auw := fun b h0 st e => ?_, lePhi := h.lePhi.trans hle, tm := fun i V v hV hv => ?_, hp := fun id o b ho hb => ?_, df := ?_, src := fun lb b o v e => ?_ }
    · unfold CM.add at e
      split at e
      · rename_i hc
        obtain ⟨rfl, _, h2⟩ := hc
        rw [cell_of hnewb]
        simp only [Nat.sub_zero] at e
        have hol : o < vs.length := (List.getElem?_eq_some_iff.1 e).1
        rw [← Array.getElem?_toList]
        rw [← ht, List.getElem?_take_of_lt hol] at e; exact e
      · exact g.phi _ b o v e
    · simp only [au'] at e
      split at e
      · rename_i eb; subst eb
        injection e with e; injection e with _ e; subst e
        unfold CM.add at hp
        split at hp
        · rename_i hc; omega
        · exact absurd hp (hΦ _ _ _)
      · rename_i eb
        unfold CM.add at hp
        rw [if_neg (fun hc => eb hc.1)] at hp
        exact h.phia _ b o v h0 st hp e
    · simp only [au'] at e
      split at e
      · rename_i eb; subst eb; exact ⟨(Array.getElem?_eq_some_iff.1 hnewb).1, .inr (Nat.le_trans h.size hG)⟩
      · exact g.auw b h0 st e
    · obtain ⟨k1, k2⟩ := g.tm i V v hV hv
      exact ⟨k1.mono hle (fun _ _ h => h), k2.mono fun j b st e => ⟨hau b _ st e, rfl⟩⟩
    · exact (g.hp id o b ho hb).mono hle (fun _ _ h => h) (fun e => ⟨hau b _ _ e, rfl⟩) (fun j b st e => ⟨hau b _ st e, rfl⟩)
    · obtain ⟨rs, h1, h2, h3⟩ := h.df
      refine ⟨rs, h1, h2, fun r hr => ?_⟩
      obtain ⟨x, y, z⟩ := h3 r hr
      have hlt := lt_of_heap x
      refine ⟨gr.same r hlt ▸ x, ?_, z⟩
      simp only [au']; rw [if_neg (by omega)]; exact y
    · unfold CM.add at e
      split at e
      · rename_i hc; right; right; rw [hc.1]; exact Nat.le_trans h.size hG
      · exact h.src _ b o v e
  refine ⟨_, au', i1.put (some d) (.own hrep) fun d' hd' => ?_⟩
  injection hd' with hd'; subst hd'
  refine ⟨_, _, _, rfl, .inr ⟨G, 0, _, el, rfl, by simp only [au']; simp [hlen], hnewb, by rw [hsz]; omega⟩⟩
end

theorem grows_below {w w' : World} (h : Below w.heap.size w w') : Grows w w' := ⟨h.size, h.block, h.tape, h.os, h.output⟩

/-- the number of a key -/
def keyI (d : D) : Int := match d with | .int _ n => n | _ => 0
/-- a map's numbers, sorted -/
def sortedKeys (es : List (Nat × D × V)) : List Int := (es.map fun e => keyI e.2.1).mergeSort fun x y => decide (x ≤ y)

/-- what a map of numbers must be for it -/
structure NumMap (clock : Nat) (es : List (Nat × D × V)) : Prop where
  key : ∀ e ∈ es, ∃ n, e.2.1 = .int .i64 n ∧ -9223372036854775808 ≤ n ∧ n ≤ 9223372036854775807
  nodup : (es.map fun e => keyI e.2.1).Nodup
  born : ∀ e ∈ es, e.1 < clock
  borns : (es.map (·.1)).Nodup
  size : es.length * 8 ≤ 140737488355328

theorem callK_sortedKeys {P : Program} {f g : FuncId} {kt et : TypeId} (hkt : P.underlying kt = some (.int .i64))
    (hC : ∀ (bm b nn : Nat) (D0 : DataW Unit) (R : Value → Option (DataW Unit × List MemPlace)) (w : World), bm < w.heap.size → w.cell? ⟨bm, 0, none⟩ = some (.map (some b)) → w.ownsMap P kt R b nn D0 → Maps.size D0 ≤ maxLen → Maps.size D0 * 8 ≤ 140737488355328 →
      CallsIn Fence.wide 5 P f #[.func (.func g) #[] #[.pointer (some ⟨bm, 0, none⟩)]] w fun e w' => ∃ (v : Value) (ss : List Int), e = .returned v ∧ ss.Perm (intKeys D0) ∧
        w'.ownsRow w.heap.size et 1 v ss.length ((ss.mergeSort (fun x y => decide (x ≤ y))).map encZ) ∧ (v = .slice none 0 0 ↔ ss = []) ∧ Below w.heap.size w w')
    {hp : List IObj} {K : V → List IObj → Prop} {id m clock : Nat} {es : List (Nat × D × V)} (h1 : hp[id]? = some (.var [.map m])) (h2 : hp[m]? = some (.map clock es)) (hn : NumMap clock es)
    (hk : K (if es = [] then .nil 1 else .own 1 ((sortedKeys es).map fun n => .int .i64 n)) hp) : CallK P f [.fn (.func g) [.ptr id 0]] hp K := by
  intro Φ B au w cargs hi
  obtain ⟨v0, rfl⟩ : ∃ v0, cargs = #[v0] := by
    have hl : cargs.size = 1 := hi.tl.symm
    rcases cargs with ⟨_ | ⟨x, _ | ⟨y, l⟩⟩⟩ <;> simp at hl
    exact ⟨x, rfl⟩
  have hv0 := (hi.tm 0 _ v0 rfl rfl).1
  cases hv0 with
  | fn hcs =>
  rename_i cs
  cases hcs with
  | cons hp1 hnil =>
  cases hnil
  cases hp1 with
  | ptr hB =>
  rename_i bm
  obtain ⟨_, c, el, hcell, hcsz, hcv⟩ := hi.hp id _ bm h1 hB
  obtain ⟨v1, hv1, hok1, hrep1, how1⟩ := hcv 0 _ rfl
  cases hrep1 with
  | map hBm =>
  rename_i b
  obtain ⟨_, ms, hmb, hmsz, hms⟩ := hi.hp m _ b h2 hBm
  have hbl : bm < w.heap.size := (Array.getElem?_eq_some_iff.1 hcell).1
  -- the map as the kit says it
  let R : Value → Option (DataW Unit × List MemPlace) := fun _ => some (.lit (.bool true), [])
  have hent : ∀ (i : Nat) (h : i < es.length), ∃ (e : MapEntry) (n : Int), ms.toList[i]? = some e ∧ e.born = es[i].1 ∧ e.key = encZ n ∧ keyI es[i].2.1 = n ∧ keyOf P kt e.key = some (.int .i64 n) := fun i h => by
    obtain ⟨e, q1, q2, q3, q4⟩ := hms i es[i].1 es[i].2.1 es[i].2.2 (by simp [h])
    obtain ⟨n, k1, k2, k3⟩ := hn.key _ (List.getElem_mem h)
    rw [k1] at q3
    have ek : e.key = encZ n := (fun (u : Value) (h : RepD Φ (.int .i64 n) u) => (by cases h; rfl : u = encZ n)) _ q3
    refine ⟨e, n, by rw [Array.getElem?_toList]; exact q1, q2, ek, by rw [k1]; rfl, ?_⟩
    rw [ek]
    exact keyOf_int_mk hkt (by
      have a1 : IntKind.i64.min = -9223372036854775808 := by decide
      have a2 : IntKind.i64.max = 9223372036854775807 := by decide
      simp [Lit.wf, a1, a2]; omega)
  have hmlen : ms.toList.length = es.length := by simp [hmsz]
  have hget : ∀ (i : Nat) (h : i < es.length), ∃ h' : i < ms.toList.length, ms.toList[i].born = es[i].1 ∧ ms.toList[i].key = encZ (keyI es[i].2.1) ∧ keyOf P kt ms.toList[i].key = some (.int .i64 (keyI es[i].2.1)) := fun i h => by
    obtain ⟨e, n, q1, q2, q3, q4, q5⟩ := hent i h
    obtain ⟨hlt, he⟩ := List.getElem?_eq_some_iff.1 q1
    subst he; subst q4
    exact ⟨hlt, q2, q3, q5⟩
  have hborn : ms.toList.map (·.born) = es.map (·.1) := List.ext_getElem (by simp [hmsz]) fun i h1 h2 => by
    simp only [List.length_map] at h2
    obtain ⟨h', q, _⟩ := hget i h2
    simpa using q
  have hkeys : ms.toList.map (·.key) = (es.map fun e => keyI e.2.1).map encZ := List.ext_getElem (by simp [hmsz]) fun i h1 h2 => by
    simp only [List.length_map] at h2
    obtain ⟨h', _, q, _⟩ := hget i h2
    simpa using q
  have hrg : ms.toList.map (rg P kt R) = (es.map fun e => keyI e.2.1).map fun n => (Lit.int .i64 n, DataW.lit (.bool true)) := List.ext_getElem (by simp [hmsz]) fun i h1 h2 => by
    simp only [List.length_map] at h2
    obtain ⟨h', _, _, q⟩ := hget i h2
    simp only [List.getElem_map]
    exact rg_of (by unfold rd; rw [q]; rfl)
  have hmaxl : es.length ≤ maxLen := by
    have := hn.size
    have : (140737488355328 : Nat) ≤ maxLen := by decide
    omega
  let D0 : DataW Unit := .map ((ms.toList.map (rg P kt R)).foldr DataW.insert [])
  have hperm := Go.WideShapes.sorted_perm (ms.toList.map (rg P kt R))
  have hown : w.ownsMap P kt R b es.length D0 := by
    refine ⟨ms, clock, hmb, ⟨by rw [hmsz]; exact hmaxl, ⟨fun x hx => ?_, ?_, ?_⟩, fun x hx => ?_⟩, by rw [hmsz]; exact Nat.le_refl _, rfl⟩
    · have : x.born ∈ es.map (·.1) := by rw [← hborn]; exact List.mem_map.2 ⟨x, hx, rfl⟩
      obtain ⟨e, he, q⟩ := List.mem_map.1 this
      rw [← q]; exact hn.born e he
    · rw [hborn]; exact hn.borns
    · rw [hkeys]
      have hinj : ∀ l : List Int, l.Nodup → (l.map encZ).Nodup := fun l hl => by
        rw [List.nodup_iff_pairwise_ne, List.pairwise_map]
        exact (List.nodup_iff_pairwise_ne.1 hl).imp fun h e => h (encZ_inj e)
      exact hinj _ hn.nodup
    · obtain ⟨i, hi', rfl⟩ := List.getElem_of_mem hx
      obtain ⟨_, _, _, q⟩ := hget i (by omega)
      exact ⟨_, by unfold rd; rw [q]; rfl⟩
  have hsz : Maps.size D0 = es.length := by
    show (List.foldr DataW.insert [] _).length = _
    rw [hperm.length_eq]; simp [hmsz]
  have hik : (intKeys D0).Perm (es.map fun e => keyI e.2.1) := by
    have h1 : intKeys D0 = ((ms.toList.map (rg P kt R)).foldr DataW.insert []).map fun p => intOf p.1 := rfl
    rw [h1]
    refine (hperm.map _).trans ?_
    rw [hrg, List.map_map]
    have : ((fun p : Lit × DataW Unit => intOf p.1) ∘ fun n : Int => (Lit.int .i64 n, DataW.lit (.bool true))) = _root_.id := rfl
    rw [this, List.map_id]
  have hcall := hC bm b es.length D0 R w hbl (by rw [cell_of hcell]; exact hv1) hown (by rw [hsz]; exact hmaxl) (by rw [hsz]; exact hn.size)
  refine (callsIn_wide (n := 0)).2 ((callsIn_wide (n := 5)).1 (hcall.mono ?_))
  rintro e w' ⟨v, ss, rfl, hS, hrow, hnil, hb⟩
  have hgr := grows_below hb
  have hpk : ss.Perm (es.map fun e => keyI e.2.1) := hS.trans hik
  have hsort : (ss.mergeSort fun x y => decide (x ≤ y)) = sortedKeys es := mergeSort_of_perm_i hpk
  have hlen : ss.length = es.length := by rw [hpk.length_eq]; simp
  have hbase : ∀ (V : V) (u : Value) Φ' au', Inv (Ctx.at_ Φ B au w) Φ' B au' ((⟨[.fn (.func g) [.ptr id 0]], hp, hp.length⟩ : St).put (some 0) V) ((⟨#[.func (.func g) #[] #[.pointer (some ⟨bm, 0, none⟩)]], []⟩ : Act).put (some 0) u) w' → Rel (Ctx.at_ Φ B au w) ⟨[V], hp, hp.length⟩ ⟨#[u], []⟩ w' := fun V u Φ' au' h => ⟨Φ', B, au', by simpa [St.put, Act.put] using h⟩
  by_cases he : es = []
  · subst he
    have hss : ss = [] := List.length_eq_zero_iff.1 (by simpa using hlen)
    rw [hnil.2 hss]
    refine ⟨_, .nil 1, hp, rfl, by simpa using hk, hbase _ _ Φ au ((hi.grow hgr).put (some 0) .nil fun _ _ => trivial)⟩
  · rcases hrow.2 with ⟨rfl, hz⟩ | ⟨G, cap, cur, rfl, hG, hGb, q1, q2, q3, q4⟩
    · exfalso
      have : es.length = 0 := by omega
      exact he (List.length_eq_zero_iff.1 this)
    · rw [hsort] at q4
      rw [Nat.mul_one] at q3 q4
      have hskl : (sortedKeys es).length = ss.length := by rw [← hsort]; simp
      obtain ⟨Φ', au', hfin⟩ := hi.layAt hgr hG hGb (vs := (sortedKeys es).map encZ) (z := 1) (xs := (sortedKeys es).map fun n => D.int .i64 n)
        (RepL.of (by induction sortedKeys es with | nil => rfl | cons x l ih => simp [D.flat] at ih ⊢; exact ih) fun j d c hd hc => by
          have e1 : ((sortedKeys es).map fun n => D.int .i64 n).flatMap D.flat = (sortedKeys es).map fun n => D.int .i64 n := by
            induction sortedKeys es with
            | nil => rfl
            | cons x l ih => simp only [List.map_cons, List.flatMap_cons, ih]; rfl
          rw [e1] at hd
          rw [List.getElem?_map] at hd hc
          cases hx : (sortedKeys es)[j]? with
          | none => rw [hx] at hd; cases hd
          | some n =>
            rw [hx] at hd hc
            simp at hd hc
            subst hd; subst hc
            exact ⟨trivial, .int _ _⟩)
        (fun x hx => by obtain ⟨n, _, rfl⟩ := List.mem_map.1 hx; rfl) 0 cap (by simp; omega) (by simp only [List.length_map]; rw [hskl]; exact q4) (by simpa using q3)
      refine ⟨_, _, hp, rfl, by rw [if_neg he] at hk; exact hk, hbase _ _ Φ' au' ?_⟩
      have : ((sortedKeys es).map fun n => D.int .i64 n).length = ss.length := by simp [hskl]
      rw [this] at hfin
      exact hfin
end Go.Idl
