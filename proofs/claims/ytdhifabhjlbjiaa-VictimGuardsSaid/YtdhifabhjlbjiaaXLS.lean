/- The kit's contracts for sorted keys of a map, laid at the seat's program; printed by genlay.py (a program of mine).; The keys of a map of numbers, sorted: the library's contract in my logic's words.; The sorted keys of a map of numbers, at the seat's program. -/
import Derived.Test.YtdhifabhjlbjiaaProg
import Derived.Shelf.SlLaysZI
import Derived.Shelf.SlLaysM
import Derived.KernelRfl
import Derived.Shelf.SlIterI.Nil
import Derived.Shelf.SortM.Plain
import Derived.Shelf.SortM.SortNone
import Derived.Test.YtdhifabhjlbjiaaIdlThree
import Derived.Test.YtdhifabhjlbjiaaQF
set_option linter.all false
section
namespace Go.Idl
open Go.Proofs
def layKeys_ren : Go.Shelf.Ren := ⟨fun | 10 => 197 | n => n, fun | 33 => 189 | 23 => 143 | 0 => 0 | 4 => 4 | 26 => 3 | 3 => 41 | n => n, fun n => n⟩
theorem layKeys : SlLaysZI.n10 Try.prog layKeys_ren := {
  mixed := by kernel_rfl
  f10 := ⟨Try.f197.name, by decide, Try.func197.trans (congrArg some (by kernel_rfl))⟩
  t0 := Try.underlying0
  a0 := Try.isAgg0
  z0 := Try.sizeOf0
  v0 := Try.zeroValue0
  t4 := Try.underlying4
  a4 := Try.isAgg4
  z4 := Try.sizeOf4
  v4 := Try.zeroValue4
  t23 := Try.underlying143
  a23 := Try.isAgg143
  z23 := Try.sizeOf143
  v23 := Try.zeroValue143
  t26 := Try.underlying3
  a26 := Try.isAgg3
  z26 := Try.sizeOf3
  v26 := Try.zeroValue3
  t33 := Try.underlying189
  a33 := Try.isAgg189
  z33 := Try.sizeOf189
  v33 := Try.zeroValue189 }
def laySorted_ren : Go.Shelf.Ren := ⟨fun | 6 => 143 | 8 => 107 | 9 => 196 | 11 => 185 | 13 => 210 | 12 => 209 | 23 => 227 | 24 => 228 | 14 => 218 | 15 => 219 | 16 => 220 | 17 => 221 | 18 => 222 | 19 => 223 | 20 => 224 | 21 => 225 | 22 => 226 | 25 => 231 | 26 => 232 | 27 => 233 | 28 => 234 | 29 => 235 | 30 => 236 | 31 => 237 | n => n, fun | 26 => 3 | 28 => 122 | 24 => 48 | 0 => 0 | 3 => 3 | 37 => 209 | 48 => 230 | 50 => 163 | 4 => 4 | 40 => 223 | 39 => 222 | 45 => 115 | 5 => 5 | 9 => 9 | 51 => 233 | 55 => 237 | 57 => 239 | 58 => 240 | 33 => 189 | n => n, fun n => n⟩
theorem laySorted : SlLaysZI.n6 Try.prog laySorted_ren := {
  mixed := by kernel_rfl
  f6 := ⟨Try.f143.name, by decide, Try.func143.trans (congrArg some (by kernel_rfl))⟩
  f8 := ⟨Try.f107.name, by decide, Try.func107.trans (congrArg some (by kernel_rfl))⟩
  f11 := ⟨Try.f185.name, by decide, Try.func185.trans (congrArg some (by kernel_rfl))⟩
  t0 := Try.underlying0
  a0 := Try.isAgg0
  z0 := Try.sizeOf0
  v0 := Try.zeroValue0
  t24 := Try.underlying48
  a24 := Try.isAgg48
  z24 := Try.sizeOf48
  v24 := Try.zeroValue48
  t26 := Try.underlying3
  a26 := Try.isAgg3
  z26 := Try.sizeOf3
  v26 := Try.zeroValue3
  t28 := Try.underlying122
  a28 := Try.isAgg122
  z28 := Try.sizeOf122
  v28 := Try.zeroValue122
  i26 := by kernel_rfl }
def laySort_ren : Go.Shelf.Ren := ⟨fun | 5 => 196 | 8 => 210 | 7 => 209 | 19 => 227 | 20 => 228 | 10 => 218 | 11 => 219 | 12 => 220 | 13 => 221 | 14 => 222 | 15 => 223 | 16 => 224 | 17 => 225 | 18 => 226 | 30 => 231 | 31 => 232 | 32 => 233 | 33 => 234 | 34 => 235 | 35 => 236 | 40 => 237 | n => n, fun | 23 => 48 | 25 => 3 | 3 => 3 | 32 => 209 | 22 => 48 | 0 => 0 | 44 => 230 | 46 => 163 | 4 => 4 | 36 => 223 | 35 => 222 | 41 => 115 | 5 => 5 | 9 => 9 | 53 => 233 | 57 => 237 | 63 => 239 | 64 => 240 | n => n, fun n => n⟩
theorem laySort : SlLaysM.n5 Try.prog laySort_ren := {
  mixed := by kernel_rfl
  f5 := ⟨Try.f196.name, by decide, Try.func196.trans (congrArg some (by kernel_rfl))⟩
  f7 := ⟨Try.f209.name, by decide, Try.func209.trans (congrArg some (by kernel_rfl))⟩
  f8 := Try.func210.trans (congrArg some (by kernel_rfl))
  f10 := ⟨Try.f218.name, by decide, Try.func218.trans (congrArg some (by kernel_rfl))⟩
  f11 := ⟨Try.f219.name, by decide, Try.func219.trans (congrArg some (by kernel_rfl))⟩
  f12 := ⟨Try.f220.name, by decide, Try.func220.trans (congrArg some (by kernel_rfl))⟩
  f13 := ⟨Try.f221.name, by decide, Try.func221.trans (congrArg some (by kernel_rfl))⟩
  f14 := ⟨Try.f222.name, by decide, Try.func222.trans (congrArg some (by kernel_rfl))⟩
  f15 := ⟨Try.f223.name, by decide, Try.func223.trans (congrArg some (by kernel_rfl))⟩
  f16 := ⟨Try.f224.name, by decide, Try.func224.trans (congrArg some (by kernel_rfl))⟩
  f17 := ⟨Try.f225.name, by decide, Try.func225.trans (congrArg some (by kernel_rfl))⟩
  f18 := ⟨Try.f226.name, by decide, Try.func226.trans (congrArg some (by kernel_rfl))⟩
  f19 := Try.func227.trans (congrArg some (by kernel_rfl))
  f20 := Try.func228.trans (congrArg some (by kernel_rfl))
  f30 := ⟨Try.f231.name, by decide, Try.func231.trans (congrArg some (by kernel_rfl))⟩
  f31 := Try.func232.trans (congrArg some (by kernel_rfl))
  f32 := Try.func233.trans (congrArg some (by kernel_rfl))
  f33 := ⟨Try.f234.name, by decide, Try.func234.trans (congrArg some (by kernel_rfl))⟩
  f34 := ⟨Try.f235.name, by decide, Try.func235.trans (congrArg some (by kernel_rfl))⟩
  f35 := ⟨Try.f236.name, by decide, Try.func236.trans (congrArg some (by kernel_rfl))⟩
  f40 := ⟨Try.f237.name, by decide, Try.func237.trans (congrArg some (by kernel_rfl))⟩
  t0 := Try.underlying0
  a0 := Try.isAgg0
  z0 := Try.sizeOf0
  v0 := Try.zeroValue0
  t3 := Try.underlying3
  a3 := Try.isAgg3
  z3 := Try.sizeOf3
  v3 := Try.zeroValue3
  t4 := Try.underlying4
  a4 := Try.isAgg4
  z4 := Try.sizeOf4
  v4 := Try.zeroValue4
  t5 := Try.underlying5
  a5 := Try.isAgg5
  z5 := Try.sizeOf5
  v5 := Try.zeroValue5
  t9 := Try.underlying9
  a9 := Try.isAgg9
  z9 := Try.sizeOf9
  v9 := Try.zeroValue9
  t22 := Try.underlying48
  a22 := Try.isAgg48
  z22 := Try.sizeOf48
  v22 := Try.zeroValue48
  t23 := Try.underlying48
  a23 := Try.isAgg48
  z23 := Try.sizeOf48
  v23 := Try.zeroValue48
  t25 := Try.underlying3
  a25 := Try.isAgg3
  z25 := Try.sizeOf3
  v25 := Try.zeroValue3
  t32 := Try.underlying209
  a32 := Try.isAgg209
  z32 := Try.sizeOf209
  v32 := Try.zeroValue209
  t35 := Try.underlying222
  a35 := Try.isAgg222
  z35 := Try.sizeOf222
  v35 := Try.zeroValue222
  t36 := Try.underlying223
  a36 := Try.isAgg223
  z36 := Try.sizeOf223
  v36 := Try.zeroValue223
  t41 := Try.underlying115
  a41 := Try.isAgg115
  z41 := Try.sizeOf115
  v41 := Try.zeroValue115
  t44 := Try.underlying230
  a44 := Try.isAgg230
  z44 := Try.sizeOf230
  v44 := Try.zeroValue230
  t46 := Try.underlying163
  a46 := Try.isAgg163
  z46 := Try.sizeOf163
  v46 := Try.zeroValue163
  t53 := Try.underlying233
  a53 := Try.isAgg233
  z53 := Try.sizeOf233
  v53 := Try.zeroValue233
  t57 := Try.underlying237
  a57 := Try.isAgg237
  z57 := Try.sizeOf237
  v57 := Try.zeroValue237
  t63 := Try.underlying239
  a63 := Try.isAgg239
  z63 := Try.sizeOf239
  v63 := Try.zeroValue239
  t64 := Try.underlying240
  a64 := Try.isAgg240
  z64 := Try.sizeOf240
  v64 := Try.zeroValue240 }
end Go.Idl
end
section
namespace Go.Idl
open Go.Maps Go.WideElems Go.Proofs Go.RowKit
set_option linter.unusedSimpArgs false
set_option linter.unusedVariables false

section
variable {P : Program} {κ : Ctx} {Φ : CM} {B : List Nat} {au : Auth} {s : St} {a : Act} {w : World}
/-- a block that was made meanwhile: its first cells are immutable from now on, its others a slot's -/
theorem Inv.layAt (h : Inv κ Φ B au s a w) {w' : World} (gr : Grows w w') {G : Nat} (hG : w.heap.size ≤ G) {c : Array Value} {el : TypeId} (hnewb : w'.heap[G]? = some (.cells c el (0, 0))) {vs : List Value} {z : Nat} {xs : List D} (hr : RepL Φ (xs.flatMap D.flat) vs) (hz : ∀ x ∈ xs, x.flat.length = z) (d cap : Nat) (hcap : xs.length ≤ cap) (ht : c.toList.take vs.length = vs) (hsz : c.size = cap * z) :
    ∃ Φ' au', Inv κ Φ' B au' (s.put (some d) (.own z xs)) (a.put (some d) (.slice (some ⟨G, 0, none⟩) xs.length cap)) w' := by
  have g := h.grow gr
  have hnew : au G = none := by
    cases e : au G with
    | none => rfl
    | some x => have := (h.auw _ _ _ e).1; omega
  have hΦ : ∀ lb o' v, Φ lb G o' ≠ some v := by
    intro lb o' v e
    have := h.phi _ _ _ _ e
    unfold World.cell? at this
    rw [Array.getElem?_eq_none hG] at this
    simp at this
  have hlen : vs.length = xs.length * z := by rw [← hr.get.1, flat_length hz]
  have hle : Φ.le (Φ.add G 0 vs) := CM.le_add fun lb o' v _ _ => hΦ lb o' v
  let au' : Auth := fun b => if b = G then some (.slot d 0, vs.length) else au b
  have hau : ∀ b h0 st, au b = some (h0, st) → au' b = some (h0, st) := fun b h0 st e => by
    simp only [au']; rw [if_neg]; exact e
    rintro rfl; rw [hnew] at e; cases e
  have hrep : RepD (Φ.add G 0 vs) (.sl false z xs) (.slice (some ⟨G, 0, none⟩) xs.length cap) := by
    by_cases hne : xs = []
    · subst hne; exact .sl0
    · refine .sl hne hcap (.ofFlat ?_ hz)
      exact (hr.mono hle).cellsAt fun j v hj => CM.add_get j v hj
  have i1 : Inv κ (Φ.add G 0 vs) B au' s a w' := by
    refine { g with phi := fun lb b o v e => ?_, phia := fun lb b o v h0 st hp e => ?_, auw := fun b h0 st e => ?_, lePhi := h.lePhi.trans hle, tm := fun i V v hV hv => ?_, hp := fun id o b ho hb => ?_, df := ?_, src := fun lb b o v e => ?_ }
    · unfold CM.add at e
      split at e
      · rename_i hc
        obtain ⟨rfl, _, h2⟩ := hc
        rw [cell_of hnewb]
        simp only [Nat.sub_zero] at e
        have hol : o < vs.length := (List.getElem?_eq_some_iff.1 e).1
        rw [← Array.getElem?_toList]
        rw [← ht, List.getElem?_take_of_lt hol] at e; exact e
      · exact g.phi _ b o v e
    · simp only [au'] at e
      split at e
      · rename_i eb; subst eb
        injection e with e; injection e with _ e; subst e
        unfold CM.add at hp
        split at hp
        · rename_i hc; omega
        · exact absurd hp (hΦ _ _ _)
      · rename_i eb
        unfold CM.add at hp
        rw [if_neg (fun hc => eb hc.1)] at hp
        exact h.phia _ b o v h0 st hp e
    · simp only [au'] at e
      split at e
      · rename_i eb; subst eb; exact ⟨(Array.getElem?_eq_some_iff.1 hnewb).1, .inr (Nat.le_trans h.size hG)⟩
      · exact g.auw b h0 st e
    · obtain ⟨k1, k2⟩ := g.tm i V v hV hv
      exact ⟨k1.mono hle (fun _ _ h => h), k2.mono fun j b st e => ⟨hau b _ st e, rfl⟩⟩
    · exact (g.hp id o b ho hb).mono hle (fun _ _ h => h) (fun e => ⟨hau b _ _ e, rfl⟩) (fun j b st e => ⟨hau b _ st e, rfl⟩)
    · obtain ⟨rs, h1, h2, h3⟩ := h.df
      refine ⟨rs, h1, h2, fun r hr => ?_⟩
      obtain ⟨x, y, z⟩ := h3 r hr
      have hlt := lt_of_heap x
      refine ⟨gr.same r hlt ▸ x, ?_, z⟩
      simp only [au']; rw [if_neg (by omega)]; exact y
    · unfold CM.add at e
      split at e
      · rename_i hc; right; right; rw [hc.1]; exact Nat.le_trans h.size hG
      · exact h.src _ b o v e
  refine ⟨_, au', i1.put (some d) (.own hrep) fun d' hd' => ?_⟩
  injection hd' with hd'; subst hd'
  refine ⟨_, _, _, rfl, .inr ⟨G, 0, _, el, rfl, by simp only [au']; simp [hlen], hnewb, by rw [hsz]; omega⟩⟩
end

theorem grows_below {w w' : World} (h : Below w.heap.size w w') : Grows w w' := ⟨h.size, h.block, h.tape, h.os, h.output⟩

/-- the number of a key -/
def keyI (d : D) : Int := match d with | .int _ n => n | _ => 0
/-- a map's numbers, sorted -/
def sortedKeys (es : List (Nat × D × V)) : List Int := (es.map fun e => keyI e.2.1).mergeSort fun x y => decide (x ≤ y)

/-- what a map of numbers must be for it -/
structure NumMap (clock : Nat) (es : List (Nat × D × V)) : Prop where
  key : ∀ e ∈ es, ∃ n, e.2.1 = .int .i64 n ∧ -9223372036854775808 ≤ n ∧ n ≤ 9223372036854775807
  nodup : (es.map fun e => keyI e.2.1).Nodup
  born : ∀ e ∈ es, e.1 < clock
  borns : (es.map (·.1)).Nodup
  size : es.length * 8 ≤ 140737488355328

theorem callK_sortedKeys {P : Program} {f g : FuncId} {kt et : TypeId} (hkt : P.underlying kt = some (.int .i64))
    (hC : ∀ (bm b nn : Nat) (D0 : DataW Unit) (R : Value → Option (DataW Unit × List MemPlace)) (w : World), bm < w.heap.size → w.cell? ⟨bm, 0, none⟩ = some (.map (some b)) → w.ownsMap P kt R b nn D0 → Maps.size D0 ≤ maxLen → Maps.size D0 * 8 ≤ 140737488355328 →
      CallsIn Fence.wide 5 P f #[.func (.func g) #[] #[.pointer (some ⟨bm, 0, none⟩)]] w fun e w' => ∃ (v : Value) (ss : List Int), e = .returned v ∧ ss.Perm (intKeys D0) ∧
        w'.ownsRow w.heap.size et 1 v ss.length ((ss.mergeSort (fun x y => decide (x ≤ y))).map encZ) ∧ (v = .slice none 0 0 ↔ ss = []) ∧ Below w.heap.size w w')
    {hp : List IObj} {K : V → List IObj → Prop} {id m clock : Nat} {es : List (Nat × D × V)} (h1 : hp[id]? = some (.var [.map m])) (h2 : hp[m]? = some (.map clock es)) (hn : NumMap clock es)
    (hk : K (if es = [] then .nil 1 else .own 1 ((sortedKeys es).map fun n => .int .i64 n)) hp) : CallK P f [.fn (.func g) [.ptr id 0]] hp K := by
  intro Φ B au w cargs hi
  obtain ⟨v0, rfl⟩ : ∃ v0, cargs = #[v0] := by
    have hl : cargs.size = 1 := hi.tl.symm
    rcases cargs with ⟨_ | ⟨x, _ | ⟨y, l⟩⟩⟩ <;> simp at hl
    exact ⟨x, rfl⟩
  have hv0 := (hi.tm 0 _ v0 rfl rfl).1
  cases hv0 with
  | fn hcs =>
  rename_i cs
  cases hcs with
  | cons hp1 hnil =>
  cases hnil
  cases hp1 with
  | ptr hB =>
  rename_i bm
  obtain ⟨_, c, el, hcell, hcsz, hcv⟩ := hi.hp id _ bm h1 hB
  obtain ⟨v1, hv1, hok1, hrep1, how1⟩ := hcv 0 _ rfl
  cases hrep1 with
  | map hBm =>
  rename_i b
  obtain ⟨_, ms, hmb, hmsz, hms⟩ := hi.hp m _ b h2 hBm
  have hbl : bm < w.heap.size := (Array.getElem?_eq_some_iff.1 hcell).1
  -- the map as the kit says it
  let R : Value → Option (DataW Unit × List MemPlace) := fun _ => some (.lit (.bool true), [])
  have hent : ∀ (i : Nat) (h : i < es.length), ∃ (e : MapEntry) (n : Int), ms.toList[i]? = some e ∧ e.born = es[i].1 ∧ e.key = encZ n ∧ keyI es[i].2.1 = n ∧ keyOf P kt e.key = some (.int .i64 n) := fun i h => by
    obtain ⟨e, q1, q2, q3, q4⟩ := hms i es[i].1 es[i].2.1 es[i].2.2 (by simp [h])
    obtain ⟨n, k1, k2, k3⟩ := hn.key _ (List.getElem_mem h)
    rw [k1] at q3
    have ek : e.key = encZ n := (fun (u : Value) (h : RepD Φ (.int .i64 n) u) => (by cases h; rfl : u = encZ n)) _ q3
    refine ⟨e, n, by rw [Array.getElem?_toList]; exact q1, q2, ek, by rw [k1]; rfl, ?_⟩
    rw [ek]
    exact keyOf_int_mk hkt (by
      have a1 : IntKind.i64.min = -9223372036854775808 := by decide
      have a2 : IntKind.i64.max = 9223372036854775807 := by decide
      simp [Lit.wf, a1, a2]; omega)
  have hmlen : ms.toList.length = es.length := by simp [hmsz]
  have hget : ∀ (i : Nat) (h : i < es.length), ∃ h' : i < ms.toList.length, ms.toList[i].born = es[i].1 ∧ ms.toList[i].key = encZ (keyI es[i].2.1) ∧ keyOf P kt ms.toList[i].key = some (.int .i64 (keyI es[i].2.1)) := fun i h => by
    obtain ⟨e, n, q1, q2, q3, q4, q5⟩ := hent i h
    obtain ⟨hlt, he⟩ := List.getElem?_eq_some_iff.1 q1
    subst he; subst q4
    exact ⟨hlt, q2, q3, q5⟩
  have hborn : ms.toList.map (·.born) = es.map (·.1) := List.ext_getElem (by simp [hmsz]) fun i h1 h2 => by
    simp only [List.length_map] at h2
    obtain ⟨h', q, _⟩ := hget i h2
    simpa using q
  have hkeys : ms.toList.map (·.key) = (es.map fun e => keyI e.2.1).map encZ := List.ext_getElem (by simp [hmsz]) fun i h1 h2 => by
    simp only [List.length_map] at h2
    obtain ⟨h', _, q, _⟩ := hget i h2
    simpa using q
  have hrg : ms.toList.map (rg P kt R) = (es.map fun e => keyI e.2.1).map fun n => (Lit.int .i64 n, DataW.lit (.bool true)) := List.ext_getElem (by simp [hmsz]) fun i h1 h2 => by
    simp only [List.length_map] at h2
    obtain ⟨h', _, _, q⟩ := hget i h2
    simp only [List.getElem_map]
    exact rg_of (by unfold rd; rw [q]; rfl)
  have hmaxl : es.length ≤ maxLen := by
    have := hn.size
    have : (140737488355328 : Nat) ≤ maxLen := by decide
    omega
  let D0 : DataW Unit := .map ((ms.toList.map (rg P kt R)).foldr DataW.insert [])
  have hperm := Go.WideShapes.sorted_perm (ms.toList.map (rg P kt R))
  have hown : w.ownsMap P kt R b es.length D0 := by
    refine ⟨ms, clock, hmb, ⟨by rw [hmsz]; exact hmaxl, ⟨fun x hx => ?_, ?_, ?_⟩, fun x hx => ?_⟩, by rw [hmsz]; exact Nat.le_refl _, rfl⟩
    · have : x.born ∈ es.map (·.1) := by rw [← hborn]; exact List.mem_map.2 ⟨x, hx, rfl⟩
      obtain ⟨e, he, q⟩ := List.mem_map.1 this
      rw [← q]; exact hn.born e he
    · rw [hborn]; exact hn.borns
    · rw [hkeys]
      have hinj : ∀ l : List Int, l.Nodup → (l.map encZ).Nodup := fun l hl => by
        rw [List.nodup_iff_pairwise_ne, List.pairwise_map]
        exact (List.nodup_iff_pairwise_ne.1 hl).imp fun h e => h (encZ_inj e)
      exact hinj _ hn.nodup
    · obtain ⟨i, hi', rfl⟩ := List.getElem_of_mem hx
      obtain ⟨_, _, _, q⟩ := hget i (by omega)
      exact ⟨_, by unfold rd; rw [q]; rfl⟩
  have hsz : Maps.size D0 = es.length := by
    show (List.foldr DataW.insert [] _).length = _
    rw [hperm.length_eq]; simp [hmsz]
  have hik : (intKeys D0).Perm (es.map fun e => keyI e.2.1) := by
    have h1 : intKeys D0 = ((ms.toList.map (rg P kt R)).foldr DataW.insert []).map fun p => intOf p.1 := rfl
    rw [h1]
    refine (hperm.map _).trans ?_
    rw [hrg, List.map_map]
    have : ((fun p : Lit × DataW Unit => intOf p.1) ∘ fun n : Int => (Lit.int .i64 n, DataW.lit (.bool true))) = _root_.id := rfl
    rw [this, List.map_id]
  have hcall := hC bm b es.length D0 R w hbl (by rw [cell_of hcell]; exact hv1) hown (by rw [hsz]; exact hmaxl) (by rw [hsz]; exact hn.size)
  refine (callsIn_wide (n := 0)).2 ((callsIn_wide (n := 5)).1 (hcall.mono ?_))
  rintro e w' ⟨v, ss, rfl, hS, hrow, hnil, hb⟩
  have hgr := grows_below hb
  have hpk : ss.Perm (es.map fun e => keyI e.2.1) := hS.trans hik
  have hsort : (ss.mergeSort fun x y => decide (x ≤ y)) = sortedKeys es := mergeSort_of_perm_i hpk
  have hlen : ss.length = es.length := by rw [hpk.length_eq]; simp
  have hbase : ∀ (V : V) (u : Value) Φ' au', Inv (Ctx.at_ Φ B au w) Φ' B au' ((⟨[.fn (.func g) [.ptr id 0]], hp, hp.length⟩ : St).put (some 0) V) ((⟨#[.func (.func g) #[] #[.pointer (some ⟨bm, 0, none⟩)]], []⟩ : Act).put (some 0) u) w' → Rel (Ctx.at_ Φ B au w) ⟨[V], hp, hp.length⟩ ⟨#[u], []⟩ w' := fun V u Φ' au' h => ⟨Φ', B, au', by simpa [St.put, Act.put] using h⟩
  by_cases he : es = []
  · subst he
    have hss : ss = [] := List.length_eq_zero_iff.1 (by simpa using hlen)
    rw [hnil.2 hss]
    refine ⟨_, .nil 1, hp, rfl, by simpa using hk, hbase _ _ Φ au ((hi.grow hgr).put (some 0) .nil fun _ _ => trivial)⟩
  · rcases hrow.2 with ⟨rfl, hz⟩ | ⟨G, cap, cur, rfl, hG, hGb, q1, q2, q3, q4⟩
    · exfalso
      have : es.length = 0 := by omega
      exact he (List.length_eq_zero_iff.1 this)
    · rw [hsort] at q4
      rw [Nat.mul_one] at q3 q4
      have hskl : (sortedKeys es).length = ss.length := by rw [← hsort]; simp
      obtain ⟨Φ', au', hfin⟩ := hi.layAt hgr hG hGb (vs := (sortedKeys es).map encZ) (z := 1) (xs := (sortedKeys es).map fun n => D.int .i64 n)
        (RepL.of (by induction sortedKeys es with | nil => rfl | cons x l ih => simp [D.flat] at ih ⊢; exact ih) fun j d c hd hc => by
          have e1 : ((sortedKeys es).map fun n => D.int .i64 n).flatMap D.flat = (sortedKeys es).map fun n => D.int .i64 n := by
            induction sortedKeys es with
            | nil => rfl
            | cons x l ih => simp only [List.map_cons, List.flatMap_cons, ih]; rfl
          rw [e1] at hd
          rw [List.getElem?_map] at hd hc
          cases hx : (sortedKeys es)[j]? with
          | none => rw [hx] at hd; cases hd
          | some n =>
            rw [hx] at hd hc
            simp at hd hc
            subst hd; subst hc
            exact ⟨trivial, .int _ _⟩)
        (fun x hx => by obtain ⟨n, _, rfl⟩ := List.mem_map.1 hx; rfl) 0 cap (by simp; omega) (by simp only [List.length_map]; rw [hskl]; exact q4) (by simpa using q3)
      refine ⟨_, _, hp, rfl, by rw [if_neg he] at hk; exact hk, hbase _ _ Φ' au' ?_⟩
      have : ((sortedKeys es).map fun n => D.int .i64 n).length = ss.length := by simp [hskl]
      rw [this] at hfin
      exact hfin
end Go.Idl
end
section
namespace Go.Idl
open Go.Proofs Go.RowKit Go.Maps Go.Sort Go.Shelf
set_option linter.unusedSimpArgs false
set_option linter.unusedVariables false
set_option maxRecDepth 8000
set_option maxHeartbeats 2000000

theorem laySorts (m : Nat) : AnyZI.SortsIn Try.prog laySorted_ren Fence.wide m :=
  ⟨fun blk off cap ss W hH hblk hsz => callsIn_wide.2 (AnyM.slices_Sort_int laySort blk off cap ss W hH hblk hsz),
   fun p cap W => callsIn_wide.2 (AnyM.slices_Sort_int_none laySort p cap W)⟩
theorem sorted_kit (bm b nn : Nat) (D0 : DataW Unit) (R : Value → Option (DataW Unit × List MemPlace)) (w : World) (hbm : bm < w.heap.size) (hc : w.cell? ⟨bm, 0, none⟩ = some (.map (some b))) (hown : w.ownsMap Try.prog 3 R b nn D0) (hmax : Maps.size D0 ≤ maxLen) (hbytes : Maps.size D0 * 8 ≤ 140737488355328) :
    CallsIn Fence.wide 5 Try.prog 143 #[.func (.func 197) #[] #[.pointer (some ⟨bm, 0, none⟩)]] w fun e w' => ∃ (v : Value) (ss : List Int), e = .returned v ∧ ss.Perm (intKeys D0) ∧
      w'.ownsRow w.heap.size 3 1 v ss.length ((ss.mergeSort (fun x y => decide (x ≤ y))).map encZ) ∧ (v = .slice none 0 0 ↔ ss = []) ∧ Below w.heap.size w w' := by
  have hseq : SeqGives Fence.wide 2 Try.prog 197 #[.pointer (some ⟨bm, 0, none⟩)] encZ (fun ss => ss.Perm (intKeys D0)) (Maps.size D0) w :=
    AnyZI.keys_gives (ρ := layKeys_ren) layKeys Fence.wide _ trivial rfl (by omega) bm b nn D0 w hbm hc hown
  have cS := AnyZI.sorted_in laySorted Fence.wide 5 trivial trivial trivial trivial rfl (by omega) (laySorts _) (enters_of Try.func196 (by kernel_rfl) rfl) 197 #[.pointer (some ⟨bm, 0, none⟩)] trivial (enters_of Try.func197 (by kernel_rfl) rfl) _ _ hmax hbytes _ hseq
  exact cS
theorem sortedKeys_spec {hp : List IObj} {K : V → List IObj → Prop} {id m clock : Nat} {es : List (Nat × D × V)} (h1 : hp[id]? = some (.var [.map m])) (h2 : hp[m]? = some (.map clock es)) (hn : NumMap clock es)
    (hk : K (if es = [] then .nil 1 else .own 1 ((sortedKeys es).map fun n => .int .i64 n)) hp) : CallK Try.prog 143 [.fn (.func 197) [.ptr id 0]] hp K :=
  callK_sortedKeys (et := 3) Try.underlying3 sorted_kit h1 h2 hn hk
end Go.Idl
end
