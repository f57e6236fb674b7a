/- From the memory that a statement speaks of to ideal data: the arguments of a law.; A law whose call is known on ideal data: the row that is claimed of it. -/
import Derived.ProofKit
import Derived.OpenShut
import Derived.ChangeArms
import Derived.ChangeOld
import Derived.SizedLaws
import Derived.Below
import Derived.Carry
import Derived.Deep.Slices
import Derived.JoinedOf
import Derived.Test.YtkfpaffcglijeaaQueueApartPart08
set_option linter.all false
section
namespace Go.Idl
open Go.RowKit Go.ChangeShapes Go.WideShapes

/-- all cells of a world -/
def cellsOfW (w : World) : CM := fun _ b o => w.cell? ⟨b, o, none⟩

/-- fields that lie one behind the other -/
def consec (P : Program) : Nat → List Field → Nat → Bool
  | o, [], z => o == z
  | o, f :: r, z => f.offset == o && consec P (o + P.cellsOf f.type) r z

/-- types of plain data: numbers, bools, strings, slices and structs of these -/
def plainTy (P : Program) : Nat → TypeId → Bool
  | 0, _ => false
  | n + 1, t => match P.underlying t with
    | some .bool => true
    | some (.int _) => true
    | some .string => true
    | some (.slice e) => decide (0 < P.cellsOf e) && plainTy P n e
    | some (.struct fs) => (fs.toList.all fun f => plainTy P n f.type) && consec P 0 fs.toList (P.cellsOf t)
    | _ => false

def isStruct (P : Program) (t : TypeId) : Bool := match P.underlying t with
  | some (.struct _) => true
  | _ => false

/-- cells that hold a value of a type -/
def TyD (P : Program) : Nat → TypeId → List D → Prop
  | 0, _, _ => False
  | n + 1, t, ds => match P.underlying t with
    | some .bool => ∃ b, ds = [.bool b]
    | some (.int k) => ∃ m, ds = [.int k m] ∧ (Lit.int k m).wf = true
    | some .string => ∃ s : ByteArray, ds = [.str s] ∧ s.size ≤ reachBytes
    | some (.slice e) => ∃ xs, ds = [.sl false (P.cellsOf e) xs] ∧ xs.length ≤ maxLen ∧ xs.length * P.bytesOf e ≤ reachBytes ∧ ∀ x ∈ xs, x.flat.length = P.cellsOf e ∧ (isStruct P e = true → ∃ cs, x = .agg cs) ∧ (isStruct P e = false → ∀ cs, x ≠ .agg cs) ∧ TyD P n e x.flat
    | some (.struct fs) => ds.length = P.cellsOf t ∧ ∀ f ∈ fs.toList, TyD P n f.type ((ds.drop f.offset).take (P.cellsOf f.type))
    | _ => False

theorem TyD.length_le {P : Program} : ∀ {n : Nat} {t : TypeId} {ds : List D}, TyD P n t ds → isStruct P t = false → ∃ d, ds = [d] ∧ ∀ cs, d ≠ .agg cs := by
  intro n t ds h hs
  cases n with
  | zero => exact h.elim
  | succ n =>
    unfold TyD at h
    unfold isStruct at hs
    split at h
    · obtain ⟨b, rfl⟩ := h; exact ⟨_, rfl, by simp⟩
    · obtain ⟨b, rfl, _⟩ := h; exact ⟨_, rfl, by simp⟩
    · obtain ⟨b, rfl, _⟩ := h; exact ⟨_, rfl, by simp⟩
    · obtain ⟨b, rfl, _⟩ := h; exact ⟨_, rfl, by simp⟩
    · rename_i e; rw [e] at hs; simp at hs
    · exact h.elim

theorem weightsAll_mem {H : Type} {P : Program} {e : TypeId} : ∀ {l : List (DataW H)} {d : DataW H}, d ∈ l → ∀ x ∈ d.weights P e, x ∈ DataW.weightsAll P e l
  | a :: l, d, hd, x, hx => by
    unfold DataW.weightsAll
    rcases List.mem_cons.1 hd with rfl | hd
    · exact List.mem_append_left _ hx
    · exact List.mem_append_right _ (weightsAll_mem hd x hx)

theorem weightsEach_mem {H : Type} {P : Program} : ∀ {ts : List TypeId} {l : List (DataW H)} {i : Nat} {t : TypeId} {d : DataW H}, ts[i]? = some t → l[i]? = some d → ∀ x ∈ d.weights P t, x ∈ DataW.weightsEach P ts l
  | t :: ts, d :: l, 0, _, _, ht, hd, x, hx => by
    simp at ht hd; subst ht; subst hd
    unfold DataW.weightsEach; exact List.mem_append_left _ hx
  | t :: ts, d :: l, i + 1, _, _, ht, hd, x, hx => by
    unfold DataW.weightsEach; exact List.mem_append_right _ (weightsEach_mem (i := i) (by simpa using ht) (by simpa using hd) x hx)
  | [], _, _, _, _, ht, _, _, _ => by simp at ht
  | _ :: _, [], _, _, _, _, hd, _, _ => by simp at hd

/-- cell by cell -/
def CellsRep (Φ : CM) (ds : List D) (cs : List Value) : Prop := ds.length = cs.length ∧ ∀ (j : Nat) d c, ds[j]? = some d → cs[j]? = some c → okCell c ∧ RepD Φ d c

theorem cellsRep_one {Φ : CM} {d : D} {c : Value} (h : okCell c) (h' : RepD Φ d c) : CellsRep Φ [d] [c] :=
  ⟨rfl, fun j d' c' hd hc => by cases j <;> simp at hd hc; subst hd; subst hc; exact ⟨h, h'⟩⟩

theorem CellsRep.append {Φ : CM} {a b : List D} {c d : List Value} (h : CellsRep Φ a c) (h' : CellsRep Φ b d) : CellsRep Φ (a ++ b) (c ++ d) := by
  refine ⟨by simp [h.1, h'.1], fun j x v hx hv => ?_⟩
  rw [List.getElem?_append] at hx hv
  rw [h.1] at hx
  split at hx
  · rename_i hlt; rw [if_pos hlt] at hv; exact h.2 j x v hx hv
  · rename_i hlt; rw [if_neg hlt] at hv; exact h'.2 _ x v hx hv

/-- fields, one behind the other -/
theorem fields_rep {P : Program} {Φ : CM} {n z : Nat} {cs : List Value} : ∀ (L : List Field) (o : Nat), consec P o L z = true → cs.length = z → o ≤ z →
    (∀ f ∈ L, ∃ ds, CellsRep Φ ds ((cs.drop f.offset).take (P.cellsOf f.type)) ∧ TyD P n f.type ds) → ∃ ds, CellsRep Φ ds (cs.drop o) ∧ ∀ f ∈ L, TyD P n f.type ((ds.drop (f.offset - o)).take (P.cellsOf f.type))
  | [], o, hc, hl, ho, _ => by
    simp only [consec, beq_iff_eq] at hc
    refine ⟨[], ?_, by simp⟩
    rw [List.drop_eq_nil_of_le (by omega)]
    exact ⟨rfl, by simp⟩
  | f :: L, o, hc, hl, ho, hf => by
    simp only [consec, Bool.and_eq_true, beq_iff_eq] at hc
    obtain ⟨rfl, hc⟩ := hc
    have hle : ∀ (L : List Field) (o : Nat), consec P o L z = true → o ≤ z := by
      intro L
      induction L with
      | nil => intro o h; simp only [consec, beq_iff_eq] at h; omega
      | cons g L ih => intro o h; simp only [consec, Bool.and_eq_true, beq_iff_eq] at h; have := ih _ h.2; omega
    have ho' := hle L _ hc
    obtain ⟨ds0, h1, h2⟩ := hf f (by simp)
    obtain ⟨ds, q1, q2⟩ := fields_rep L (f.offset + P.cellsOf f.type) hc hl ho' fun g hg => hf g (by simp [hg])
    have hd0 : ds0.length = P.cellsOf f.type := by rw [h1.1, List.length_take, List.length_drop]; omega
    refine ⟨ds0 ++ ds, ?_, fun g hg => ?_⟩
    · have := h1.append q1
      rw [← List.drop_drop, List.take_append_drop] at this
      exact this
    · rcases List.mem_cons.1 hg with rfl | hg
      · rw [Nat.sub_self, List.drop_zero, List.take_append_of_le_length (by omega), List.take_of_length_le (by omega)]; exact h2
      · have hoff : ∀ (L : List Field) (o : Nat), consec P o L z = true → ∀ g ∈ L, o ≤ g.offset := by
          intro L
          induction L with
          | nil => intro o h g hg; cases hg
          | cons k L ih =>
            intro o h g hg
            simp only [consec, Bool.and_eq_true, beq_iff_eq] at h
            rcases List.mem_cons.1 hg with rfl | hg
            · omega
            · have := ih _ h.2 g hg; omega
        have := hoff L _ hc g hg
        rw [List.drop_append, List.drop_eq_nil_of_le (by omega), List.nil_append, hd0, show g.offset - f.offset - P.cellsOf f.type = g.offset - (f.offset + P.cellsOf f.type) by omega]
        exact q2 g hg

theorem spot_of_cell {w : World} {a : Addr} {v : Value} (h : w.cell? a = some v) : a.spot = none := by
  unfold World.cell? at h
  split at h
  · split at h
    · cases h
    · rename_i hh; cases hs : a.spot with
      | none => rfl
      | some q => rw [hs] at hh; simp at hh
  · cases h

/-- What is read is data. -/
theorem trod_rep {H : Type} {enc : TypeId × Value → H} {P : Program} {w : World} {base : Nat} {spare : Nat → Bool} {held : Bool} :
    ∀ (n : Nat) {t : TypeId} {cs : List Value} {x : DataW H × List MemPlace} {fuel : Nat}, plainTy P n t = true → DataW.trod enc P w base spare held fuel t cs = some x → (∀ y ∈ x.1.weights P t, y ≤ reachBytes) →
      ∃ ds, CellsRep (cellsOfW w) ds cs ∧ TyD P n t ds := by
  intro n
  induction n with
  | zero => intro t cs x fuel hp; simp [plainTy] at hp
  | succ n ih =>
    intro t cs x fuel hp h hw
    unfold plainTy at hp
    unfold TyD
    split at hp
    · rename_i e
      obtain ⟨b, rfl, rfl⟩ := DataW.trod_bool e h
      exact ⟨[.bool b], cellsRep_one trivial (.bool b), b, rfl⟩
    · rename_i k e
      obtain ⟨b, rfl, rfl, hb⟩ := DataW.trod_int e h
      exact ⟨[.int k b], cellsRep_one trivial (.int k b), b, rfl, hb⟩
    · rename_i e
      obtain ⟨s, rfl, rfl, hs⟩ := DataW.trod_string e h
      refine ⟨[.str s], cellsRep_one trivial (.str s), s, rfl, ?_⟩
      have := hw s.data.toList.length (by simp [DataW.weights])
      simpa using this
    · rename_i e eu
      simp only [Bool.and_eq_true, decide_eq_true_eq] at hp
      obtain ⟨hz0, hp⟩ := hp
      rcases DataW.trod_slice eu h with ⟨rfl, rfl⟩ | ⟨a, len, cap, elems, rest, m, rfl, rfl, rfl, hb, hl, hm, hlen, hel, hsp, hns⟩
      · exact ⟨[.sl false (P.cellsOf e) []], cellsRep_one trivial .sl0, [], rfl, by simp, by simp, by simp⟩
      · have hw0 : (elems.length + rest.length) * P.bytesOf e ≤ reachBytes := by
          have := hw ((elems.length + rest.length) * P.bytesOf e) (by simp [DataW.weights, eu])
          exact this
        have hex : ∀ i, i < len → ∃ d : D, d.flat.length = P.cellsOf e ∧ CellsAt (cellsOfW w) false a.block (a.off + i * P.cellsOf e) d.flat ∧ (i = 0 → a.spot = none) ∧ (isStruct P e = true → ∃ cs, d = .agg cs) ∧ (isStruct P e = false → ∀ cs, d ≠ .agg cs) ∧ TyD P n e d.flat := by
          intro i hi
          have h1 := hel i hi
          have hs1 : elems[i]? = some (elems[i]'(by omega)) := by simp
          rw [hs1] at h1
          obtain ⟨cs', hc1, hc2⟩ := Option.bind_eq_some_iff.1 h1
          obtain ⟨_, hc4, hc5⟩ := World.cells?_some hc1
          obtain ⟨ds, ⟨q1, q2⟩, q3⟩ := ih (t := e) (x := elems[i]'(by omega)) hp hc2 (fun y hy => hw y (by
            simp only [DataW.weights, eu]
            refine List.mem_cons_of_mem _ (List.mem_append_left _ ?_)
            exact weightsAll_mem (List.mem_map.2 ⟨_, List.getElem_mem _, rfl⟩) y hy))
          have hspot : i = 0 → a.spot = none := by
            rintro rfl
            have h6 := hc5 0 hz0
            have h7 : cs'[0]? = some (cs'[0]'(by omega)) := by simp
            rw [h7] at h6
            simp only [Nat.zero_mul] at h6
            exact spot_of_cell (a := (a.add 0).add 0) h6
          have hcells : CellsAt (cellsOfW w) false a.block (a.off + i * P.cellsOf e) ds := by
            refine CellsAt.of fun j d hd => ?_
            have hj : j < P.cellsOf e := by rw [← hc4, ← q1]; exact (List.getElem?_eq_some_iff.1 hd).1
            have hcj : cs'[j]? = some (cs'[j]'(by omega)) := by simp
            have h6 := hc5 j hj
            rw [hcj] at h6
            obtain ⟨r1, r2⟩ := q2 j d _ hd hcj
            refine ⟨_, ?_, r1, r2⟩
            rw [← h6]
            show w.cell? ⟨a.block, a.off + i * P.cellsOf e + j, none⟩ = _
            congr 1
            have hsp := spot_of_cell h6
            have hb1 : ((a.add (i * P.cellsOf e)).add j).block = a.block := by unfold Addr.add; split <;> split <;> rfl
            have ho1 : ((a.add (i * P.cellsOf e)).add j).off = a.off + i * P.cellsOf e + j := by unfold Addr.add; split <;> split <;> simp_all
            rw [← hb1, ← ho1, ← hsp]
          cases hst : isStruct P e with
          | true => exact ⟨.agg ds, by simp [D.flat, q1, hc4], by simpa [D.flat] using hcells, hspot, fun _ => ⟨ds, rfl⟩, by simp, by simpa [D.flat] using q3⟩
          | false =>
            obtain ⟨d, rfl, hd⟩ := TyD.length_le q3 hst
            have hfl : d.flat = [d] := by cases d <;> first | rfl | exact absurd rfl (hd _)
            exact ⟨d, by rw [hfl, ← hc4, ← q1], by rw [hfl]; exact hcells, hspot, by simp, fun _ => hd, by rw [hfl]; exact q3⟩
        obtain ⟨f, hf⟩ := Deep.choose_lt hex
        refine ⟨[.sl false (P.cellsOf e) ((List.range len).map f)], cellsRep_one trivial ?_, (List.range len).map f, rfl, by simp; omega, ?_, ?_⟩
        · rcases Nat.eq_zero_or_pos len with rfl | hpos
          · exact .sl0
          · have hE : ∀ z, z = P.cellsOf e → ElemsAt (cellsOfW w) false z a.block a.off ((List.range len).map f) := by
              rintro z rfl
              refine ElemsAt.of fun i x hx => ?_
              simp only [List.getElem?_map, Option.map_eq_some_iff] at hx
              obtain ⟨i', hi', rfl⟩ := hx
              have hi'' := List.getElem?_eq_some_iff.1 hi'
              obtain ⟨hlt, he⟩ := hi''
              simp at hlt he; subst he
              obtain ⟨r1, r2, _⟩ := hf i hlt
              exact ⟨r1, r2⟩
            have hl' : ((List.range len).map f).length = len := by simp
            have hz : a = ⟨a.block, a.off, none⟩ := by
              have := (hf 0 hpos).2.2.1 rfl
              cases a with | mk b o sp => simp only at this; subst this; rfl
            have := RepD.sl (Φ := cellsOfW w) (z := P.cellsOf e) (b := a.block) (o := a.off) (xs := (List.range len).map f) (cap := cap) (by simp; omega) (by simpa using hl) (hE _ rfl)
            rw [hl'] at this
            rw [hz]; exact this
        · simp only [List.length_map, List.length_range]
          refine Nat.le_trans (Nat.mul_le_mul_right _ ?_) hw0
          omega
        · intro x hx
          simp only [List.mem_map, List.mem_range] at hx
          obtain ⟨i, hi, rfl⟩ := hx
          obtain ⟨r1, r2, r3, r4, r5, r6⟩ := hf i hi
          exact ⟨r1, r4, r5, r6⟩
    · rename_i fs eu
      simp only [Bool.and_eq_true, List.all_eq_true] at hp
      obtain ⟨hp1, hp2⟩ := hp
      obtain ⟨xs, m, rfl, rfl, hcl, hxl, hx⟩ := DataW.trod_struct eu h
      have hfld : ∀ (i : Nat) (f : Field), fs[i]? = some f → ∃ ds, CellsRep (cellsOfW w) ds ((cs.drop f.offset).take (P.cellsOf f.type)) ∧ TyD P n f.type ds := by
        intro i f hf
        have hi : i < xs.length := by rw [hxl]; exact (Array.getElem?_eq_some_iff.1 hf).1
        have h1 := hx i f hf
        rw [List.getElem?_eq_getElem hi] at h1
        refine ih (x := xs[i]) (hp1 f (by have := Array.mem_of_getElem? hf; simpa using this)) h1 fun y hy => hw y ?_
        simp only [DataW.weights, eu]
        exact weightsEach_mem (i := i) (by rw [List.getElem?_map, Array.getElem?_toList, hf]; rfl) (by rw [List.getElem?_map, List.getElem?_eq_getElem hi]; rfl) y hy
      obtain ⟨ds, q1, q2⟩ := fields_rep fs.toList 0 hp2 hcl (Nat.zero_le _) fun f hf => by
        obtain ⟨i, hi⟩ := List.getElem?_of_mem hf
        exact hfld i f (by simpa using hi)
      simp only [List.drop_zero, Nat.sub_zero] at q1 q2
      exact ⟨ds, q1, by rw [q1.1, hcl], fun f hf => q2 f hf⟩
    · cases hp

end Go.Idl
end
section
namespace Go.Idl
open Go.RowKit Go.ChangeShapes Go.WideShapes

/-- a datum that is a value of a type -/
def TyV (P : Program) (n : Nat) (t : TypeId) (x : D) : Prop := (isStruct P t = true → ∃ cs, x = .agg cs) ∧ (isStruct P t = false → ∀ cs, x ≠ .agg cs) ∧ TyD P n t x.flat

inductive TyAll (P : Program) (n : Nat) : List TypeId → List D → Prop
  | nil : TyAll P n [] []
  | cons {t ts x xs} : TyV P n t x → TyAll P n ts xs → TyAll P n (t :: ts) (x :: xs)

inductive RepAll (Φ : CM) : List D → List Value → Prop
  | nil : RepAll Φ [] []
  | cons {x xs v vs} : RepD Φ x v → RepAll Φ xs vs → RepAll Φ (x :: xs) (v :: vs)

theorem arg_rep {H : Type} {enc : TypeId × Value → H} {P : Program} {w : World} {b b0 : Nat} {spare : Nat → Bool} {held : Bool} {r : Reach} {n : Nat} {t : TypeId} {v : Value} {d : DataW H} {p : List MemPlace}
    (hp : plainTy P n t = true) (hv : Value.okWide P w r b0 t v) (h : DataW.Trod enc P w b spare held t v d p) (hw : ∀ y ∈ d.weights P t, y ≤ reachBytes) : ∃ x, RepD (cellsOfW w) x v ∧ TyV P n t x := by
  obtain ⟨fuel, hf⟩ := h
  obtain ⟨ds, hc, ht⟩ := trod_rep n hp hf hw
  cases hst : isStruct P t with
  | true =>
    unfold isStruct at hst
    split at hst
    · rename_i fs eu
      obtain ⟨cs, rfl, _⟩ := okWide_struct eu hv
      simp only [Value.cells] at hc
      refine ⟨.agg ds, ?_, fun _ => ⟨ds, rfl⟩, fun hh => ?_, ht⟩
      · have := RepD.agg (Φ := cellsOfW w) (RepL.of hc.1 hc.2)
        simpa using this
      · unfold isStruct at hh; rw [eu] at hh; cases hh
    · cases hst
  | false =>
    obtain ⟨x, rfl, hx⟩ := TyD.length_le ht hst
    have hfl : x.flat = [x] := by cases x <;> first | rfl | exact absurd rfl (hx _)
    have hone : v.cells.toList = [v] := by
      cases n with
      | zero => exact ht.elim
      | succ n =>
        unfold TyD at ht
        split at ht
        · rename_i e; obtain ⟨c, rfl⟩ : ∃ c, v = .bool c := by simp only [Value.okWide, e, Cell.okWide] at hv; cases v <;> simp_all [Cell.ok]
          rfl
        · rename_i e; obtain ⟨c, c', rfl⟩ : ∃ c c', v = .int c c' := by simp only [Value.okWide, e, Cell.okWide] at hv; cases v <;> simp_all [Cell.ok]
          rfl
        · rename_i e; obtain ⟨c, rfl⟩ := okWide_string e hv
          rfl
        · rename_i e; obtain ⟨c, c', c'', rfl⟩ := okWide_slice e hv
          rfl
        · rename_i e; unfold isStruct at hst; rw [e] at hst; cases hst
        · exact ht.elim
    rw [hone] at hc
    refine ⟨x, (hc.2 0 x v rfl rfl).2, fun hh => (by cases hst.symm.trans hh), fun _ => hx, by rw [hfl]; exact ht⟩

theorem args_rep {H : Type} {enc : TypeId × Value → H} {P : Program} {w : World} {b b0 : Nat} {spare : Nat → Bool} {held : Bool} {r : Reach} {n : Nat} : ∀ {ts : List TypeId} {vs : List Value} {ds : List (DataW H)} {ps : List MemPlace},
    ts.all (plainTy P n) = true → (∀ (j : Nat) t v, ts[j]? = some t → vs[j]? = some v → Value.okWide P w r b0 t v) → DataW.TrodAll enc P w b spare held ts vs ds ps → (∀ y ∈ DataW.weightsEach P ts ds, y ≤ reachBytes) →
      ∃ xs, RepAll (cellsOfW w) xs vs ∧ TyAll P n ts xs
  | [], vs, ds, ps, _, _, h, _ => by
    obtain ⟨rfl, _, _⟩ := trodAll_nil h
    exact ⟨[], .nil, .nil⟩
  | t :: ts, vs, ds, ps, hp, hv, h, hw => by
    obtain ⟨v, vs', d, ds', p, q, rfl, rfl, rfl, h1, h2⟩ := trodAll_cons h
    simp only [List.all_cons, Bool.and_eq_true] at hp
    obtain ⟨x, q1, q2⟩ := arg_rep hp.1 (hv 0 t v rfl rfl) h1 fun y hy => hw y (by unfold DataW.weightsEach; exact List.mem_append_left _ hy)
    obtain ⟨xs, q3, q4⟩ := args_rep hp.2 (fun j t v ht hv' => hv (j + 1) t v (by simpa using ht) (by simpa using hv')) h2 fun y hy => hw y (by unfold DataW.weightsEach; exact List.mem_append_right _ hy)
    exact ⟨x :: xs, .cons q1 q3, .cons q2 q4⟩

theorem RepAll.get {Φ : CM} {xs : List D} {vs : List Value} (h : RepAll Φ xs vs) : xs.length = vs.length ∧ ∀ (i : Nat) x v, xs[i]? = some x → vs[i]? = some v → RepD Φ x v := by
  induction h with
  | nil => simp
  | cons a _ ih =>
    refine ⟨by simp [ih.1], fun i x v hx hv => ?_⟩
    cases i with
    | zero => simp at hx hv; subst hx; subst hv; exact a
    | succ i => exact ih.2 i x v (by simpa using hx) (by simpa using hv)

/-- A call on data, in the kit's words. -/
theorem law_calls {P : Program} {f : FuncId} {xs : List D} {args : Array Value} {w : World} {b : Bool} (h : PCall P f xs (.d (.bool b))) (hr : RepAll (cellsOfW w) xs args.toList) :
    Calls P f args w fun e w' => e = .returned (.bool b) ∧ Below w.heap.size w w' := by
  obtain ⟨hl, hg⟩ := hr.get
  have h0 : Inv (Ctx.at_ (cellsOfW w) [] (fun _ => none) w) (cellsOfW w) [] (fun _ => none) ⟨xs.map V.d, [], ([] : List IObj).length⟩ ⟨args, []⟩ w := by
    refine { phi := fun lb _ _ _ e => e, phia := fun lb _ _ _ _ _ _ e => (by cases e), auw := fun _ _ _ e => (by cases e), size := Nat.le_refl _, keep := fun _ _ _ => rfl, pre := List.prefix_refl _, lePhi := CM.le_refl _, tl := by simp [hl], tm := fun i V v hV hv => ?_, hl := rfl, nb := ⟨Nat.le_refl _, Nat.le_refl _⟩, hp := fun id o b ho => (by simp at ho), df := ⟨[], rfl, List.nodup_nil, by simp⟩, rd := fun l hl => (by cases hl), lp := fun l r e => ⟨r, e⟩, src := fun lb b o v e => .inl e, wo := ⟨rfl, rfl, rfl⟩ }
    have hV' : (xs.map Idl.V.d)[i]? = some V := hV
    simp only [List.getElem?_map, Option.map_eq_some_iff] at hV'
    obtain ⟨x, hx, rfl⟩ := hV'
    exact ⟨.d (hg i x v hx (by simpa using hv)), trivial⟩
  refine (callsIn_wide (n := 0)).1 (CallsIn.mono (F := Fence.wide) (h (cellsOfW w) [] (fun _ => none) w args h0) ?_)
  rintro e w' ⟨v, r, hp', rfl, rfl, Φ', B', au', g⟩
  have hv := (g.tm 0 _ v rfl rfl).1
  obtain rfl : v = .bool b := by cases hv with | d q => exact repD_bool q
  exact ⟨rfl, ⟨g.wo.2.1, g.wo.1, g.wo.2.2, g.size, fun k hk => g.keep k hk (by simp [Ctx.at_])⟩⟩

theorem trodAll_back {H : Type} {enc : TypeId × Value → H} {P : Program} (hl : laidOutB P = true) {W W' : World} (hb : Below W.heap.size W W') : ∀ {ts : List TypeId} {vs : List Value} {ds : List (DataW H)} {ps : List MemPlace},
    ts.all (fun t => P.readableRec t && decide (t < P.types.size)) = true → DataW.TrodAll enc P W 0 (fun _ => true) true ts vs ds ps → DataW.TrodAll enc P W' 0 (fun b => decide (b < W.heap.size)) true ts vs ds ps
  | [], vs, ds, ps, _, h => by
    obtain ⟨rfl, rfl, rfl⟩ := trodAll_nil h
    exact trodAll_mk0
  | t :: ts, vs, ds, ps, hr, h => by
    obtain ⟨v, vs', d, ds', p, q, rfl, rfl, rfl, h1, h2⟩ := trodAll_cons h
    simp only [List.all_cons, Bool.and_eq_true, decide_eq_true_eq] at hr
    have hlt : ∀ x ∈ p, x.block < W.heap.size := by obtain ⟨m, hm⟩ := h1; exact DataW.trod_lt m _ _ _ hm
    exact ⟨p, q, Below.trod hl hr.1.1 hr.1.2 h1 hb hlt, trodAll_back hl hb hr.2 h2, rfl⟩

/-- what a row of a law says of its specification -/
def LawSpec (s : ChangeSpec) (n : Nat) : Prop := s.vars = [] ∧ ∀ (H : Type) (ds : List (DataW H)), ds.length = n → s.fn H ds = { results := [.lit (.bool true)], args := ds }

theorem trodAll_length {H : Type} {enc : TypeId × Value → H} {P : Program} {W : World} {b : Nat} {sp : Nat → Bool} {held : Bool} : ∀ {ts : List TypeId} {vs : List Value} {ds : List (DataW H)} {ps : List MemPlace}, DataW.TrodAll enc P W b sp held ts vs ds ps → ds.length = ts.length
  | [], vs, ds, ps, h => by obtain ⟨rfl, rfl, rfl⟩ := trodAll_nil h; rfl
  | t :: ts, vs, ds, ps, h => by
    obtain ⟨v, vs', d, ds', p, q, rfl, rfl, rfl, h1, h2⟩ := trodAll_cons h
    simp [trodAll_length h2]

/-- THE ROW OF A LAW. -/
theorem law_lifted {C : Checked} {os : Os} {f : FuncId} {fn : Func} {s : ChangeSpec} {conds : List PathCond} {H : Type} {enc : TypeId × Value → H} {tb : TypeId} (n : Nat)
    (own : ownKnob C.prog.godebug = none) (started : os.Started) (noInit : C.prog.inits.idxOf? f = none) (hfn : C.prog.funcs[f]? = some fn)
    (witness : ∃ (w : World) (tape : Tape) (i : Input), w.os = os ∧ (w.forCall tape i).Shaped C.prog ∧ i.vars = [] ∧ Input.okWide C.prog (w.forCall tape i) .any w.heap.size f i ∧
      s.pre6 enc C.prog fn conds false (w.forCall tape i).memory i.args ∧ ({} : Assume).holds C.prog (lone (Frame.enter C.prog f i.args .normal) [] (w.forCall tape i)))
    (hplain : fn.params.toList.all (plainTy C.prog n) = true) (hread : fn.params.toList.all (fun t => C.prog.readableRec t && decide (t < C.prog.types.size)) = true) (laid : laidOutB C.prog = true)
    (hret : fn.resultTypes = #[tb]) (htb : C.prog.underlying tb = some .bool) (hs : LawSpec s fn.params.size)
    (pure : ∀ xs, TyAll C.prog n fn.params.toList xs → PCall C.prog f xs (.d (.bool true))) :
    ReturnsInHanded {} C os f .any (s.pre6 enc C.prog fn conds false) (s.post enc C.prog fn false true false false) := by
  refine returnsInHanded_of_change_sized own started noInit hfn witness ?_
  intro W base args ds gs before hval hW _ hsz _
  have hW' := hW
  obtain ⟨p, q, hA, hV, rfl, hfz, hnd⟩ := hW
  rw [hs.1] at hV
  obtain ⟨rfl, rfl⟩ := trodVars_none hV
  have hweights : ∀ y ∈ DataW.weightsEach C.prog fn.params.toList ds, y ≤ reachBytes := by
    intro y hy
    have e1 : s.plain.varTypes C.prog = [] := by unfold DataSpec.varTypes; simp [ChangeSpec.plain, hs.1]
    rw [e1, List.append_nil, List.append_nil] at hsz
    simpa using List.all_eq_true.1 hsz y hy
  obtain ⟨xs, q1, q2⟩ := args_rep hplain (fun j t v ht hv => hval j t v (by simpa using ht) (by simpa using hv)) hA hweights
  refine (law_calls (pure xs q2) q1).mono fun e W' ⟨he, bel⟩ => ?_
  subst he
  have hfn' : s.fn H (ds ++ []) = { results := [.lit (.bool true)], args := ds } := by rw [List.append_nil]; exact hs.2 H ds (by rw [trodAll_length hA]; simp)
  refine ⟨_, rfl, ds, [], _, [], p, [], hW', ?_, ?_, ?_, bel.frame _, fun h => by cases h⟩
  · rw [hfn', hret]
    exact trodAll_mk1 (shut_bool htb _)
  · rw [hfn']; exact trodAll_back laid bel hread hA
  · rw [hs.1, hfn']; rfl

end Go.Idl
end
