/- The same conditions on code without positions and edges: small terms; hints; ranging over functions. -/
import Derived.Test.YtkfpaffcglijeaaQueueApartPart12
set_option linter.all false
namespace Go.Idl

structure SOp where
  d : Option Nat
  op : Op
  t : TypeId
  g : Option (Option Nat × Bool)
  k : Bool
  /-- 1: what is made is to be changed; 2: and its cells are no data -/
  h : Nat

def hintOf : List (Nat × Nat) → Option Nat → Nat
  | [], _ => 0
  | _, none => 0
  | (i, h) :: r, some d => if i = d then h else hintOf r (some d)

def stripL (H : List (Nat × Nat)) (all : List Oper) : List Oper → List SOp
  | [] => []
  | o :: r => ⟨o.dst, o.op, o.type, o.guard.map fun x => ((all[x.1]?).bind (·.dst), x.2), takes o.dst r, hintOf H o.dst⟩ :: stripL H all r

/-- what an operation waits for -/
def onsOf : List Edge → List Nat
  | [] => []
  | e :: r => match e.ground with
    | .textOnly _ => onsOf r
    | .gcOnly _ => onsOf r
    | _ => e.on :: onsOf r

def stripM (H : List (Nat × Nat)) (all : List Oper) : List Oper → List (SOp × List Nat)
  | [] => []
  | o :: r => (⟨o.dst, o.op, o.type, o.guard.map fun x => ((all[x.1]?).bind (·.dst), x.2), takes o.dst r, hintOf H o.dst⟩, onsOf o.after.toList) :: stripM H all r

inductive SC where
  | skip | ret
  | exit (id : Nat)
  | goto (l : Nat)
  | seq (a b : SC)
  /-- the first ones in any order, the others behind them -/
  | ops (f l : List SOp)
  /-- the first ones in each order that may be, the others behind them -/
  | any (f : List (SOp × List Nat)) (l : List SOp)
  /-- free ones, a call that makes something new, and the others in each order that may be -/
  | mix (f : List SOp) (x : Option SOp) (l : List (SOp × List Nat)) (m : Nat)
  /-- free ones, two variables that are made new in either order, the others behind them -/
  | alc (f : List SOp) (x y : Option SOp) (l : List SOp)
  /-- free ones, the others behind them in each order that may be; variables may be made ahead of their time -/
  | alx (f : List SOp) (l : List (SOp × List Nat)) (m : Nat)
  | cond (c : Operand) (a b : SC)
  | block (id : Nat) (c : SC)
  | loop (c : SC)
  | range (g : Operand) (ps : List Nat) (a b : SC)
  | other (c : Code)

/-- how many operations of a drawn region are free -/
def freeOf : List (Nat × Nat) → Nat → Nat → Nat
  | [], _, n => n
  | (i, m) :: r, id, n => if i = id then m else freeOf r id n

def stripC (H M : List (Nat × Nat)) : Code → SC
  | .skip => .skip
  | .label _ => .skip
  | .ret => .ret
  | .exit id => .exit id
  | .goto l => .goto l
  | .seq a b => .seq (stripC H M a) (stripC H M b)
  | .region id ops false => if 2000000 ≤ freeOf M id 0 then .other (.region id ops false) else .ops [] (stripL H ops.toList ops.toList)
  | .region id ops true => if 2000000 ≤ freeOf M id ops.size then .other (.region id ops true)
    else if 1000000 ≤ freeOf M id ops.size
    then .mix (stripL [] ops.toList ((ops.toList.take ((freeOf M id ops.size - 1000000) % 1000)).eraseIdx ((freeOf M id ops.size - 1000000) / 1000)))
      ((ops.toList[(freeOf M id ops.size - 1000000) / 1000]?).map fun o => ⟨o.dst, o.op, o.type, none, false, 0⟩) (stripM H ops.toList ops.toList) ((freeOf M id ops.size - 1000000) % 1000)
    else if 500000 ≤ freeOf M id ops.size
    then .alc (stripL [] ops.toList (ops.toList.take (freeOf M id ops.size - 500002))) ((ops.toList[freeOf M id ops.size - 500002]?).map fun o => ⟨o.dst, o.op, o.type, none, false, 0⟩) ((ops.toList[freeOf M id ops.size - 500002 + 1]?).map fun o => ⟨o.dst, o.op, o.type, none, false, 0⟩)
      (stripL H ops.toList (ops.toList.drop (freeOf M id ops.size - 500002 + 2)))
    else if 250000 ≤ freeOf M id ops.size
    then .alx (stripL [] ops.toList (ops.toList.take (freeOf M id ops.size - 250000))) (stripM H ops.toList ops.toList) (freeOf M id ops.size - 250000)
    else if 1000 ≤ freeOf M id ops.size
    then .any (stripM H ops.toList (ops.toList.take (freeOf M id ops.size - 1000))) (stripL H ops.toList (ops.toList.drop (freeOf M id ops.size - 1000)))
    else .ops (stripL [] ops.toList (ops.toList.take (freeOf M id ops.size))) (stripL [] ops.toList (ops.toList.drop (freeOf M id ops.size)))
  | .cond c a b => .cond c (stripC H M a) (stripC H M b)
  | .block id c => .block id (stripC H M c)
  | .loop c => .loop (stripC H M c)
  | .rangeFunc g ps a b => .range g ps.toList (stripC H M a) (stripC H M b)
  | c => .other c

/-- from the k-th on, each operation waits for all before it -/
def anyChk (k : Nat) : Nat → List Oper → List Nat → Bool
  | _, [], _ => true
  | i, o :: r, acc => forceN (maskOf o acc) fun mask => (o.after.toList.all fun e => !Region.binds .any e || decide (e.on < i)) && (decide (i < k) || (List.range i).all fun j => Nat.testBit mask j) && anyChk k (i + 1) r (acc ++ [mask])

def isCallG (o : Oper) : Bool := o.guard.isNone && (match o.op with | .call _ => true | _ => false)
def mixChk (m x : Nat) (ops : Array Oper) : Bool := mixGo ops.toList m 0 ops.toList [] [] && decide (m ≤ ops.size) && decide (x < m) && (match ops.toList[x]? with
  | some ox => isCallG ox && xChk ops.toList ox x 0 (ops.toList.take m)
  | none => false)
def isAllocG (o : Oper) : Bool := o.guard.isNone && o.dst.isSome && (match o.op with | .alloc _ => true | _ => false)
def alcChk (n : Nat) (ops : Array Oper) : Bool := alcGo ops.toList (n + 2) 0 ops.toList [] [] && decide (n + 2 ≤ ops.size) && (match ops.toList[n]?, ops.toList[n + 1]? with
  | some ox, some oy => isAllocG ox && isAllocG oy && xChk ops.toList ox n 0 (ops.toList.take n) && xChk ops.toList oy n 0 (ops.toList.take n)
  | _, _ => false)
def alxChk (n : Nat) (ops : Array Oper) : Bool := alxGo ops.toList n 0 ops.toList [] [] && decide (n ≤ ops.size)
/-- the first numbers -/
def upto : Nat → List Nat
  | 0 => []
  | n + 1 => n :: upto n
theorem upto_mem {n x : Nat} : x ∈ upto n ↔ x < n := by
  induction n with
  | zero => simp [upto]
  | succ n ih => simp [upto, ih]; omega
theorem upto_len (n : Nat) : (upto n).length = n := by
  induction n with
  | zero => rfl
  | succ n ih => simp [upto, ih]
theorem upto_nodup (n : Nat) : (upto n).Nodup := by
  induction n with
  | zero => exact List.nodup_nil
  | succ n ih => exact List.nodup_cons.2 ⟨by simp [upto_mem], ih⟩

/-- every drawn region in it may be run in the order of its text -/
def drawsOK (M : List (Nat × Nat)) : Code → Bool
  | .seq a b => drawsOK M a && drawsOK M b
  | .region id ops free => !free || (bif Nat.ble 2000000 (freeOf M id ops.size) then true
    else bif Nat.ble 1000000 (freeOf M id ops.size) then mixChk ((freeOf M id ops.size - 1000000) % 1000) ((freeOf M id ops.size - 1000000) / 1000) ops
    else bif Nat.ble 500000 (freeOf M id ops.size) then alcChk (freeOf M id ops.size - 500002) ops
    else bif Nat.ble 250000 (freeOf M id ops.size) then alxChk (freeOf M id ops.size - 250000) ops
    else bif Nat.ble 1000 (freeOf M id ops.size) then anyChk (freeOf M id ops.size - 1000) 0 ops.toList [] && decide (freeOf M id ops.size - 1000 ≤ ops.size)
    else drawOK (freeOf M id ops.size) ops.toList && decide (freeOf M id ops.size ≤ ops.size))
  | .cond _ a b => drawsOK M a && drawsOK M b
  | .block _ c => drawsOK M c
  | .loop c => drawsOK M c
  | .rangeFunc _ _ a b => drawsOK M a && drawsOK M b
  | _ => true

def SOp.oper (o : SOp) : Oper := ⟨o.d, o.op, o.t, "", #[], none⟩

/-- where what is made is to be changed -/
def heapK (P : Program) (o : SOp) (s : St) (K : St → Prop) : Prop := match o.op with
  | .buildSlice t n ps => (match o.h, elemTy P t, elI P t with
    | 1, some e, some (z, _) => (match (zeroCs P e).bind (ofCells P e) with
      | some zd => (match fillEl z (List.replicate n zd) (ps.toList.map fun p => (p.1, ev P e s p.2)) with
        | some xs => n * z ≤ 16777216 ∧ zd.flat.length = z ∧ 0 < z ∧ K ({ s with hp := s.hp ++ [IObj.arr z xs] }.put o.d (.ref s.hp.length z 0 n n))
        | none => False)
      | none => False)
    | 2, some e, some (z, _) => (match zeroVs P e with
      | some zs => (match fillD (fun i => some (i * z, z)) (List.replicate n zs).flatten (ps.toList.map fun p => (p.1, ev P e s p.2)) with
        | some cs => n * z ≤ 16777216 ∧ zs.length = z ∧ 0 < z ∧ allBare zs = true ∧ K ({ s with hp := s.hp ++ [IObj.var cs] }.put o.d (.ref s.hp.length z 0 n n))
        | none => False)
      | none => False)
    | _, _, _ => False)
  | .makeSlice t l c => if o.h = 1 then makeOwnK P t l c s o.d K else (match o.h, elemTy P t, elI P t, ev P 0 s l, ev P 0 s c with
    | 2, some e, some (z, by_), .d (.int _ n), .d (.int _ m) => (match zeroVs P e with
      | some zs => n = m ∧ 0 ≤ n ∧ by_ * n ≤ 281474976710656 ∧ n ≤ 9223372036854775807 ∧ zs.length = z ∧ 0 < z ∧ allBare zs = true ∧
          K ({ s with hp := s.hp ++ [IObj.var (List.replicate n.toNat zs).flatten] }.put o.d (.ref s.hp.length z 0 n.toNat n.toNat))
      | none => False)
    | _, _, _, _, _ => False)
  | .call c => (match o.h, c.callee, c.args.toList, c.argTypes.toList with
    | 1, .builtin .append, [x, y], [t0, t1] => (match ev P t0 s x with
      | .nil z => appendNewK P t0 t1 (.nil z) (ev P t1 s y) s o.d K
      | _ => callK P c s o.d K)
    | _, _, _, _ => False)
  | _ => False
where
  allBare : List V → Bool
  | [] => true
  | v :: r => (match v with | .d _ | .nil _ => true | _ => false) && allBare r

def sStep (P : Program) (o : SOp) (s : St) (K : St → Prop) : Prop :=
  if o.h = 0 then (match o.op with
  | .move x => K (mv s x (ev P o.t s x) o.d (o.k || (ev P o.t s x).isTup))
  | .load u x => loadK P u (ev P 0 s x) s o.d o.k K
  | _ => stepK P o.oper [] s K)
  else heapK P o s K

def sOps (P : Program) : List SOp → St → (St → Prop) → Prop
  | [], s, K => K s
  | o :: r, s, K => match o.g with
    | none => sStep P o s fun s' => sOps P r s' K
    | some (some t, want) => match s.tm[t]? with
      | some (.d (.bool b)) => gd b want (sStep P o { s with tm := s.tm.set t (.d (.bool want)) } fun s' => sOps P r s' K) (sOps P r ({ s with tm := s.tm.set t (.d (.bool !want)) }.put o.d (.tup [])) K)
      | some (.tup []) => sOps P r (s.put o.d (.tup [])) K
      | _ => False
    | some (none, _) => False

/-- the operations that may come next -/
def anyL (P : Program) (next : List Nat → St → Prop) (done : List Nat) (s : St) : Nat → List (SOp × List Nat) → Prop
  | _, [] => True
  | i, (o, pm) :: r => (bif !(done.contains i) && pm.all (fun j => done.contains j) then sOps P [o] s (fun s' => next (i :: done) s') else True) ∧ anyL P next done s (i + 1) r
/-- some operations in each order that may be -/
def anyGo (P : Program) (ops : List (SOp × List Nat)) (K : St → Prop) : Nat → List Nat → St → Prop
  | 0, _, s => K s
  | n + 1, done, s => anyL P (anyGo P ops K n) done s 0 ops

def sFree (P : Program) (base : Nat) : List SOp → St → (St → Prop) → Prop
  | [], s, K => K s
  | o :: r, s, K => match o.g with
    | none => freeStep P base o.oper s fun s' => sFree P base r s' K
    | some (some t, want) => match s.tm[t]? with
      | some (.d (.bool b)) => gd b want (freeStep P base o.oper { s with tm := s.tm.set t (.d (.bool want)) } fun s' => sFree P base r s' K) (sFree P base r ({ s with tm := s.tm.set t (.d (.bool !want)) }.put o.d (.tup [])) K)
      | some (.tup []) => sFree P base r (s.put o.d (.tup [])) K
      | _ => False
    | some (none, _) => False

section
variable {P : Program} {κ : Ctx} {s : St} {a : Act} {w : World} {K : St → Prop}

theorem does_buildSliceA {o : Oper} {t : TypeId} {n : Nat} {ps : Array (Nat × Operand)} {e : TypeId} {z y : Nat} {zd : D} {xs : List D} (h : Rel κ s a w) (ho : o.op = .buildSlice t n ps) (e1 : elemTy P t = some e) (e2 : elI P t = some (z, y))
    (ez : (zeroCs P e).bind (ofCells P e) = some zd) (ex : fillEl z (List.replicate n zd) (ps.toList.map fun p => (p.1, ev P e s p.2)) = some xs) (hn : n * z ≤ 16777216) (hzd : zd.flat.length = z) (hz0 : 0 < z)
    (hk : K ({ s with hp := s.hp ++ [IObj.arr z xs] }.put o.dst (.ref s.hp.length z 0 n n))) : Does P κ o a w K := by
  obtain ⟨Φ, B, au, h⟩ := h
  obtain ⟨el, i, zv, hut, hi, hzv, hsz, hby, hzs⟩ := elI_inv e2
  have : e = el := by simp [elemTy, hut] at e1; exact e1.symm
  subst this
  have hz := zero_rep (Φ := Φ) ez hi hzv (by rw [hzd, hzs])
  have hzr := zeros_rep (n := n) hz hzd hz0
  obtain ⟨arr, k1, k2, k3⟩ := fillEl_rep (B := B) hz0 ex hzr (fun x hx => by rw [(List.mem_replicate.1 hx).2]; exact hzd) (forall2_map (P := P) (t := fun _ => e) (ps := ps.toList) h)
  have hxl : xs.length = n := by
    have aux : ∀ (ps : List (Nat × V)) (xs xs' : List D), fillEl z xs ps = some xs' → xs'.length = xs.length := by
      intro ps
      induction ps with
      | nil => intro xs xs' h; simp [fillEl] at h; rw [h]
      | cons p ps ih =>
        intro xs xs' h
        obtain ⟨i, v⟩ := p
        simp only [fillEl] at h
        split at h
        · split at h
          · rw [ih _ _ h]; simp
          · cases h
        · cases h
    rw [aux _ _ _ ex]; simp
  have hrel := h.newArr (Grows.refl w) (z := z) (xs := xs) (vs := arr.toList) (el := e) (cap := n) k2 k3 hxl o.dst n (Nat.le_refl _)
  refine does_value (v := .slice (some ⟨w.heap.size, 0, none⟩) n n) ?_ hk (by simpa using hrel)
  unfold execOp; rw [ho]; refine run_v ?_
  unfold Instr.buildSlice
  rw [Sem.run_bind, run_underlying hut]; simp only [Result.andThen_ok]
  rw [Sem.run_bind, run_sizeOf hi]; simp only [Result.andThen_ok, hsz]
  rw [if_neg (by omega)]
  have e9 : (ps.map fun (i, x) => (i, a.eval x)).toList = ps.toList.map fun p => (p.1, a.eval p.2) := by simp
  simp only [pure_bind]
  split
  · rename_i h0
    have hc0 : (Array.range (n * z)).map (fun x => (#[] : Array Value)[x % (#[] : Array Value).size]!) = (Array.range (n * z)).map (zv.cells[· % zv.cells.size]!) := by rw [h0]; simp
    rw [hc0, e9, k1]; rfl
  · rw [Sem.run_bind, run_zeroValue hi hzv]; simp only [Result.andThen_ok]
    rw [e9, k1]; rfl

/-- so many zero values in a row, as values -/
theorem zerosV_rep {Φ : CM} {B : List Nat} {e : TypeId} {zs : List V} {i : TypeInfo} {zv : Value} {n z : Nat} (ez : zeroVs P e = some zs) (hi : P.info? e = some i) (hz : i.zero = some zv) (hl : zs.length = z) (hz0 : 0 < z) (hb : heapK.allBare zs = true) :
    CellsV Φ B (List.replicate n zs).flatten ((Array.range (n * z)).map (zv.cells[· % zv.cells.size]!)).toList := by
  have hcell : zv.cells.size = z ∧ ∀ (j : Nat) V c, zs[j]? = some V → zv.cells[j]? = some c → okCell c ∧ V.known = true ∧ V.cp = V ∧ RepS Φ B V c := by
    unfold zeroVs at ez
    simp only [hi, Option.bind_some, hz] at ez
    split at ez
    · rename_i hlen
      injection ez with ez
      have hzl : zv.cells.size = z := by rw [← hl, ← ez]; simp [hlen]
      refine ⟨hzl, fun j V c hV hc => ?_⟩
      have hbare : ∀ (l : List Idl.V), heapK.allBare l = true → ∀ V ∈ l, V.known = true ∧ V.cp = V := by
        intro l
        induction l with
        | nil => intro _ V hV; cases hV
        | cons v l ih =>
          intro h V hV
          simp only [heapK.allBare, Bool.and_eq_true] at h
          rcases List.mem_cons.1 hV with rfl | hV
          · cases V <;> simp at h <;> exact ⟨rfl, rfl⟩
          · exact ih h.2 V hV
      have hkc := hbare zs hb V (List.mem_of_getElem? hV)
      rw [← ez] at hV
      simp only [List.getElem?_map, Option.map_eq_some_iff] at hV
      obtain ⟨⟨t', x'⟩, hz', rfl⟩ := hV
      rw [List.getElem?_zip_eq_some] at hz'
      have : x' = c := by have := hz'.2; rw [Array.getElem?_toList, hc] at this; injection this with this; exact this.symm
      subst this
      have hr := constV_rep (P := P) (t := t') (v := x') (Φ := Φ) (B := B) (au := fun _ => none) (w := default) (h := fun _ => .obj 0)
      exact ⟨hr.2.2.1 hkc.1, hkc.1, hkc.2, hr.1⟩
    · cases ez
  obtain ⟨hzs, hcell⟩ := hcell
  have hfl : ∀ n, (List.replicate n zs).flatten.length = n * z := fun n => by
    induction n with
    | zero => simp
    | succ n ih => rw [List.replicate_succ, List.flatten_cons, List.length_append, ih, hl, Nat.add_mul]; omega
  have hget : ∀ (n q r : Nat), r < z → q < n → (List.replicate n zs).flatten[q * z + r]? = zs[r]? := by
    intro n
    induction n with
    | zero => intro q r _ h; omega
    | succ n ih =>
      intro q r hr hq
      rw [List.replicate_succ, List.flatten_cons]
      cases q with
      | zero => rw [Nat.zero_mul, Nat.zero_add, List.getElem?_append_left (by omega)]
      | succ q =>
        have e1 : (q + 1) * z + r = z + (q * z + r) := by rw [Nat.add_mul]; omega
        rw [e1, List.getElem?_append_right (by omega), show z + (q * z + r) - zs.length = q * z + r by omega]
        exact ih q r hr (by omega)
  refine ⟨by rw [hfl]; simp, fun k V c hV hc => ?_⟩
  have hk : k < n * z := by rw [← hfl n]; exact (List.getElem?_eq_some_iff.1 hV).1
  obtain ⟨q, r, hr', rfl⟩ : ∃ q r, r < z ∧ k = q * z + r := ⟨k / z, k % z, Nat.mod_lt _ hz0, by rw [Nat.mul_comm]; exact (Nat.div_add_mod k z).symm⟩
  have hq : q < n := by
    rcases Nat.lt_or_ge q n with h | h
    · exact h
    · have := Nat.mul_le_mul_right z h; omega
  rw [hget n q r hr' hq] at hV
  have hc' : zv.cells[r]? = some c := by
    simp at hc
    obtain ⟨m, hm, hc⟩ := hc
    have hm : q * z + r = m := by
      have := List.getElem?_eq_some_iff.1 hm; obtain ⟨_, h3⟩ := this; simpa using h3
    subst hm
    have e : (q * z + r) % zv.cells.size = r := by rw [hzs, Nat.mul_comm, Nat.mul_add_mod, Nat.mod_eq_of_lt hr']
    rw [e] at hc
    rw [Array.getElem?_eq_getElem (by omega), ← hc, getElem!_pos zv.cells r (by omega)]
  exact hcell r V c hV hc'

theorem Inv.newVar {Φ : CM} {B : List Nat} {au : Auth} (h : Inv κ Φ B au s a w) {cs : List V} {c : Array Value} {el : TypeId} (hc : CellsV Φ B cs c.toList) (dst : Option Nat) {z n : Nat} :
    Rel κ ({ s with hp := s.hp ++ [IObj.var cs] }.put dst (.ref s.hp.length z 0 n n)) (a.put dst (.slice (some ⟨w.heap.size, 0, none⟩) n n)) { w with heap := w.heap.push (.cells c el (0, 0)) } := by
  obtain ⟨au', g⟩ := h.alloc (cs := cs) (c := c) (el := el) (by simpa using hc.1) fun j V v hV hv => by
    obtain ⟨q1, q2, q3, q4⟩ := hc.2 j V v hV (by rw [Array.getElem?_toList]; exact hv)
    exact ⟨fun _ => q1, q4, OwnV_of_cp q3 (by cases V <;> simp_all [V.known, V.isTup]) |> fun f au w h => f au w h v⟩
  exact ⟨Φ, _, au', g.put dst (.ref (b := w.heap.size) (by rw [h.hl]; simp) (Nat.le_refl _) fun _ => by rw [Nat.zero_mul]) fun _ _ => trivial⟩

theorem heap_sound {o : Oper} {g : Option (Option Nat × Bool)} {k : Bool} {hh : Nat} (h : Rel κ s a w) (hk : heapK P ⟨o.dst, o.op, o.type, g, k, hh⟩ s K) : Does P κ o a w K := by
  unfold heapK at hk
  simp only at hk
  split at hk
  · rename_i t n ps ho
    split at hk
    · rename_i e z y e1 e2
      split at hk
      · rename_i zd ez
        split at hk
        · rename_i xs ex
          obtain ⟨hn, hzd, hz0, hk⟩ := hk
          exact does_buildSliceA h ho e1 e2 ez ex hn hzd hz0 hk
        · exact hk.elim
      · exact hk.elim
    · rename_i e z y e1 e2
      split at hk
      · rename_i zs ez
        split at hk
        · rename_i cs ex
          obtain ⟨hn, hzl, hz0, hbare, hk⟩ := hk
          obtain ⟨Φ, B, au, h⟩ := h
          obtain ⟨el, i, zv, hut, hi, hzv, hsz, hby, hzs⟩ := elI_inv e2
          have : e = el := by simp [elemTy, hut] at e1; exact e1.symm
          subst this
          have hzr := zerosV_rep (Φ := Φ) (B := B) (n := n) ez hi hzv hzl hz0 hbare
          obtain ⟨arr, k1, k2⟩ := fill_rep (B := B) ex hzr (forall2_map (P := P) (t := fun _ => e) (ps := ps.toList) h)
          refine does_value (v := .slice (some ⟨w.heap.size, 0, none⟩) n n) ?_ hk (h.newVar (el := e) k2 o.dst)
          unfold execOp; rw [ho]; refine run_v ?_
          unfold Instr.buildSlice
          rw [Sem.run_bind, run_underlying hut]; simp only [Result.andThen_ok]
          rw [Sem.run_bind, run_sizeOf hi]; simp only [Result.andThen_ok, hsz]
          rw [if_neg (by omega)]
          have e9 : (ps.map fun (i, x) => (i, a.eval x)).toList = ps.toList.map fun p => (p.1, a.eval p.2) := by simp
          simp only [pure_bind]
          split
          · rename_i h0
            have hc0 : (Array.range (n * z)).map (fun x => (#[] : Array Value)[x % (#[] : Array Value).size]!) = (Array.range (n * z)).map (zv.cells[· % zv.cells.size]!) := by rw [h0]; simp
            rw [hc0, e9, k1]; rfl
          · rw [Sem.run_bind, run_zeroValue hi hzv]; simp only [Result.andThen_ok]
            rw [e9, k1]; rfl
        · exact hk.elim
      · exact hk.elim
    · exact hk.elim
  · rename_i t l c ho
    by_cases h1 : hh = 1
    · rw [if_pos h1] at hk
      obtain ⟨Φ, B, au, h⟩ := h
      exact does_makeOwn h ho hk
    rw [if_neg h1] at hk
    split at hk
    · rename_i e z y kk n kk' m e1 e2 el' ec
      split at hk
      · rename_i zs ez
        obtain ⟨rfl, hn, hby, hnm, hzl, hz0, hbare, hk⟩ := hk
        obtain ⟨Φ, B, au, h⟩ := h
        obtain ⟨ty, i, zv, hut, hi, hzv, hsz, hyb, hzs⟩ := elI_inv e2
        have : e = ty := by simp [elemTy, hut] at e1; exact e1.symm
        subst this
        have hln := repD_int (ev_d h el')
        have hcn := repD_int (ev_d h ec)
        have hzr := zerosV_rep (Φ := Φ) (B := B) (n := n.toNat) ez hi hzv hzl hz0 hbare
        refine does_value (v := .slice (some ⟨w.heap.size, 0, none⟩) n.toNat n.toNat) ?_ hk (h.newVar (el := e) hzr o.dst)
        unfold execOp; rw [ho]; refine run_v ?_
        have hw : IntKind.i64.wrap n = n := wrap_i64 (by omega) hnm
        subst hsz; subst hyb
        simp only [hln, hcn]
        unfold Instr.makeSlice
        rw [Sem.run_bind, run_underlying hut]; simp only [Result.andThen_ok, asInt, asIntOf, pure_bind]
        rw [Sem.run_bind, run_typeInfo hi]; simp only [Result.andThen_ok, hw]
        have c1 : decide (n < 0) = false := by simpa using hn
        have c2 : decide ((i.bytes : Int) * n > 2 ^ 48) = false := by simp; omega
        have c3 : decide (n > n) = false := by simp
        simp only [c1, c2, c3, Bool.or_self, Bool.false_eq_true, if_false]
        rw [Sem.run_bind, run_askRoom]; simp only [Result.andThen_ok]
        rw [Sem.run_bind, run_sizeOf hi]; simp only [Result.andThen_ok]
        split
        · rename_i h0
          have hc0 : (Array.range (n.toNat * i.size)).map (fun x => (#[] : Array Value)[x % (#[] : Array Value).size]!) = (Array.range (n.toNat * i.size)).map (zv.cells[· % zv.cells.size]!) := by rw [h0]; simp
          rw [hc0]; rfl
        · rw [Sem.run_bind, run_zeroValue hi hzv]; rfl
      · exact hk.elim
    · exact hk.elim
  · rename_i c ho
    split at hk
    · rename_i x y t0 t1 ec ea et
      split at hk
      · rename_i z ez
        rw [← ez] at hk
        obtain ⟨Φ, B, au, h⟩ := h
        exact does_appendNew h ho ec (toList_two ea) (toList_two et) hk
      · exact step_sound (r := []) h (by simp only [stepK, ho]; exact hk)
    · exact hk.elim
  · exact hk.elim

theorem sStep_eq {o : Oper} {r : List Oper} {g : Option (Option Nat × Bool)} {s : St} {K : St → Prop} : sStep P ⟨o.dst, o.op, o.type, g, takes o.dst r, 0⟩ s K = stepK P o r s K := by
  obtain ⟨d, op, t, p, af, gg⟩ := o
  cases op <;> first | rfl | (rename_i x; cases x <;> rfl)

theorem freeStep_eq {o : Oper} {base : Nat} {g : Option (Option Nat × Bool)} {k : Bool} {h : Nat} {s : St} {K : St → Prop} : freeStep P base (SOp.oper ⟨o.dst, o.op, o.type, g, k, h⟩) s K = freeStep P base o s K := by
  obtain ⟨d, op, t, p, af, gg⟩ := o
  cases op <;> first | rfl | (rename_i x; cases x <;> rfl)

theorem sStep_sound {o : Oper} {r : List Oper} {g : Option (Option Nat × Bool)} {hh : Nat} (h : Rel κ s a w) (hk : sStep P ⟨o.dst, o.op, o.type, g, takes o.dst r, hh⟩ s K) : Does P κ o a w K := by
  by_cases e : hh = 0
  · subst e
    rw [sStep_eq] at hk
    exact step_sound h hk
  · unfold sStep at hk
    rw [if_neg e] at hk
    exact heap_sound h hk

theorem sStep_nodefer {o : Oper} {r : List Oper} {g : Option (Option Nat × Bool)} {hh : Nat} {c : Call} (hk : sStep P ⟨o.dst, o.op, o.type, g, takes o.dst r, hh⟩ s K) : o.op ≠ .defer c := by
  intro eo
  by_cases e : hh = 0
  · subst e
    rw [sStep_eq] at hk
    exact stepK_nodefer hk eo
  · unfold sStep at hk
    rw [if_neg e] at hk
    simp [heapK, eo] at hk

theorem sOps_eq {all : List Oper} : ∀ {l : List Oper} {s : St} {K : St → Prop}, sOps P (stripL [] all l) s K = opsK P all l s K
  | [], s, K => rfl
  | o :: r, s, K => by
    have ih : (fun s' => sOps P (stripL [] all r) s' K) = fun s' => opsK P all r s' K := funext fun s' => sOps_eq
    have h0 : hintOf [] o.dst = 0 := rfl
    simp only [stripL, sOps, opsK, h0]
    cases hg : o.guard with
    | none => simp only [Option.map_none, ih, sStep_eq]
    | some x =>
      obtain ⟨j, want⟩ := x
      simp only [Option.map_some]
      cases (all[j]?).bind (·.dst) with
      | none => rfl
      | some t =>
        simp only [ih, sStep_eq, gd, sOps_eq]
        rfl

theorem sFree_eq {H : List (Nat × Nat)} {all : List Oper} {base : Nat} : ∀ {l : List Oper} {s : St} {K : St → Prop}, sFree P base (stripL H all l) s K = freeK P base all l s K
  | [], s, K => rfl
  | o :: r, s, K => by
    have ih : (fun s' => sFree P base (stripL H all r) s' K) = fun s' => freeK P base all r s' K := funext fun s' => sFree_eq
    simp only [stripL, sFree, freeK, freeOp]
    cases hg : o.guard with
    | none => simp only [Option.map_none, ih, freeStep_eq]
    | some x =>
      obtain ⟨j, want⟩ := x
      simp only [Option.map_some]
      cases (all[j]?).bind (·.dst) with
      | none => rfl
      | some t =>
        simp only [ih, freeStep_eq, sFree_eq]
        cases hv : s.tm[t]? with
        | none => rfl
        | some v =>
          cases v with
          | d x =>
            cases x with
            | bool b =>
              refine propext (and_congr (imp_congr_right' ?_) (imp_congr_right' ?_))
              · rintro rfl
                rw [show ({ s with tm := s.tm.set t (.d (.bool b)) } : St) = s by rw [set_self hv]]
              · rintro hb
                rw [show ({ s with tm := s.tm.set t (.d (.bool !want)) } : St) = s by rw [← hb, set_self hv]]
            | _ => rfl
          | tup vs => cases vs <;> rfl
          | _ => rfl

/-- A region in the order of its text, with hints. -/
theorem sops_sound {H : List (Nat × Nat)} {ops : Array Oper} {Q : Exit → Act → World → Prop} : ∀ (rest : List Oper) (i : Nat), (∀ j, rest[j]? = ops[i + j]?) → ∀ {s : St} {a : Act} {w : World}, Rel κ s a w → sOps P (stripL H ops.toList rest) s K →
    (∀ s' a' w', K s' → Rel κ s' a' w' → Q .normal a' w') → wpOpsIn κ.F 0 P ops Q (List.range' i rest.length) a w
  | [], i, _, s, a, w, h, hk, hq => hq _ _ _ hk h
  | o :: rest, i, he, s, a, w, h, hk, hq => by
    have h0 : ops[i]? = some o := by simpa using (he 0).symm
    have he' : ∀ j, rest[j]? = ops[i + 1 + j]? := fun j => by have := he (j + 1); simpa [Nat.add_assoc, Nat.add_comm 1 j] using this
    simp only [List.length_cons, List.range'_succ, wpOpsIn, h0]
    simp only [stripL, sOps] at hk
    cases hg : o.guard with
    | none =>
      simp only [hg, Option.map_none] at hk
      rw [if_pos (by simp [Region.wanted, hg])]
      exact (sStep_sound h hk).wpIn (fun c => sStep_nodefer hk) fun s' a' w' k1 k2 => sops_sound rest (i + 1) he' k2 k1 hq
    | some x =>
      obtain ⟨j, want⟩ := x
      simp only [hg, Option.map_some] at hk
      cases et : (ops.toList[j]?).bind (·.dst) with
      | none => rw [et] at hk; exact hk.elim
      | some t =>
        rw [et] at hk
        simp only at hk
        split at hk
        · rename_i b eb
          obtain ⟨k1, k2⟩ := hk
          obtain ⟨Φ, B, au, hi⟩ := h
          have hlt : t < s.tm.length := (List.getElem?_eq_some_iff.1 eb).1
          have hat : t < a.tmps.size := by rw [← hi.tl]; exact hlt
          have hv : a.tmps[t]? = some (.bool b) := by
            have := (hi.tm t _ _ eb (Array.getElem?_eq_getElem hat)).1
            cases this with | d q => rw [Array.getElem?_eq_getElem hat, repD_bool q]
          have hy : yielded ops a.tmps j = some b := by
            unfold yielded
            rw [Array.getElem?_toList] at et
            simp only [et, Option.bind_some, hv]
          have hset : ∀ b', b = b' → Rel κ { s with tm := s.tm.set t (.d (.bool b')) } a w := by
            rintro b' rfl
            refine ⟨Φ, B, au, hi.islot t fun V' v hV hv' => ?_⟩
            rw [hv] at hv'; injection hv' with hv'; subst hv'
            exact ⟨.d (.bool _), trivial⟩
          by_cases e : b = want
          · rw [if_pos (by simp [Region.wanted, hg, hy, e])]
            have hk1 := k1 e
            exact (sStep_sound (hset want e) hk1).wpIn (fun c => sStep_nodefer hk1) fun s' a' w' k1 k2 => sops_sound rest (i + 1) he' k2 k1 hq
          · rw [if_neg (by simp [Region.wanted, hg, hy, e])]
            have e' : b = !want := by cases b <;> cases want <;> simp_all
            exact ⟨fun _ _ => trivial, sops_sound rest (i + 1) he' ((hset (!want) e').skip o.dst) (k2 e') hq⟩
        · rename_i eb
          rw [if_neg (by simp [Region.wanted, hg, guard_skip h et eb])]
          exact ⟨fun _ _ => trivial, sops_sound rest (i + 1) he' (h.skip o.dst) hk hq⟩
        · exact hk.elim

theorem sregion_sound {H : List (Nat × Nat)} {id : Nat} {ops : Array Oper} {Q : Ex → St → Prop} (h : Rel κ s a w) (hk : sOps P (stripL H ops.toList ops.toList) s (Q .normal)) : (Code.region id ops false).wpIn κ.F 0 P (postK κ Q) a w := by
  refine wpIn_region ?_
  have := sops_sound (Q := postK κ Q) ops.toList 0 (by simp) h hk fun s' a' w' k1 k2 => ⟨.normal, s', rfl, k1, k2⟩
  rw [List.range_eq_range', ← Array.length_toList]
  exact this

/-! ### Each order that may be -/
/-- one operation, with hints -/
theorem sOne_sound {ops : Array Oper} {o : Oper} {r : List Oper} {hh i : Nat} {Q : Exit → Act → World → Prop} {next : Act → World → Prop} (h : Rel κ s a w) (hi : ops[i]? = some o)
    (hk : sOps P [⟨o.dst, o.op, o.type, o.guard.map fun x => ((ops.toList[x.1]?).bind (·.dst), x.2), takes o.dst r, hh⟩] s K)
    (hn : ∀ s' a' w', K s' → Rel κ s' a' w' → next a' w') : wpOpIn κ.F 0 P ops Q i next a w := by
  unfold wpOpIn
  simp only [hi]
  simp only [sOps] at hk
  cases hg : o.guard with
  | none =>
    simp only [hg, Option.map_none] at hk
    rw [if_pos (by simp [Region.wanted, hg])]
    exact (sStep_sound h hk).wpIn (fun c => sStep_nodefer hk) hn
  | some x =>
    obtain ⟨j, want⟩ := x
    simp only [hg, Option.map_some] at hk
    cases et : (ops.toList[j]?).bind (·.dst) with
    | none => rw [et] at hk; exact hk.elim
    | some t =>
      rw [et] at hk
      simp only at hk
      split at hk
      · rename_i b eb
        obtain ⟨k1, k2⟩ := hk
        obtain ⟨Φ, B, au, hi⟩ := h
        have hlt : t < s.tm.length := (List.getElem?_eq_some_iff.1 eb).1
        have hat : t < a.tmps.size := by rw [← hi.tl]; exact hlt
        have hv : a.tmps[t]? = some (.bool b) := by
          have := (hi.tm t _ _ eb (Array.getElem?_eq_getElem hat)).1
          cases this with | d q => rw [Array.getElem?_eq_getElem hat, repD_bool q]
        have hy : yielded ops a.tmps j = some b := by
          unfold yielded
          rw [Array.getElem?_toList] at et
          simp only [et, Option.bind_some, hv]
        have hset : ∀ b', b = b' → Rel κ { s with tm := s.tm.set t (.d (.bool b')) } a w := by
          rintro b' rfl
          refine ⟨Φ, B, au, hi.islot t fun V' v hV hv' => ?_⟩
          rw [hv] at hv'; injection hv' with hv'; subst hv'
          exact ⟨.d (.bool _), trivial⟩
        by_cases e : b = want
        · rw [if_pos (by simp [Region.wanted, hg, hy, e])]
          have hk1 := k1 e
          exact (sStep_sound (hset want e) hk1).wpIn (fun c => sStep_nodefer hk1) hn
        · rw [if_neg (by simp [Region.wanted, hg, hy, e])]
          have e' : b = !want := by cases b <;> cases want <;> simp_all
          exact ⟨fun _ _ => trivial, hn _ _ _ (k2 e') ((hset (!want) e').skip o.dst)⟩
      · rename_i eb
        rw [if_neg (by simp [Region.wanted, hg, guard_skip h et eb])]
        exact ⟨fun _ _ => trivial, hn _ _ _ hk (h.skip o.dst)⟩
      · exact hk.elim

theorem onsOf_mem {j : Nat} : ∀ {l : List Edge}, j ∈ onsOf l → ∃ e ∈ l, Region.binds .any e = true ∧ e.on = j
  | [], h => by cases h
  | e :: l, h => by
    unfold onsOf at h
    have rec_ : j ∈ onsOf l → ∃ e' ∈ e :: l, Region.binds .any e' = true ∧ e'.on = j := fun h => by
      obtain ⟨e', h1, h2⟩ := onsOf_mem h
      exact ⟨e', List.mem_cons_of_mem _ h1, h2⟩
    split at h
    · exact rec_ h
    · exact rec_ h
    · rename_i n1 n2
      rcases List.mem_cons.1 h with rfl | h
      · refine ⟨e, by simp, ?_, rfl⟩
        unfold Region.binds
        split
        · exact absurd ‹_› (n1 _)
        · exact absurd ‹_› (n2 _)
        · rfl
      · exact rec_ h

theorem anyChk_spec {k : Nat} {all : List Oper} : ∀ (rest : List Oper) (i : Nat) (acc : List Nat), anyChk k i rest acc = true → rest = all.drop i → acc.length = i →
    ∀ n o, i ≤ n → all[n]? = some o → (∀ e ∈ o.after, Region.binds .any e = true → e.on < n) ∧ (k ≤ n → ∀ j, j < n → Nat.testBit ((predsL rest acc).getD n 0) j = true)
  | [], i, acc, _, hr, _, n, o, hk, ho => by
    have hlt := (List.getElem?_eq_some_iff.1 ho).1
    have := congrArg List.length hr
    simp at this; omega
  | q :: r, i, acc, h, hr, ha, n, o, hk, ho => by
    simp only [anyChk, forceN_eq, Bool.and_eq_true] at h
    obtain ⟨⟨h1, h2⟩, h3⟩ := h
    have hq : all[i]? = some q := by have := congrArg (·[0]?) hr; simpa using this.symm
    rcases Nat.lt_or_eq_of_le hk with hlt | rfl
    · have := anyChk_spec r (i + 1) _ h3 (by have := congrArg List.tail hr; simpa [List.tail_drop] using this) (by simp [ha]) n o hlt ho
      simpa only [predsL] using this
    · rw [hq] at ho; injection ho with ho; subst ho
      refine ⟨fun e he hb => ?_, fun hki j hj => ?_⟩
      · rw [List.all_eq_true] at h1
        have := h1 e (by simpa using he)
        simpa [hb] using this
      · have hmask : (predsL (q :: r) acc).getD i 0 = maskOf q acc := by
          unfold predsL
          rw [predsL_get r _ i (by simp [ha]), List.getD, List.getElem?_append_right (by omega)]
          simp [ha]
        rw [hmask]
        rcases Bool.or_eq_true _ _ ▸ h2 with h2 | h2
        · simp at h2; omega
        · rw [List.all_eq_true] at h2
          exact h2 j (by simpa using hj)

theorem nodup_le {α : Type} [BEq α] [LawfulBEq α] : ∀ {l m : List α}, l.Nodup → (∀ x ∈ l, x ∈ m) → l.length ≤ m.length
  | [], _, _, _ => Nat.zero_le _
  | x :: l, m, hn, hs => by
    rw [List.nodup_cons] at hn
    have hx : x ∈ m := hs x (by simp)
    have := nodup_le (l := l) (m := m.erase x) hn.2 fun y hy => by
      rw [List.mem_erase_of_ne (by rintro rfl; exact hn.1 hy)]
      exact hs y (by simp [hy])
    rw [List.length_erase_of_mem hx] at this
    have := List.length_pos_of_mem hx
    simp; omega

theorem stripM_get {H : List (Nat × Nat)} {all : List Oper} : ∀ {l : List Oper} {i : Nat} {o : Oper}, l[i]? = some o → ∃ r hh, (stripM H all l)[i]? = some (⟨o.dst, o.op, o.type, o.guard.map fun x => ((all[x.1]?).bind (·.dst), x.2), takes o.dst r, hh⟩, onsOf o.after.toList)
  | [], i, o, h => by simp at h
  | q :: l, 0, o, h => by
    simp at h; subst h
    exact ⟨l, hintOf H q.dst, rfl⟩
  | q :: l, i + 1, o, h => by
    obtain ⟨r, hh, e⟩ := stripM_get (H := H) (all := all) (l := l) (i := i) (o := o) (by simpa using h)
    exact ⟨r, hh, by simpa [stripM] using e⟩
theorem stripM_length {H : List (Nat × Nat)} {all : List Oper} : ∀ {l : List Oper}, (stripM H all l).length = l.length
  | [] => rfl
  | o :: l => by simp [stripM, stripM_length (l := l)]

theorem anyL_get {next : List Nat → St → Prop} {done : List Nat} : ∀ {ops : List (SOp × List Nat)} {b i : Nat} {o : SOp} {pm : List Nat}, anyL P next done s b ops → ops[i]? = some (o, pm) → done.contains (b + i) = false → (pm.all fun j => done.contains j) = true →
    sOps P [o] s fun s' => next ((b + i) :: done) s'
  | [], _, _, _, _, _, h, _, _ => by simp at h
  | (q, qm) :: ops, b, 0, o, pm, h, ho, h1, h2 => by
    simp at ho; obtain ⟨rfl, rfl⟩ := ho
    unfold anyL at h
    simp only [Nat.add_zero] at h1
    rw [h1, h2] at h
    exact h.1
  | (q, qm) :: ops, b, i + 1, o, pm, h, ho, h1, h2 => by
    unfold anyL at h
    have := anyL_get (i := i) h.2 (by simpa using ho) (by rw [← h1]; congr 1; omega) h2
    rw [show b + (i + 1) = b + 1 + i by omega]; exact this

theorem restS_any {H : List (Nat × Nat)} {ops : Array Oper} {k0 : Nat} {Q : Exit → Act → World → Prop} (hlt : ∀ i o, ops[i]? = some o → ∀ e ∈ o.after, Region.binds .any e = true → e.on < i)
    (hall : ∀ i o, ops[i]? = some o → k0 ≤ i → ∀ j, j < i → Nat.testBit ((predsL ops.toList []).getD i 0) j = true) (hq : ∀ s' a' w', K s' → Rel κ s' a' w' → Q .normal a' w') :
    ∀ (fuel k : Nat) (listed : Array Bool) (s : St) (a : Act) (w : World), k + fuel = ops.size → k0 ≤ k → listed.size = ops.size →
    (∀ j, listed.getD j false = decide (j < k)) → (∀ i, listed.getD i false = true → Waits ops listed i) → Rel κ s a w → sOps P (stripL H ops.toList (ops.toList.drop k)) s K → wpAnyIn κ.F 0 P .any ops Q fuel listed a w
  | 0, k, listed, s, a, w, hk, hm, hs, hl, hc, h, hop => by
    refine ⟨?_, ?_⟩
    · apply List.eq_nil_iff_forall_not_mem.2
      intro i hi
      obtain ⟨h1, h2, _⟩ := (ready_iff hs).1 hi
      rw [hl] at h2; simp at h2; omega
    · rw [List.drop_eq_nil_of_le (by simp; omega)] at hop
      exact hq _ _ _ hop h
  | fuel + 1, k, listed, s, a, w, hk, hm, hs, hl, hc, h, hop => by
    have hd : DrawOK ops.size ops ∨ True := .inr trivial
    refine ⟨fun hn => ?_, fun i hi => ?_⟩
    · have hmem : k ∈ Region.ready .any ops listed := (ready_iff hs).2 ⟨by omega, by rw [hl]; simp, fun o ho e he hb => by
        have := hlt k o ho e he hb
        rw [hl]; simpa using this⟩
      rw [hn] at hmem; cases hmem
    · obtain ⟨h1, h2, h3⟩ := (ready_iff hs).1 hi
      have hik : i = k := by
        rw [hl] at h2; simp at h2
        rcases Nat.lt_or_ge k i with hlt' | hge
        · have ho : ops[i]? = some ops[i] := by simp [h1]
          have hin := hall i _ ho (by omega) k hlt'
          have := preds_listed ops.toList [] (by simp) hc (by simp) i h3 k hin
          rw [hl] at this; simp at this
        · omega
      subst hik
      have ho : ops[i]? = some ops[i] := by simp [h1]
      rw [List.drop_eq_getElem_cons (by simpa using h1), Array.getElem_toList] at hop
      have hop' : sOps P [⟨ops[i].dst, ops[i].op, ops[i].type, ops[i].guard.map fun x => ((ops.toList[x.1]?).bind (·.dst), x.2), takes ops[i].dst (ops.toList.drop (i + 1)), hintOf H ops[i].dst⟩] s (fun s' => sOps P (stripL H ops.toList (ops.toList.drop (i + 1))) s' K) := hop
      refine sOne_sound h ho hop' fun s' a' w' k1 k2 => ?_
      refine restS_any hlt hall hq fuel (i + 1) _ s' a' w' (by omega) (by omega) (by simpa using hs) (fun j => ?_) (waits_set (by omega) h3 hc) k2 k1
      rw [getD_set _ _ _ (by omega), hl]
      by_cases e : j = i
      · subst e; simp
      · have : (j == i) = false := by simpa using e
        rw [this]; simp; omega

theorem any_any {H : List (Nat × Nat)} {ops : Array Oper} {k0 : Nat} {Q : Exit → Act → World → Prop} (hk0 : k0 ≤ ops.size) (hlt : ∀ i o, ops[i]? = some o → ∀ e ∈ o.after, Region.binds .any e = true → e.on < i)
    (hall : ∀ i o, ops[i]? = some o → k0 ≤ i → ∀ j, j < i → Nat.testBit ((predsL ops.toList []).getD i 0) j = true) (hq : ∀ s' a' w', K s' → Rel κ s' a' w' → Q .normal a' w') :
    ∀ (n m : Nat) (done : List Nat) (listed : Array Bool) (s : St) (a : Act) (w : World), n + done.length = k0 → m + k0 = ops.size → done.Nodup → (∀ j ∈ done, j < k0) → listed.size = ops.size →
    (∀ j, listed.getD j false = done.contains j) → (∀ i, listed.getD i false = true → Waits ops listed i) → Rel κ s a w →
    anyGo P (stripM H ops.toList (ops.toList.take k0)) (fun s' => sOps P (stripL H ops.toList (ops.toList.drop k0)) s' K) n done s → wpAnyIn κ.F 0 P .any ops Q (n + m) listed a w
  | 0, m, done, listed, s, a, w, hn, hm, hnd, hdk, hs, hl, hc, h, hop => by
    rw [Nat.zero_add]
    refine restS_any hlt hall hq m k0 listed s a w (by omega) (Nat.le_refl _) hs (fun j => ?_) hc h hop
    rw [hl, Bool.eq_iff_iff]
    simp only [List.contains_iff_mem, decide_eq_true_eq]
    refine ⟨hdk j, fun hj => ?_⟩
    refine Classical.byContradiction fun hnm => ?_
    have := nodup_le (l := j :: done) (m := List.range k0) (List.nodup_cons.2 ⟨hnm, hnd⟩) fun x hx => by
      rcases List.mem_cons.1 hx with rfl | hx
      · simpa using hj
      · simpa using hdk x hx
    simp at this; omega
  | n + 1, m, done, listed, s, a, w, hn, hm, hnd, hdk, hs, hl, hc, h, hop => by
    rw [show n + 1 + m = (n + m) + 1 by omega]
    have hmiss : ∃ i, i < k0 ∧ ¬ i ∈ done := Classical.byContradiction fun hno => by
      have hin : ∀ x ∈ List.range k0, x ∈ done := fun x hx => Classical.byContradiction fun h => hno ⟨x, by simpa using hx, h⟩
      have := nodup_le (l := List.range k0) (m := done) List.nodup_range hin
      simp at this; omega
    refine ⟨fun hnil => ?_, fun i hi => ?_⟩
    · have key : ∀ i, i < ops.size → listed.getD i false = true := by
        intro i
        induction i using Nat.strongRecOn with
        | ind i ih =>
          intro hi
          refine Classical.byContradiction fun hno => ?_
          have : i ∈ Region.ready .any ops listed := (ready_iff hs).2 ⟨hi, by simpa using hno, fun o ho e he hb => by
            have := hlt i o ho e he hb
            exact ih e.on this (by omega)⟩
          rw [hnil] at this; cases this
      obtain ⟨i, h1, h2⟩ := hmiss
      have := key i (by omega)
      rw [hl] at this; exact absurd (by simpa using this) h2
    · obtain ⟨h1, h2, h3⟩ := (ready_iff hs).1 hi
      have ho : ops[i]? = some ops[i] := by simp [h1]
      have hik : i < k0 := by
        rcases Nat.lt_or_ge i k0 with h' | h'
        · exact h'
        · exfalso
          obtain ⟨j, hj, hjn⟩ := hmiss
          have hin := hall i _ ho h' j (by omega)
          have := preds_listed ops.toList [] (by simp) hc (by simp) i h3 j hin
          rw [hl] at this; exact hjn (by simpa using this)
      obtain ⟨r, hh, e⟩ := stripM_get (H := H) (all := ops.toList) (l := ops.toList.take k0) (i := i) (o := ops[i]) (by rw [List.getElem?_take_of_lt hik]; simpa using ho)
      unfold anyGo at hop
      have hst := anyL_get hop e (by rw [Nat.zero_add, ← hl]; exact h2) (by
        rw [List.all_eq_true]
        intro j hj
        obtain ⟨e', q1, q2, rfl⟩ := onsOf_mem hj
        rw [← hl]; exact h3 _ ho e' (by simpa using q1) q2)
      rw [Nat.zero_add] at hst
      refine sOne_sound h ho hst fun s' a' w' k1 k2 => ?_
      have hnm : ¬ i ∈ done := fun hh => by
        rw [hl] at h2; simp at h2; exact h2 hh
      refine any_any hk0 hlt hall hq n m (i :: done) _ s' a' w' (by simp; omega) hm (List.nodup_cons.2 ⟨hnm, hnd⟩) (fun j hj => ?_) (by simpa using hs) (fun j => ?_) (waits_set (by omega) h3 hc) k2 k1
      · rcases List.mem_cons.1 hj with rfl | hj
        · exact hik
        · exact hdk j hj
      · rw [getD_set _ _ _ (by omega), hl, List.contains_cons, Bool.or_comm]

theorem any_sem {H : List (Nat × Nat)} {id k0 : Nat} {ops : Array Oper} {Q : Ex → St → Prop} (hmo : P.follows .mixedOrders = true) (hd : anyChk k0 0 ops.toList [] = true) (hm : k0 ≤ ops.size)
    (hk : anyGo P (stripM H ops.toList (ops.toList.take k0)) (fun s' => sOps P (stripL H ops.toList (ops.toList.drop k0)) s' (Q .normal)) (stripM H ops.toList (ops.toList.take k0)).length [] s) : SemC P (.region id ops true) Q s := by
  intro κ a w hr
  refine wpIn_region_any hmo ?_
  have key := anyChk_spec (all := ops.toList) ops.toList 0 [] hd (by simp) rfl
  have hlen : (stripM H ops.toList (ops.toList.take k0)).length = k0 := by rw [stripM_length]; simp; omega
  rw [hlen] at hk
  have := any_any (κ := κ) (P := P) (H := H) (ops := ops) (k0 := k0) (Q := postK κ Q) (K := Q .normal) hm (fun i o ho => (key i o (Nat.zero_le _) (by simpa using ho)).1) (fun i o ho hki => (key i o (Nat.zero_le _) (by simpa using ho)).2 hki)
    (fun s' a' w' k1 k2 => ⟨.normal, s', rfl, k1, k2⟩) k0 (ops.size - k0) [] (Array.replicate ops.size false) s a { w with drawn := w.drawn + 1 } (by simp) (by omega) List.nodup_nil (by simp) (by simp) (fun j => by simp [Array.getD]) (fun i hi => by simp [Array.getD] at hi)
    (by obtain ⟨Φ, B, au, h⟩ := hr; exact ⟨Φ, B, au, h.grow (Grows.drew w _)⟩) hk
  rw [show k0 + (ops.size - k0) = ops.size by omega] at this
  exact this

/-- a stripped loop -/
def SemL (P : Program) (sc : SC) (Q : Ex → St → Prop) (s : St) : Prop := ∀ H M c, stripC H M c = sc → drawsOK M c = true → SemC P (.loop c) Q s
/-- a stripped range over a function -/
def SemR (P : Program) (g : Operand) (ps : List Nat) (sa sb : SC) (Q : Ex → St → Prop) (s : St) : Prop :=
  ∀ H M asg body, stripC H M asg = sa → stripC H M body = sb → drawsOK M asg = true → drawsOK M body = true → SemC P (.rangeFunc g ps.toArray asg body) Q s

def eK (P : Program) : SC → (Ex → St → Prop) → St → Prop
  | .skip, Q, s => Q .normal s
  | .ret, Q, s => Q .ret s
  | .exit id, Q, s => Q (.exit id) s
  | .goto l, Q, s => Q (.goto l) s
  | .seq a b, Q, s => eK P a (thenK (eK P b Q) Q) s
  | .ops f l, Q, s => sFree P s.hp.length f s fun s' => sOps P l s' (Q .normal)
  | .any f l, Q, s => anyGo P f (fun s' => sOps P l s' (Q .normal)) f.length [] s
  | .mix f (some o) l m, Q, s => sFree P s.hp.length f s fun s1 => match o.op with
    | .call c => callX P c s1 o.d fun s2 => anyGo P l (Q .normal) (l.length - m) (upto m) s2
    | _ => False
  | .mix _ none _ _, _, _ => False
  | .alc f (some ox) (some oy) l, Q, s => sFree P s.hp.length f s fun s1 => sOps P [ox, oy] s1 (fun s2 => sOps P l s2 (Q .normal)) ∧ sOps P [oy, ox] s1 (fun s2 => sOps P l s2 (Q .normal))
  | .alc _ _ _ _, _, _ => False
  | .alx f l m, Q, s => sFree P s.hp.length f s fun s1 => anyGo P l (Q .normal) (l.length - m) (upto m) s1
  | .cond c a b, Q, s => match ev P 0 s c with
    | .d (.bool t) => gd t true (eK P a Q s) (eK P b Q s)
    | _ => False
  | .block id c, Q, s => eK P c (inBlockK id Q) s
  | .loop c, Q, s => SemL P c Q s
  | .range g ps a b, Q, s => SemR P g ps a b Q s
  | .other c, Q, s => SemC P c Q s

theorem stripL_drop {H : List (Nat × Nat)} {all : List Oper} {l : List Oper} {n : Nat} (h : l.length ≤ n) {K : St → Prop} {s : St} : sOps P (stripL H all (l.drop n)) s K = K s := by
  rw [List.drop_eq_nil_of_le h]; rfl

theorem mixS_sem {H : List (Nat × Nat)} {id m x : Nat} {ops : Array Oper} {Q : Ex → St → Prop} {s : St} (hmo : P.follows .mixedOrders = true) (hd : mixChk m x ops = true)
    (hk : eK P (.mix (stripL [] ops.toList ((ops.toList.take m).eraseIdx x)) ((ops.toList[x]?).map fun o => ⟨o.dst, o.op, o.type, none, false, 0⟩) (stripM H ops.toList ops.toList) m) Q s) : SemC P (.region id ops true) Q s := by
  intro κ a w hr
  refine wpIn_region_any hmo ?_
  simp only [mixChk, Bool.and_eq_true, decide_eq_true_eq] at hd
  obtain ⟨⟨⟨h1, h2⟩, h3⟩, h4⟩ := hd
  have key := mixGo_spec (all := ops.toList) ops.toList 0 [] [] h1 (by simp) rfl (by simp)
  cases hox : ops.toList[x]? with
  | none => rw [hox] at h4; cases h4
  | some ox =>
    rw [hox] at h4 hk
    simp only [Bool.and_eq_true] at h4
    obtain ⟨h5, h6⟩ := h4
    simp only [Option.map_some, eK] at hk
    unfold isCallG at h5
    rw [Bool.and_eq_true] at h5
    obtain ⟨h7, h8⟩ := h5
    cases hop : ox.op with
    | call c =>
      have hk' : freeK P s.hp.length ops.toList ((ops.toList.take m).eraseIdx x) s fun s1 => callX P c s1 ox.dst fun s2 => anyGo P (stripM H ops.toList ops.toList) (Q .normal) ((stripM H ops.toList ops.toList).length - m) (upto m) s2 := by
        rw [← sFree_eq (H := [])]
        simpa only [hop] using hk
      have hM : MixOK m x ox ops := ⟨fun i o ho => (key i o (Nat.zero_le _) (by simpa using ho)).1, fun i j o p ho hp hji hjm => by
          rcases (key i o (Nat.zero_le _) (by simpa using ho)).2 j p hji (by simpa using hp) with q | q | q
          · exact .inl q
          · exact .inr q
          · omega, h2, h3, by simpa using hox, fun i o him ho hix => by
          have := xChk_spec h6 i o (by rw [List.getElem?_take_of_lt him]; simpa using ho) (by omega)
          simpa using this⟩
      refine mix_sem hM hop (by simpa using h7) hk' (w := { w with drawn := w.drawn + 1 }) (by obtain ⟨Φ, B, au, h⟩ := hr; exact ⟨Φ, B, au, h.grow (Grows.drew w _)⟩) fun listed s' a' w' hs hl hc hK hr' => ?_
      have hlen : (stripM H ops.toList ops.toList).length = ops.size := by rw [stripM_length]; simp
      have e1 : ops.toList.take ops.size = ops.toList := by rw [← Array.length_toList, List.take_length]
      have := any_any (κ := κ) (P := P) (H := H) (ops := ops) (k0 := ops.size) (Q := postK κ Q) (K := Q .normal) (Nat.le_refl _) (fun i o ho => (key i o (Nat.zero_le _) (by simpa using ho)).1)
        (fun i o ho hi => by have := (Array.getElem?_eq_some_iff.1 ho).1; omega) (fun s' a' w' k1 k2 => ⟨.normal, s', rfl, k1, k2⟩) (ops.size - m) 0 (upto m) listed s' a' w' (by rw [upto_len]; omega) (by omega) (upto_nodup _) (fun j hj => by have := upto_mem.1 hj; omega) hs
        (fun j => by rw [hl, Bool.eq_iff_iff]; simp [upto_mem]) hc hr' (by
          simp only [hlen] at hK
          rw [e1]
          have e2 : (fun s' => sOps P (stripL H ops.toList (ops.toList.drop ops.size)) s' (Q .normal)) = Q .normal := funext fun s' => stripL_drop (by simp)
          rw [e2]; exact hK)
      simpa using this
    | _ => rw [hop] at h8; cases h8

theorem sOps_alloc2 {dx dy : Nat} {ux uy : TypeId} {tx ty : TypeId} {cx cy : List V} (hx : zeroVs P ux = some cx) (hy : zeroVs P uy = some cy) {s : St} {K : St → Prop} :
    sOps P [⟨some dx, .alloc ux, tx, none, false, 0⟩, ⟨some dy, .alloc uy, ty, none, false, 0⟩] s K = K (pushS [(dx, .var cx), (dy, .var cy)] s) := by
  simp only [sOps, sStep, SOp.oper, stepK, hx, hy, pushS, if_true]
theorem alcS_sem {H : List (Nat × Nat)} {id n : Nat} {ops : Array Oper} {Q : Ex → St → Prop} {s : St} (hmo : P.follows .mixedOrders = true) (hd : alcChk n ops = true)
    (hk : eK P (.alc (stripL [] ops.toList (ops.toList.take n)) ((ops.toList[n]?).map fun o => ⟨o.dst, o.op, o.type, none, false, 0⟩) ((ops.toList[n + 1]?).map fun o => ⟨o.dst, o.op, o.type, none, false, 0⟩) (stripL H ops.toList (ops.toList.drop (n + 2)))) Q s) : SemC P (.region id ops true) Q s := by
  intro κ a w hr
  refine wpIn_region_any hmo ?_
  simp only [alcChk, Bool.and_eq_true, decide_eq_true_eq] at hd
  obtain ⟨⟨h1, h2⟩, h4⟩ := hd
  have key := alcGo_spec (all := ops.toList) ops.toList 0 [] [] h1 (by simp) rfl (by simp)
  have hox : ∃ ox, ops.toList[n]? = some ox := ⟨ops.toList[n]'(by simp; omega), by simp⟩
  have hoy : ∃ oy, ops.toList[n + 1]? = some oy := ⟨ops.toList[n + 1]'(by simp; omega), by simp⟩
  obtain ⟨ox, hox⟩ := hox
  obtain ⟨oy, hoy⟩ := hoy
  rw [hox, hoy] at h4 hk
  simp only [Bool.and_eq_true] at h4
  obtain ⟨⟨⟨a1, a2⟩, a3⟩, a4⟩ := h4
  simp only [Option.map_some, eK] at hk
  unfold isAllocG at a1 a2
  simp only [Bool.and_eq_true, Option.isNone_iff_eq_none, Option.isSome_iff_exists] at a1 a2
  obtain ⟨⟨gx, dx, ex⟩, ax⟩ := a1
  obtain ⟨⟨gy, dy, ey⟩, ay⟩ := a2
  cases hopx : ox.op with
  | alloc ux =>
    cases hopy : oy.op with
    | alloc uy =>
      rw [sFree_eq] at hk
      simp only [hopx, hopy, ex, ey] at hk
      obtain ⟨es, k1, k2, k3⟩ := free_effs (base := s.hp.length) (all := ops.toList) (Nat.le_refl _) (ops.toList.take n) s (Nat.le_refl _) hk
      have hcs : ∃ cx cy, zeroVs P ux = some cx ∧ zeroVs P uy = some cy := by
        have k2 := k2.1
        simp only [sOps, sStep, SOp.oper, stepK, if_true] at k2
        cases hzx : zeroVs P ux with
        | none => rw [hzx] at k2; exact k2.elim
        | some cx =>
          rw [hzx] at k2
          simp only at k2
          cases hzy : zeroVs P uy with
          | none => rw [hzy] at k2; exact k2.elim
          | some cy => exact ⟨cx, cy, rfl, rfl⟩
      obtain ⟨cx, cy, zx, zy⟩ := hcs
      clear k1 k2 k3 es
      simp only [sOps_alloc2 zx zy, sOps_alloc2 zy zx] at hk
      have wx : ∀ o : Oper, dx ∈ opWrites ox := fun _ => List.mem_append_left _ (by simp [ex])
      have wy : ∀ o : Oper, dy ∈ opWrites oy := fun _ => List.mem_append_left _ (by simp [ey])
      have hM : AlcOK P n ops ox oy (dx, .var cx) (dy, .var cy) := by
        refine ⟨fun i o ho => (key i o (Nat.zero_le _) (by simpa using ho)).1, fun i j o p ho hp hji => (key i o (Nat.zero_le _) (by simpa using ho)).2 j p hji (by simpa using hp), h2, by simpa using hox, by simpa using hoy, gx, gy, fun s' K' hK' => ?_, fun s' K' hK' => ?_, fun i o hi ho => ?_⟩
        · simpa only [stepK, hopx, zx, ex, pushS] using hK'
        · simpa only [stepK, hopy, zy, ey, pushS] using hK'
        · have b1 := xChk_spec a3 i o (by rw [List.getElem?_take_of_lt hi]; simpa using ho) (by omega)
          have b2 := xChk_spec a4 i o (by rw [List.getElem?_take_of_lt hi]; simpa using ho) (by omega)
          exact ⟨b1.1, b1.2.1 dx (wx o), b2.2.1 dy (wy o)⟩
      refine alc_sem (K := fun s2 => sOps P (stripL H ops.toList (ops.toList.drop (n + 2))) s2 (Q .normal)) hM hk (w := { w with drawn := w.drawn + 1 }) (by obtain ⟨Φ, B, au, h⟩ := hr; exact ⟨Φ, B, au, h.grow (Grows.drew w _)⟩) fun listed s' a' w' hs hl hc hK hr' => ?_
      exact restS_any (K := Q .normal) (H := H) (k0 := n + 2) hM.lt (fun i o ho hi j hj => by
          have hlt := (Array.getElem?_eq_some_iff.1 ho).1
          rcases hM.all i j o (ops[j]'(by omega)) ho (by simp) hj with q | q
          · exact q
          · omega) (fun s' a' w' k1 k2 => ⟨.normal, s', rfl, k1, k2⟩) (ops.size - (n + 2)) (n + 2) listed s' a' w' (by omega) (Nat.le_refl _) hs hl hc hr' hK
    | _ => rw [hopy] at ay; cases ay
  | _ => rw [hopx] at ax; cases ax

theorem count_done {l : List Bool} {done : List Nat} (hnd : done.Nodup) (hlt : ∀ d ∈ done, d < l.length) (h : ∀ j, l.getD j false = done.contains j) : l.count false + done.length = l.length := by
  have e1 : l = (List.range l.length).map fun j => done.contains j := by
    apply List.ext_getElem
    · simp
    · intro i h1 h2
      have := h i
      simp only [List.getElem_map, List.getElem_range]
      rw [← this]; simp [List.getD, h1]
  have e2 : ((List.range l.length).filter fun j => done.contains j).length = done.length := by
    refine Nat.le_antisymm (nodup_le (List.nodup_range.filter _) fun x hx => ?_) (nodup_le hnd fun x hx => ?_)
    · simpa using (List.mem_filter.1 hx).2
    · exact List.mem_filter.2 ⟨by simpa using hlt x hx, by simpa using hx⟩
  have e3 : l.count true = done.length := by
    rw [← e2]
    conv => lhs; rw [e1]
    rw [List.count_eq_countP, List.countP_map, List.countP_eq_length_filter]
    congr 1
    exact List.filter_congr fun x _ => by simp
  have e4 : l.count true + l.count false = l.length := by
    have : ∀ l : List Bool, l.count true + l.count false = l.length := by
      intro l
      induction l with
      | nil => rfl
      | cons b l ih => cases b <;> simp <;> omega
    exact this l
  omega
theorem alxS_sem {H : List (Nat × Nat)} {id n : Nat} {ops : Array Oper} {Q : Ex → St → Prop} {s : St} (hmo : P.follows .mixedOrders = true) (hd : alxChk n ops = true)
    (hk : eK P (.alx (stripL [] ops.toList (ops.toList.take n)) (stripM H ops.toList ops.toList) n) Q s) : SemC P (.region id ops true) Q s := by
  intro κ a w hr
  refine wpIn_region_any hmo ?_
  simp only [alxChk, Bool.and_eq_true, decide_eq_true_eq] at hd
  obtain ⟨h1, h2⟩ := hd
  have key := alxGo_spec (all := ops.toList) ops.toList 0 [] [] h1 (by simp) rfl (by simp)
  simp only [eK] at hk
  rw [sFree_eq] at hk
  have hM : AlxOK P n ops := by
    refine ⟨fun i o ho => (key i o (Nat.zero_le _) (by simpa using ho)).1, fun i o hi ho => (key i o (Nat.zero_le _) (by simpa using ho)).2.1 hi, fun i j o p ho hp hji hjn => ?_, h2⟩
    rcases (key i o (Nat.zero_le _) (by simpa using ho)).2.2 j p hji (by simpa using hp) with q | q | q
    · exact .inl q
    · exact .inr q
    · omega
  obtain ⟨es, k1, k2, k3⟩ := free_effs (base := s.hp.length) (all := ops.toList) (Nat.le_refl _) (ops.toList.take n) s (Nat.le_refl _) hk
  have hE : EffsOK P s.hp.length n ops es s := by
    refine ⟨by rw [k1]; simp; omega, Nat.le_refl _, fun i o him ho => ?_⟩
    obtain ⟨e, q1, q2, q3, q4⟩ := k3 i o (by rw [List.getElem?_take_of_lt him]; simpa using ho)
    exact ⟨e, q1, q2, q3 (hM.na i o him ho), q4⟩
  have hlen : (stripM H ops.toList ops.toList).length = ops.size := by rw [stripM_length]; simp
  rw [hlen] at k2
  refine alx_run (Q := postK κ Q) (w := { w with drawn := w.drawn + 1 }) hM hE (V := fun ds => ds.Nodup ∧ (∀ d ∈ ds, n ≤ d ∧ d < ops.size) ∧ anyGo P (stripM H ops.toList ops.toList) (Q .normal) (ops.size - n - ds.length) (ds ++ upto n) (pushS (ds.reverse.map (madeAt P ops)) (stL (fun _ => true) 0 es s)))
    ?_ ?_ ops.size _ [] a (by simp) (by simp) (fun i _ => by simp [Array.getD]) (fun d hd => by cases hd) List.nodup_nil (fun i hi => by simp [Array.getD] at hi) ⟨List.nodup_nil, fun d hd => (by cases hd), by simpa [pushS] using k2⟩ ?_
  · rintro ds i o ⟨v1, v2, v3⟩ hin ho hal hnd hpre
    have hil : i < ops.size := (Array.getElem?_eq_some_iff.1 ho).1
    have hcount : ds.length < ops.size - n := by
      have := nodup_le (l := i :: ds) (m := List.range' n (ops.size - n)) (List.nodup_cons.2 ⟨hnd, v1⟩) fun x hx => by
        rw [List.mem_range'_1]
        rcases List.mem_cons.1 hx with rfl | hx
        · omega
        · have := v2 x hx; omega
      simp at this; omega
    obtain ⟨k, hk⟩ : ∃ k, ops.size - n - ds.length = k + 1 := ⟨ops.size - n - ds.length - 1, by omega⟩
    rw [hk] at v3
    obtain ⟨r, hh, e⟩ := stripM_get (H := H) (all := ops.toList) (l := ops.toList) (i := i) (o := o) (by simpa using ho)
    unfold anyGo at v3
    have hst := anyL_get v3 e (by
      rw [Nat.zero_add]
      simp only [List.contains_eq_mem, decide_eq_false_iff_not, List.mem_append, upto_mem]
      rintro (h | h)
      · exact hnd h
      · omega) (by
      rw [List.all_eq_true]
      intro j hj
      obtain ⟨e', q1, q2, rfl⟩ := onsOf_mem hj
      simp only [List.contains_eq_mem, decide_eq_true_eq, List.mem_append, upto_mem]
      rcases hpre e' (by simpa using q1) q2 with h | h
      · exact .inr h
      · exact .inl h)
    rw [Nat.zero_add] at hst
    have hal' := hal
    unfold isAllocB at hal'
    simp only [Bool.and_eq_true, Option.isSome_iff_exists, Option.isNone_iff_eq_none] at hal'
    obtain ⟨⟨hg, d, hd⟩, hop⟩ := hal'
    cases hop' : o.op with
    | alloc u =>
      simp only [sOps, hg, Option.map_none, sStep, hop', hd, SOp.oper] at hst
      split at hst
      · simp only [stepK] at hst
        cases hz : zeroVs P u with
        | none => rw [hz] at hst; exact hst.elim
        | some cs =>
          rw [hz] at hst
          refine ⟨⟨u, cs, rfl, hz⟩, List.nodup_cons.2 ⟨hnd, v1⟩, fun x hx => ?_, ?_⟩
          · rcases List.mem_cons.1 hx with rfl | hx
            · exact ⟨hin, hil⟩
            · exact v2 x hx
          · have e1 : ops.size - n - (i :: ds).length = k := by simp; omega
            rw [e1, List.reverse_cons, List.map_append, List.map_cons, List.map_nil, pushS_snoc, madeAt_eq ho]
            simp only [madeBy, hd, hop', hz, Option.getD_some, List.cons_append]
            exact hst
      · simp only [heapK] at hst
    | _ => rw [hop'] at hop; cases hop
  · rintro fuel listed ds a' w' hf hs hl hc hnd hds ⟨v1, v2, v3⟩ hr'
    have e1 : ops.toList.take ops.size = ops.toList := by rw [← Array.length_toList, List.take_length]
    have hdn : (ds ++ upto n).Nodup := List.nodup_append.2 ⟨hnd, upto_nodup n, fun x hx y hy e => by have := (hds x hx).1; rw [upto_mem] at hy; omega⟩
    have hlj : ∀ j, listed.getD j false = (ds ++ upto n).contains j := fun j => by
      rw [hl, Bool.eq_iff_iff]
      simp only [Bool.or_eq_true, decide_eq_true_eq, List.contains_eq_mem, List.mem_append, upto_mem]
      exact Or.comm
    have hcnt := count_done (l := listed.toList) (done := ds ++ upto n) hdn (fun d hd => by
      rw [Array.length_toList, hs]
      rcases List.mem_append.1 hd with hd | hd
      · exact (hds d hd).2
      · rw [upto_mem] at hd; omega) (fun j => by rw [← hlj, Array.getD_eq_getD_getElem?, List.getD_eq_getElem?_getD, Array.getElem?_toList])
    have hsz : listed.toList.length = ops.size := by rw [Array.length_toList, hs]
    rw [List.length_append, upto_len, hsz, hf] at hcnt
    have := any_any (κ := κ) (P := P) (H := H) (ops := ops) (k0 := ops.size) (Q := postK κ Q) (K := Q .normal) (Nat.le_refl _) hM.lt
      (fun i o ho hi => by have := (Array.getElem?_eq_some_iff.1 ho).1; omega) (fun s' a' w' k1 k2 => ⟨.normal, s', rfl, k1, k2⟩) fuel 0 (ds ++ upto n) listed _ a' w' (by rw [List.length_append, upto_len]; omega) (by omega) hdn (fun j hj => by
        rcases List.mem_append.1 hj with hj | hj
        · exact (hds j hj).2
        · rw [upto_mem] at hj; omega) hs hlj hc hr' (by
          rw [e1]
          have e2 : (fun s' => sOps P (stripL H ops.toList (ops.toList.drop ops.size)) s' (Q .normal)) = Q .normal := funext fun s' => stripL_drop (by simp)
          rw [e2, show fuel = ops.size - n - ds.length by omega]; exact v3)
    simpa using this
  · have e0 : stL (fun j => (Array.replicate ops.size false).getD j false) 0 es s = s := by
      have : ∀ (es : List Eff) (i : Nat) (s : St), stL (fun _ => false) i es s = s := by
        intro es
        induction es with
        | nil => intros; rfl
        | cons e es ih => intro i s; simp only [stL, Bool.false_eq_true, if_false]; exact ih _ _
      rw [show (fun j => (Array.replicate ops.size false).getD j false) = fun _ => false from funext fun j => by simp [Array.getD]]
      exact this es 0 s
    simp only [List.reverse_nil, List.map_nil, pushS]
    rw [e0]
    obtain ⟨Φ, B, au, h⟩ := hr
    exact ⟨Φ, B, au, h.grow (Grows.drew w _)⟩

theorem e_sound (hmo : P.follows .mixedOrders = true) {H M : List (Nat × Nat)} : ∀ (c : Code) (Q : Ex → St → Prop) (s : St), drawsOK M c = true → eK P (stripC H M c) Q s → SemC P c Q s := by
  intro c
  induction c with
  | skip => intro Q s _ h; exact wp_sound _ _ _ h
  | label l => intro Q s _ h; exact wp_sound _ _ _ h
  | ret => intro Q s _ h; exact wp_sound _ _ _ h
  | exit id => intro Q s _ h; exact wp_sound _ _ _ h
  | goto l => intro Q s _ h; exact wp_sound _ _ _ h
  | seq a b iha ihb =>
    intro Q s hd h
    simp only [drawsOK, Bool.and_eq_true] at hd
    refine seq_sem (SemC.mono (iha _ s hd.1 h) fun e s' he => ?_)
    cases e with
    | normal => exact ihb Q s' hd.2 he
    | _ => exact he
  | region id ops free =>
    intro Q s hd h
    cases free with
    | false =>
      rcases Nat.lt_or_ge (freeOf M id 0) 2000000 with hlt9 | hge
      case inr =>
        simp only [stripC, if_pos hge] at h
        exact h
      simp only [stripC, if_neg (Nat.not_le.2 hlt9)] at h
      intro κ a w hr; exact sregion_sound hr h
    | true =>
      simp only [drawsOK, Bool.not_true, Bool.false_or] at hd
      rcases Nat.lt_or_ge (freeOf M id ops.size) 2000000 with hlt9 | hge
      case inr =>
        simp only [stripC, if_pos hge] at h
        exact h
      have e9 : Nat.ble 2000000 (freeOf M id ops.size) = false := by
        cases hb : Nat.ble 2000000 (freeOf M id ops.size) with
        | false => rfl
        | true => have := Nat.le_of_ble_eq_true hb; omega
      simp only [e9, cond_false] at hd
      rcases Nat.lt_or_ge (freeOf M id ops.size) 1000000 with hlt0 | hge
      case inr =>
        have e1 : Nat.ble 1000000 (freeOf M id ops.size) = true := Nat.ble_eq_true_of_le hge
        simp only [e1, cond_true] at hd
        simp only [stripC, if_neg (Nat.not_le.2 hlt9), if_pos hge] at h
        generalize hm0 : (freeOf M id ops.size - 1000000) % 1000 = m0 at hd h
        generalize hx0 : (freeOf M id ops.size - 1000000) / 1000 = x0 at hd h
        exact mixS_sem (H := H) hmo hd h
      have e0 : Nat.ble 1000000 (freeOf M id ops.size) = false := by
        cases hb : Nat.ble 1000000 (freeOf M id ops.size) with
        | false => rfl
        | true => have := Nat.le_of_ble_eq_true hb; omega
      simp only [e0, cond_false] at hd
      simp only [stripC, if_neg (Nat.not_le.2 hlt9), if_neg (Nat.not_le.2 hlt0)] at h
      rcases Nat.lt_or_ge (freeOf M id ops.size) 500000 with hlt5 | hge
      case inr =>
        have e1 : Nat.ble 500000 (freeOf M id ops.size) = true := Nat.ble_eq_true_of_le hge
        simp only [e1, cond_true] at hd
        simp only [if_pos hge] at h
        generalize hm0 : freeOf M id ops.size - 500002 = m0 at hd h
        exact alcS_sem (H := H) hmo hd h
      have e5 : Nat.ble 500000 (freeOf M id ops.size) = false := by
        cases hb : Nat.ble 500000 (freeOf M id ops.size) with
        | false => rfl
        | true => have := Nat.le_of_ble_eq_true hb; omega
      simp only [e5, cond_false] at hd
      simp only [if_neg (Nat.not_le.2 hlt5)] at h
      rcases Nat.lt_or_ge (freeOf M id ops.size) 250000 with hlt6 | hge
      case inr =>
        have e1 : Nat.ble 250000 (freeOf M id ops.size) = true := Nat.ble_eq_true_of_le hge
        simp only [e1, cond_true] at hd
        simp only [if_pos hge] at h
        generalize hm0 : freeOf M id ops.size - 250000 = m0 at hd h
        exact alxS_sem (H := H) hmo hd h
      have e6 : Nat.ble 250000 (freeOf M id ops.size) = false := by
        cases hb : Nat.ble 250000 (freeOf M id ops.size) with
        | false => rfl
        | true => have := Nat.le_of_ble_eq_true hb; omega
      simp only [e6, cond_false] at hd
      simp only [if_neg (Nat.not_le.2 hlt6)] at h
      rcases Nat.lt_or_ge (freeOf M id ops.size) 1000 with hlt | hge
      case inr =>
        have e1 : Nat.ble 1000 (freeOf M id ops.size) = true := Nat.ble_eq_true_of_le hge
        simp only [e1, cond_true, Bool.and_eq_true, decide_eq_true_eq] at hd
        simp only [if_pos hge, eK] at h
        generalize hm0 : freeOf M id ops.size - 1000 = m0 at hd h
        exact any_sem (H := H) (k0 := m0) hmo hd.1 hd.2 h
      have e1 : Nat.ble 1000 (freeOf M id ops.size) = false := by
        cases hb : Nat.ble 1000 (freeOf M id ops.size) with
        | false => rfl
        | true => have := Nat.le_of_ble_eq_true hb; omega
      simp only [e1, cond_false, Bool.and_eq_true, decide_eq_true_eq] at hd
      refine draw_sem _ hmo hd.1 hd.2 ?_
      simp only [if_neg (Nat.not_le.2 hlt)] at h
      have h' : sFree P s.hp.length (stripL [] ops.toList (ops.toList.take (freeOf M id ops.size))) s fun s' => sOps P (stripL [] ops.toList (ops.toList.drop (freeOf M id ops.size))) s' (Q .normal) := h
      have e : (fun s' => sOps P (stripL [] ops.toList (ops.toList.drop (freeOf M id ops.size))) s' (Q .normal)) = fun s' => opsK P ops.toList (ops.toList.drop (freeOf M id ops.size)) s' (Q .normal) := funext fun s' => sOps_eq
      rw [e, sFree_eq] at h'
      exact h'
  | cond c x y ihx ihy =>
    intro Q s hd h κ a w hr
    simp only [drawsOK, Bool.and_eq_true] at hd
    simp only [stripC, eK] at h
    split at h
    · rename_i t e
      have hb : a.eval c = .bool t := by
        obtain ⟨Φ, B, au, hi⟩ := hr
        exact repD_bool (ev_d hi e)
      exact wpIn_cond_split hb (fun ht => ihx Q s hd.1 (h.1 ht) κ a w hr) (fun ht => ihy Q s hd.2 (h.2 (by simpa using ht)) κ a w hr)
    · exact h.elim
  | block id c ih => intro Q s hd h; exact block_sem (ih _ s hd h)
  | loop c ih => intro Q s hd h; exact h H M c rfl hd
  | rangeFunc f ps asg c _ _ =>
    intro Q s hd h
    simp only [drawsOK, Bool.and_eq_true] at hd
    have := h H M asg c rfl rfl hd.1 hd.2
    simpa using this
  | scope c ih => intro Q s _ h; exact h
  | refuse why => intro Q s _ h; exact h

/-- A loop, stripped: a family of states, each with a number that goes down. -/
theorem loopS {s : St} {sc : SC} {Q : Ex → St → Prop} {α : Type} (hmo : P.follows .mixedOrders = true) (inv : α → Prop) (F : α → St) (μ : α → Nat) (i0 : α) (h0 : inv i0) (hle : LeS s (F i0))
    (round : ∀ i, inv i → eK P sc (thenK (fun s' => ∃ j, inv j ∧ μ j < μ i ∧ LeS s' (F j)) Q) (F i)) : SemL P sc Q s := by
  rintro H M c rfl hd
  refine loop_sem (fun k s => ∃ i, inv i ∧ μ i = k ∧ s = F i) (μ i0) (F i0) ⟨i0, h0, rfl, rfl⟩ hle.le ?_
  rintro k s ⟨i, hi, rfl, rfl⟩
  refine (e_sound hmo _ _ _ hd (round i hi)).mono fun e s' h => ?_
  cases e with
  | normal =>
    obtain ⟨j, h1, h2, h3⟩ := h
    exact ⟨μ j, F j, h2, ⟨j, h1, rfl, rfl⟩, h3.le⟩
  | _ => exact h

/-- a pure call: the slots, the code, the results -/
theorem pcallS {f : FuncId} {fn : Func} (H M : List (Nat × Nat)) (hmo : P.follows .mixedOrders = true) (c : Code) (rs : List ResultVar) {ds : List D} {rv : V} (hf : P.funcs[f]? = some fn) (hb : fn.body = some c) (hr : fn.results.toList = rs) (hn : (resSlots rs).Nodup)
    (n : Nat) (hnn : fn.ntmps - ds.length = n) (hd : drawsOK M c = true) (h : eK P (stripC H M c) (retF P rs rv) ⟨ds.map V.d ++ List.replicate n .un, [], 0⟩) : PCall P f ds rv := by
  refine pcall_frz (callK_enterS hf hb (by rw [hr]; exact hn) ?_)
  rw [retK_retH, hr, List.length_map, hnn, ← retF_retH]; exact e_sound hmo _ _ _ hd h

/-- a call: the slots, the code, the results and the memory -/
theorem callS {f : FuncId} {fn : Func} (H M : List (Nat × Nat)) (hmo : P.follows .mixedOrders = true) (c : Code) (rs : List ResultVar) {args : List V} {hp : List IObj} {K : V → List IObj → Prop} (hf : P.funcs[f]? = some fn) (hb : fn.body = some c) (hr : fn.results.toList = rs) (hn : (resSlots rs).Nodup)
    (n : Nat) (hnn : fn.ntmps - args.length = n) (hd : drawsOK M c = true) (h : eK P (stripC H M c) (retH P rs K) ⟨args ++ List.replicate n .un, hp, hp.length⟩) : CallK P f args hp K := by
  refine callK_enterS hf hb (by rw [hr]; exact hn) ?_
  rw [retK_retH, hr, hnn]; exact e_sound hmo _ _ _ hd h

/-! ### Ranging over a function -/
theorem SemC.post {c : Code} {Q Q' : Ex → St → Prop} (h : SemC P c Q s) (hq : ∀ e s', Q e s' → ∃ s'', s'.le s'' ∧ Q' e s'') : SemC P c Q' s := fun κ a w hr => by
  refine wpIn_mono (h κ a w hr) fun e a' w' => ?_
  rintro ⟨e', s', rfl, h1, h2⟩
  obtain ⟨s'', h3, h4⟩ := hq e' s' h1
  exact ⟨e', s'', rfl, h4, h3 κ a' w' h2⟩

/-- a region in an order of its own, behind which the objects may be numbered anew -/
theorem regionR {id : Nat} {ops : Array Oper} {Q : Ex → St → Prop} (H : List (Nat × Nat)) (k : Nat) (hmo : P.follows .mixedOrders = true) (hd : drawsOK [(id, k)] (.region id ops true) = true) (h : eK P (stripC H [(id, k)] (.region id ops true)) (fun e s' => ∃ s'', s'.le s'' ∧ Q e s'') s) : SemC P (.region id ops true) Q s :=
  SemC.post (e_sound hmo _ _ _ hd h) fun e s' ⟨s'', h1, h2⟩ => ⟨s'', h1, h2⟩

/-- what holds of a state that says less -/
theorem SemC.pre {c : Code} {Q : Ex → St → Prop} {s' : St} (hs : s.le s') (h : SemC P c Q s') : SemC P c Q s := fun κ a w hr => h κ a w (hs κ a w hr)
/-- a region in the order of its text, that is left whole by M = (id, 2000000); behind it a state may say less -/
theorem regionRf {id : Nat} {ops : Array Oper} {Q : Ex → St → Prop} (H : List (Nat × Nat)) (h : sOps P (stripL H ops.toList ops.toList) s fun s' => ∃ s'', s'.le s'' ∧ Q .normal s'') : SemC P (.region id ops false) Q s :=
  SemC.post (Q := fun e s' => ∃ s'', s'.le s'' ∧ Q e s'') (fun κ a w hr => sregion_sound hr h) fun e s' ⟨s'', h1, h2⟩ => ⟨s'', h1, h2⟩

mutual
theorem V.lt_mono {m n : Nat} (h : m ≤ n) : ∀ {v : V}, V.lt m v = true → V.lt n v = true
  | .ptr _ _, e | .aptr _ _ _ _, e | .ref _ _ _ _ _, e | .yld _, e | .map _, e => by simp only [V.lt, decide_eq_true_eq] at e ⊢; omega
  | .fn _ caps, e => by simp only [V.lt] at e ⊢; exact V.ltL_mono h e
  | .tup caps, e => by simp only [V.lt] at e ⊢; exact V.ltL_mono h e
  | .st caps, e => by simp only [V.lt] at e ⊢; exact V.ltL_mono h e
  | .un, _ | .d _, _ | .nil _, _ | .own _ _, _ | .hold _ _, _ | .lptr _ _ _ _ _, _ => rfl
theorem V.ltL_mono {m n : Nat} (h : m ≤ n) : ∀ {vs : List V}, V.ltL m vs = true → V.ltL n vs = true
  | [], _ => rfl
  | v :: vs, e => by
    simp only [V.ltL, Bool.and_eq_true] at e ⊢
    exact ⟨V.lt_mono h e.1, V.ltL_mono h e.2⟩
end
theorem IObj.lt_mono {m n : Nat} (h : m ≤ n) {o : IObj} (e : o.lt m = true) : o.lt n = true := by
  cases o <;> simp only [IObj.lt] at e ⊢
  · exact V.ltL_mono h e
  · exact V.ltL_mono h e
  · simp only [decide_eq_true_eq] at e ⊢; omega
  · exact V.ltL_mono h e
theorem ltObjs_mono {m n : Nat} (h : m ≤ n) : ∀ {os : List IObj}, ltObjs m os = true → ltObjs n os = true
  | [], _ => rfl
  | o :: os, e => by
    simp only [ltObjs, Bool.and_eq_true] at e ⊢
    exact ⟨IObj.lt_mono h e.1, ltObjs_mono h e.2⟩
theorem ltObjs_append {m : Nat} : ∀ {a b : List IObj}, ltObjs m (a ++ b) = (ltObjs m a && ltObjs m b)
  | [], b => by simp [ltObjs]
  | o :: a, b => by simp only [List.cons_append, ltObjs, ltObjs_append, Bool.and_assoc]
theorem V.lt_cp {m : Nat} {v : V} (h : V.lt m v = true) : V.lt m v.cp = true := by
  cases v with
  | tup vs =>
    simp only [V.cp, V.lt] at h ⊢
    have aux : ∀ vs : List V, V.ltL m vs = true → V.ltL m (vs.map fun v => match v with | .own z xs => .d (.sl false z xs) | .hold _ xs => .d (shapeD xs.length) | v => v) = true := by
      intro vs
      induction vs with
      | nil => intro _; rfl
      | cons v vs ih =>
        intro h
        simp only [V.ltL, List.map_cons, Bool.and_eq_true] at h ⊢
        refine ⟨?_, ih h.2⟩
        cases v <;> first | rfl | exact h.1
    exact aux vs h
  | own z xs => rfl
  | hold z xs => rfl
  | _ => exact h
theorem V.ltL_cp {m : Nat} : ∀ {vs : List V}, V.ltL m vs = true → V.ltL m (vs.map V.cp) = true
  | [], _ => rfl
  | v :: vs, h => by
    simp only [V.ltL, List.map_cons, Bool.and_eq_true] at h ⊢
    exact ⟨V.lt_cp h.1, V.ltL_cp h.2⟩

mutual
theorem V.ren_id {n : Nat} : ∀ {v : V}, V.lt n v = true → V.ren (List.range n) v = v
  | .ptr i _, e | .aptr i _ _ _, e | .ref i _ _ _ _, e | .yld i, e | .map i, e => by
    simp only [V.lt, decide_eq_true_eq] at e
    simp only [V.ren, List.getD_eq_getElem?_getD, List.getElem?_range e, Option.getD_some]
  | .fn _ caps, e => by simp only [V.lt] at e; simp only [V.ren, V.renL_id e]
  | .tup caps, e => by simp only [V.lt] at e; simp only [V.ren, V.renL_id e]
  | .st caps, e => by simp only [V.lt] at e; simp only [V.ren, V.renL_id e]
  | .un, _ | .d _, _ | .nil _, _ | .own _ _, _ | .hold _ _, _ | .lptr _ _ _ _ _, _ => rfl
theorem V.renL_id {n : Nat} : ∀ {vs : List V}, V.ltL n vs = true → V.renL (List.range n) vs = vs
  | [], _ => rfl
  | v :: vs, e => by
    simp only [V.ltL, Bool.and_eq_true] at e
    simp only [V.renL, V.ren_id e.1, V.renL_id e.2]
end
theorem IObj.ren_id {n : Nat} {o : IObj} (e : o.lt n = true) : o.ren (List.range n) = o := by
  cases o with
  | free => rfl
  | var cs => simp only [IObj.lt] at e; simp only [IObj.ren, V.renL_id e]
  | arr z xs => rfl
  | map c es =>
    simp only [IObj.lt] at e
    simp only [IObj.ren, IObj.map.injEq, true_and]
    conv => rhs; rw [← List.map_id es]
    refine List.map_congr_left fun x hx => ?_
    obtain ⟨j, hj, rfl⟩ := List.getElem_of_mem hx
    have := V.ren_id (ltL_get e j es[j].2.2 (by rw [List.getElem?_map, List.getElem?_eq_getElem hj]; rfl))
    rw [this]; rfl
  | iter m s n' l =>
    simp only [IObj.lt, decide_eq_true_eq] at e
    simp only [IObj.ren, List.getD_eq_getElem?_getD, List.getElem?_range e, Option.getD_some]
  | loop r p tm ps a b => simp only [IObj.lt] at e; simp only [IObj.ren, V.renL_id e]

theorem setObjs_range : ∀ (os h priv : List IObj) (k : Nat) (pre : List IObj), os.length = h.length → pre.length = k → setObjs (pre ++ h ++ priv) (List.range' k h.length) os = pre ++ os ++ priv
  | [], h, priv, k, pre, hl, hk => by
    have : h = [] := List.length_eq_zero_iff.1 (by simpa using hl.symm)
    subst this; simp [setObjs]
  | o :: os, [], priv, k, pre, hl, hk => by simp at hl
  | o :: os, x :: h, priv, k, pre, hl, hk => by
    rw [List.length_cons, List.range'_succ, setObjs]
    have e : (pre ++ x :: h ++ priv).set k o = (pre ++ [o]) ++ h ++ priv := by
      subst hk; simp
    rw [e, setObjs_range os h priv (k + 1) (pre ++ [o]) (by simpa using hl) (by simp [hk])]
    simp

/-- **A round beside objects that it does not see.** -/
theorem roundK_append {id : Nat} {args : List V} {hp priv : List IObj} {K : V → List IObj → Prop} (h : RoundK P id args hp K) (hid : id < hp.length) (hlt : V.ltL hp.length args = true) (hlo : ltObjs hp.length hp = true) (hbare : args.all V.bare = true) (hk : ∀ r hp', K r hp' → hp'.length = hp.length ∧ ltObjs hp.length hp' = true ∧ ∃ b, r = .d (.bool b)) :
    RoundK P id args (hp ++ priv) fun r hp' => ∃ hp1, hp' = hp1 ++ priv ∧ K r hp1 := by
  have hs : Sub (List.range hp.length) hp (hp ++ priv) := by
    refine ⟨by simp, List.nodup_range, fun i j o hi ho => ?_, hlo⟩
    have hlt' : i < hp.length := (List.getElem?_eq_some_iff.1 ho).1
    rw [List.getElem?_range hlt'] at hi
    injection hi with hi; subst hi
    rw [IObj.ren_id (ltObjs_get hlo i o ho), List.getElem?_append_left hlt']; exact ho
  have := roundK_frame (K' := fun r hp' => ∃ hp1, hp' = hp1 ++ priv ∧ K r hp1) h (List.range hp.length) hs hid hlt hbare (argsB := args) (by rw [V.renL_id hlt]; exact LeTm.refl _) fun r hp' hK => by
    obtain ⟨q1, q2, b, rfl⟩ := hk r hp' hK
    refine ⟨hp', ?_, hK⟩
    have e1 : renNew (List.range hp.length) (hp ++ priv).length (hp'.length - (List.range hp.length).length) = List.range hp.length := by
      unfold renNew; rw [q1]; simp
    unfold mergeHp
    rw [e1]
    have e2 : hp'.map (IObj.ren (List.range hp.length)) = hp' := by
      conv => rhs; rw [← List.map_id hp']
      refine List.map_congr_left fun o ho => ?_
      obtain ⟨j, hj, rfl⟩ := List.getElem_of_mem ho
      exact IObj.ren_id (ltObjs_get q2 j _ (List.getElem?_eq_getElem hj))
    have e3 : hp'.drop (List.range hp.length).length = [] := by rw [List.drop_eq_nil_iff]; simp [q1]
    rw [e2, e3, List.map_nil, List.append_nil]
    have := setObjs_range hp' hp priv 0 [] q1 rfl
    simpa [List.range_eq_range'] using this
  rwa [show (List.range hp.length).getD id 0 = id by rw [List.getD_eq_getElem?_getD, List.getElem?_range hid]; rfl] at this

/-- A function's yields, in their order. The memory's first objects, as many as there are at the call, are handed from round to round; what the function makes besides is its own. -/
def Yields (P : Program) (f : FuncId) (caps : List V) (Pre : List IObj → Prop) (ys : List (List V)) : Prop :=
  ∀ (id : Nat) (hp : List IObj) (J : Nat → List IObj → Prop) (E : List IObj → Prop), id < hp.length → J 0 hp → (∀ i hp', J i hp' → hp'.length = hp.length ∧ ltObjs hp.length hp' = true ∧ Pre hp') →
    (∀ i hp', J i hp' → ∀ (h : i < ys.length), RoundK P id ys[i] hp' fun r hp'' => ∃ b, r = .d (.bool b) ∧ hp''.length = hp.length ∧ ltObjs hp.length hp'' = true ∧ (b = true → J (i + 1) hp'') ∧ (b = false → E hp'')) →
    (∀ hp', J ys.length hp' → E hp') → CallK P f (.yld id :: caps) hp fun _ hp' => hp.length ≤ hp'.length ∧ E (hp'.take hp.length)

/-- The same of a function that changes objects that it was made with: `step i` is what it makes of the memory ahead of the yield i (or, behind all, at its end). -/
def YieldsS (P : Program) (f : FuncId) (caps : List V) (Pre : Nat → List IObj → Prop) (step : Nat → List IObj → List IObj) (ys : List (List V)) : Prop :=
  ∀ (id : Nat) (hp : List IObj) (J : Nat → List IObj → Prop) (E : List IObj → Prop), id < hp.length → J 0 hp → (∀ i hp', J i hp' → hp'.length = hp.length ∧ ltObjs hp.length hp' = true ∧ Pre i hp') →
    (∀ i hp', J i hp' → ∀ (h : i < ys.length), RoundK P id ys[i] (step i hp') fun r hp'' => ∃ b, r = .d (.bool b) ∧ hp''.length = hp.length ∧ ltObjs hp.length hp'' = true ∧ (b = true → J (i + 1) hp'') ∧ (b = false → E hp'')) →
    (∀ hp', J ys.length hp' → E (step ys.length hp')) → CallK P f (.yld id :: caps) hp fun _ hp' => hp.length ≤ hp'.length ∧ E (hp'.take hp.length)

theorem Yields.toS {P : Program} {f : FuncId} {caps : List V} {Pre : List IObj → Prop} {ys : List (List V)} (h : Yields P f caps Pre ys) : YieldsS P f caps (fun _ => Pre) (fun _ hp => hp) ys :=
  fun id hp J E h1 h2 h3 h5 h6 => h id hp J E h1 h2 h3 h5 h6

theorem RoundK.mono {id : Nat} {args : List V} {hp : List IObj} {K K' : V → List IObj → Prop} (h : RoundK P id args hp K) (hk : ∀ r hp', K r hp' → K' r hp') : RoundK P id args hp K' := fun Φ B au w cargs b hi hb => by
  obtain ⟨fn, tmps, asg, body, h1, h2⟩ := h Φ B au w cargs b hi hb
  exact ⟨fn, tmps, asg, body, h1, RoundIn.mono h2 fun e w' ⟨v, r, hp', q1, q2, q3⟩ => ⟨v, r, hp', q1, hk _ _ q2, q3⟩⟩

/-- a yield out of an iterator with objects of its own -/
theorem yieldA {y n : Nat} {args : List V} {hp1 priv : List IObj} {J E : List IObj → Prop} {K' : V → List IObj → Prop} (hr : RoundK P y args hp1 fun r hp'' => ∃ b, r = .d (.bool b) ∧ hp''.length = n ∧ ltObjs n hp'' = true ∧ (b = true → J hp'') ∧ (b = false → E hp'')) (hn : hp1.length = n) (hlo : ltObjs n hp1 = true) (hy : y < n) (hlt : V.ltL n args = true) (hbare : args.all V.bare = true)
    (hk : ∀ b hp2, hp2.length = n → ltObjs n hp2 = true → (b = true → J hp2) → (b = false → E hp2) → K' (.d (.bool b)) (hp2 ++ priv)) : RoundK P y args (hp1 ++ priv) K' := by
  subst hn
  refine (roundK_append hr hy hlt hlo hbare fun r hp' ⟨b, h1, h2, h3, _⟩ => ⟨h2, h3, b, h1⟩).mono ?_
  rintro r hp' ⟨hp2, rfl, b, rfl, h2, h3, h4, h5⟩
  exact hk b hp2 h2 h3 h4 h5

/-- what is asked at a round's end -/
def roundPost (s0 : St) (L1 : IObj) (n : Nat) (inv' : List IObj → Prop) (Q : Ex → St → Prop) (e : Ex) (s2 : St) : Prop :=
  s2.nb ≤ n + 1 ∧ s2.hp[n]? = some L1 ∧ ltObjs n (s2.hp.take n) = true ∧ (match e with
    | .normal => inv' (s2.hp.take n)
    | e => Q e ⟨s0.tm, s2.hp.take n, s0.nb⟩)
/-- between the loop's variables and its body -/
def roundMid (P : Program) (sb : SC) (L0 L1 : IObj) (n : Nat) (R : Ex → St → Prop) (e : Ex) (s1 : St) : Prop := match e with
  | .normal => s1.hp[n]? = some L0 ∧ eK P sb R ⟨s1.tm, s1.hp.set n L1, s1.nb⟩
  | _ => False

/-- **Ranging over a function whose yields are known.** -/
theorem rangeYSl {g : Operand} {ps : List Nat} {sa sb : SC} {Q : Ex → St → Prop} {f : FuncId} {caps : List V} {ys : List (List V)} (hmo : P.follows .mixedOrders = true) {Pre : Nat → List IObj → Prop} {step : Nat → List IObj → List IObj} (hY : YieldsS P f caps Pre step ys) (hg : ev P 0 s g = .fn (.func f) caps) (hb : hasBody P f = true) (hbare : caps.all V.bare = true)
    (hlt : V.ltL s.hp.length s.tm = true) (hnb : s.nb ≤ s.hp.length) (hps : ∀ y ∈ ys, y.length = ps.length ∧ y.all V.bare = true) (inv : Nat → List IObj → Prop) (h0 : inv 0 s.hp) (hinv : ∀ i hp, inv i hp → hp.length = s.hp.length ∧ ltObjs s.hp.length hp = true ∧ (∀ L, Pre i (hp ++ [L]) ∧ step i (hp ++ [L]) = step i hp ++ [L]) ∧ (step i hp).length = s.hp.length ∧ ltObjs s.hp.length (step i hp) = true)
    (round : ∀ i hp, inv i hp → ∀ (h : i < ys.length) (L0 L1 : IObj), L1.lt (s.hp.length + 1) = true → eK P sa (roundMid P sb L0 L1 s.hp.length (roundPost s L1 s.hp.length (inv (i + 1)) Q)) ⟨setAll (s.tm.map V.cp) (ps.zip ys[i]), step i hp ++ [L0], s.hp.length + 1⟩)
    (hend : ∀ hp, inv ys.length hp → Q .normal ⟨s.tm, step ys.length hp, s.nb⟩) : SemR P g ps sa sb Q s := by
  rintro H M asg body rfl rfl hda hdb
  let n := s.hp.length
  let L0 : IObj := .loop true none (s.tm.map V.cp) ps asg body
  let L1 : IObj := .loop false none (s.tm.map V.cp) ps asg body
  let Lx : Option Code → IObj := fun p => .loop (p.isNone) p (s.tm.map V.cp) ps asg body
  have hLlt : ∀ m p, n ≤ m → (Lx p).lt m = true := fun m p h => by
    show V.ltL m (s.tm.map V.cp) = true
    exact V.ltL_mono h (V.ltL_cp hlt)
  have hL1lt : L1.lt (n + 1) = true := by
    show V.ltL (n + 1) (s.tm.map V.cp) = true
    exact V.ltL_mono (Nat.le_succ _) (V.ltL_cp hlt)
  let E : List IObj → Prop := fun hp' => ∃ hp2, hp2.length = n ∧ ltObjs n hp2 = true ∧ ((hp' = hp2 ++ [Lx none] ∧ Q .normal ⟨s.tm, hp2, s.nb⟩) ∨ (hp' = hp2 ++ [Lx (some .ret)] ∧ Q .ret ⟨s.tm, hp2, s.nb⟩) ∨ (∃ i, hp' = hp2 ++ [Lx (some (.exit i))] ∧ Q (.exit i) ⟨s.tm, hp2, s.nb⟩) ∨ (∃ i, hp' = hp2 ++ [Lx (some (.goto i))] ∧ Q (.goto i) ⟨s.tm, hp2, s.nb⟩))
  let J : Nat → List IObj → Prop := fun i hp' => ∃ hp2, hp' = hp2 ++ [L0] ∧ inv i hp2
  have hL0 : L0 = Lx none := rfl
  -- the range's post, the objects behind cut
  have hpost : SemC P (.rangeFunc g ps.toArray asg body) (fun e s' => ∃ s'', s'.le s'' ∧ Q e s'') s := by
    refine range_sem (f := f) (caps := caps) hg hb hbare ?_
    have hc := hY n (s.hp ++ [L0]) J E (by simp [n]) ⟨s.hp, rfl, h0⟩ (fun i hp' hj => ?_) (fun i hp' hj hi => ?_) (fun hp' hj => ?_)
    · refine CallK.mono hc fun r hp' hE => ?_
      obtain ⟨hlen, hp2, hl2, hlo2, hE⟩ := hE
      rw [List.length_append] at hlen hE
      change n + 1 ≤ _ at hlen
      change (hp'.take (n + 1) = _ ∧ _) ∨ (hp'.take (n + 1) = _ ∧ _) ∨ (∃ i, hp'.take (n + 1) = _ ∧ _) ∨ (∃ i, hp'.take (n + 1) = _ ∧ _) at hE
      have hcut : ∀ (p : Option Code), hp'.take (n + 1) = hp2 ++ [Lx p] → hp'[n]? = some (Lx p) ∧ ∀ (e : Ex), Q e ⟨s.tm, hp2, s.nb⟩ → ∃ s'', ({ s with hp := hp'.set n .free } : St).le s'' ∧ Q e s'' := by
        intro p ep
        have e1 : hp'[n]? = some (Lx p) := by
          have : (hp'.take (n + 1))[n]? = (hp2 ++ [Lx p])[n]? := by rw [ep]
          rw [List.getElem?_take, if_pos (Nat.lt_succ_self n), List.getElem?_append_right (by omega)] at this
          simpa [hl2] using this
        refine ⟨e1, fun e hq => ⟨⟨s.tm, hp2, s.nb⟩, ?_, hq⟩⟩
        have htake : (hp'.set n .free).take n = hp2 := by
          rw [List.take_set_of_le (Nat.le_refl n)]
          have this : (hp'.take (n + 1)).take n = (hp2 ++ [Lx p]).take n := by rw [ep]
          rw [List.take_take, Nat.min_eq_left (Nat.le_succ n), List.take_append_of_le_length (by omega)] at this
          rw [this, List.take_of_length_le (by omega)]
        have := St.le_cut (s := { s with hp := hp'.set n .free }) (tm := s.tm) n (LeTm.refl _) hlt (by simp only; rw [htake]; exact hlo2) hnb (by rw [List.length_set]; omega)
        simp only [htake] at this
        exact this
      unfold rangeEnd
      rcases hE with ⟨ep, hq⟩ | ⟨ep, hq⟩ | ⟨i, ep, hq⟩ | ⟨i, ep, hq⟩
      · obtain ⟨e1, e2⟩ := hcut _ ep
        rw [show hp'[s.hp.length]? = some (Lx none) from e1]; exact e2 _ hq
      · obtain ⟨e1, e2⟩ := hcut _ ep
        rw [show hp'[s.hp.length]? = some (Lx (some .ret)) from e1]; exact e2 _ hq
      · obtain ⟨e1, e2⟩ := hcut _ ep
        rw [show hp'[s.hp.length]? = some (Lx (some (.exit i))) from e1]; exact e2 _ hq
      · obtain ⟨e1, e2⟩ := hcut _ ep
        rw [show hp'[s.hp.length]? = some (Lx (some (.goto i))) from e1]; exact e2 _ hq
    · obtain ⟨hp2, rfl, hi⟩ := hj
      obtain ⟨q1, q2, q3⟩ := hinv i hp2 hi
      refine ⟨by simp [q1], ?_, (q3.1 _).1⟩
      rw [ltObjs_append, Bool.and_eq_true]
      refine ⟨ltObjs_mono (by simp) q2, ?_⟩
      simp only [ltObjs, Bool.and_true]
      exact hLlt _ none (by simp [n])
    · obtain ⟨hp2, rfl, hi2⟩ := hj
      obtain ⟨_, _, q4, q1, q2⟩ := hinv i hp2 hi2
      obtain ⟨p1, p2⟩ := hps _ (List.getElem_mem hi)
      rw [(q4 L0).2]
      refine roundK_enterC (tm := s.tm.map V.cp) (ps := ps) (asg := asg) (body := body) ?_ p1.symm p2 ?_
      · rw [List.getElem?_append_right (by simp [n, q1])]; simp [n, q1]; rfl
      have hr := round i hp2 hi2 hi L0 L1 hL1lt
      have hlen1 : (step i hp2 ++ [L0]).length = n + 1 := by simp [n, q1]
      rw [hlen1]
      refine SemC.mono (e_sound hmo (H := H) asg _ _ hda hr) fun e s1 h1 => ?_
      cases e with
      | normal =>
        obtain ⟨h1, h2⟩ := h1
        simp only [beginC]
        rw [show s1.hp[n]? = some L0 from h1]
        refine SemC.post (e_sound hmo (H := H) body _ _ hdb h2) fun e s2 h3 => ?_
        obtain ⟨g1, g2, g3, g4⟩ := h3
        have hnlt : n < s2.hp.length := (List.getElem?_eq_some_iff.1 g2).1
        have htk : s2.hp.take (n + 1) = s2.hp.take n ++ [L1] := by
          rw [List.take_add_one, g2]; rfl
        have hlo : ltObjs (n + 1) (s2.hp.take (n + 1)) = true := by
          rw [htk, ltObjs_append, Bool.and_eq_true]
          refine ⟨ltObjs_mono (Nat.le_succ _) g3, ?_⟩
          simp only [ltObjs, Bool.and_true]; exact hL1lt
        refine ⟨⟨List.replicate s2.tm.length .un, s2.hp.take (n + 1), s2.nb⟩, St.le_cut (n + 1) ?_ ?_ hlo g1 hnlt, ?_⟩
        · have : ∀ l : List V, LeTm l (List.replicate l.length .un) := by
            intro l
            induction l with
            | nil => exact .nil
            | cons v l ih => exact .un ih
          exact this _
        · have : ∀ k, V.ltL (n + 1) (List.replicate k .un) = true := by
            intro k
            induction k with
            | zero => rfl
            | succ k ih => rw [List.replicate_succ]; simp only [V.ltL, V.lt, Bool.true_and]; exact ih
          exact this _
        · unfold roundEndK
          have hat : (s2.hp.take (n + 1))[n]? = some L1 := by rw [List.getElem?_take, if_pos (by omega)]; exact g2
          simp only
          rw [hat]
          have hset : ∀ o, (s2.hp.take (n + 1)).set n o = s2.hp.take n ++ [o] := fun o => by
            rw [htk]; simp [List.length_take, Nat.min_eq_left (Nat.le_of_lt hnlt)]
          have htl : (s2.hp.take n).length = n := by simp; omega
          have hlx : ∀ p, ltObjs (s.hp ++ [L0]).length (s2.hp.take n ++ [Lx p]) = true := fun p => by
            rw [ltObjs_append, Bool.and_eq_true]
            refine ⟨ltObjs_mono (by simp [n]) g3, ?_⟩
            simp only [ltObjs, Bool.and_true]; exact hLlt _ p (by simp [n])
          cases e with
          | normal =>
            simp only [L1]
            refine ⟨true, rfl, ?_, ?_, fun _ => ?_, fun h => by cases h⟩
            · rw [hset]; simp [htl, n]
            · rw [hset]; exact hlx none
            · rw [hset]; exact ⟨_, rfl, g4⟩
          | ret =>
            simp only [L1]
            refine ⟨false, rfl, ?_, ?_, fun h => (by cases h), fun _ => ?_⟩
            · rw [hset]; simp [htl, n]
            · rw [hset]; exact hlx (some .ret)
            · rw [hset]; exact ⟨_, htl, g3, .inr (.inl ⟨rfl, g4⟩)⟩
          | exit j =>
            simp only [L1]
            refine ⟨false, rfl, ?_, ?_, fun h => (by cases h), fun _ => ?_⟩
            · rw [hset]; simp [htl, n]
            · rw [hset]; exact hlx (some (.exit j))
            · rw [hset]; exact ⟨_, htl, g3, .inr (.inr (.inl ⟨j, rfl, g4⟩))⟩
          | goto j =>
            simp only [L1]
            refine ⟨false, rfl, ?_, ?_, fun h => (by cases h), fun _ => ?_⟩
            · rw [hset]; simp [htl, n]
            · rw [hset]; exact hlx (some (.goto j))
            · rw [hset]; exact ⟨_, htl, g3, .inr (.inr (.inr ⟨j, rfl, g4⟩))⟩
      | _ => exact h1.elim
    · obtain ⟨hp2, rfl, hi2⟩ := hj
      obtain ⟨_, _, q4, q1, q2⟩ := hinv _ hp2 hi2
      rw [(q4 L0).2]
      exact ⟨step ys.length hp2, q1, q2, .inl ⟨rfl, hend hp2 hi2⟩⟩
  exact SemC.post hpost fun e s' h => h

theorem rangeYS {g : Operand} {ps : List Nat} {sa sb : SC} {Q : Ex → St → Prop} {f : FuncId} {caps : List V} {ys : List (List V)} (hmo : P.follows .mixedOrders = true) {Pre : Nat → List IObj → Prop} {step : Nat → List IObj → List IObj} (hY : YieldsS P f caps Pre step ys) (hg : ev P 0 s g = .fn (.func f) caps) (hb : hasBody P f = true) (hbare : caps.all V.bare = true)
    (hlt : V.ltL s.hp.length s.tm = true) (hnb : s.nb ≤ s.hp.length) (hps : ∀ y ∈ ys, y.length = ps.length ∧ y.all V.bare = true) (inv : Nat → List IObj → Prop) (h0 : inv 0 s.hp) (hinv : ∀ i hp, inv i hp → hp.length = s.hp.length ∧ ltObjs s.hp.length hp = true ∧ (∀ L, Pre i (hp ++ [L]) ∧ step i (hp ++ [L]) = step i hp ++ [L]) ∧ (step i hp).length = s.hp.length ∧ ltObjs s.hp.length (step i hp) = true)
    (round : ∀ i hp, inv i hp → ∀ (h : i < ys.length) (L0 L1 : IObj), eK P sa (roundMid P sb L0 L1 s.hp.length (roundPost s L1 s.hp.length (inv (i + 1)) Q)) ⟨setAll (s.tm.map V.cp) (ps.zip ys[i]), step i hp ++ [L0], s.hp.length + 1⟩)
    (hend : ∀ hp, inv ys.length hp → Q .normal ⟨s.tm, step ys.length hp, s.nb⟩) : SemR P g ps sa sb Q s :=
  rangeYSl hmo hY hg hb hbare hlt hnb hps inv h0 hinv (fun i hp h1 h2 L0 L1 _ => round i hp h1 h2 L0 L1) hend

/-- the same, where the function changes nothing of its own -/
theorem rangeY {g : Operand} {ps : List Nat} {sa sb : SC} {Q : Ex → St → Prop} {f : FuncId} {caps : List V} {ys : List (List V)} (hmo : P.follows .mixedOrders = true) {Pre : List IObj → Prop} (hY : Yields P f caps Pre ys) (hg : ev P 0 s g = .fn (.func f) caps) (hb : hasBody P f = true) (hbare : caps.all V.bare = true)
    (hlt : V.ltL s.hp.length s.tm = true) (hnb : s.nb ≤ s.hp.length) (hps : ∀ y ∈ ys, y.length = ps.length ∧ y.all V.bare = true) (inv : Nat → List IObj → Prop) (h0 : inv 0 s.hp) (hinv : ∀ i hp, inv i hp → hp.length = s.hp.length ∧ ltObjs s.hp.length hp = true ∧ ∀ L, Pre (hp ++ [L]))
    (round : ∀ i hp, inv i hp → ∀ (h : i < ys.length) (L0 L1 : IObj), eK P sa (roundMid P sb L0 L1 s.hp.length (roundPost s L1 s.hp.length (inv (i + 1)) Q)) ⟨setAll (s.tm.map V.cp) (ps.zip ys[i]), hp ++ [L0], s.hp.length + 1⟩)
    (hend : ∀ hp, inv ys.length hp → Q .normal ⟨s.tm, hp, s.nb⟩) : SemR P g ps sa sb Q s :=
  rangeYS hmo hY.toS hg hb hbare hlt hnb hps inv h0 (fun i hp h => by obtain ⟨a, b, c⟩ := hinv i hp h; exact ⟨a, b, fun L => ⟨c L, rfl⟩, a, b⟩) round hend

theorem rangeYl {g : Operand} {ps : List Nat} {sa sb : SC} {Q : Ex → St → Prop} {f : FuncId} {caps : List V} {ys : List (List V)} (hmo : P.follows .mixedOrders = true) {Pre : List IObj → Prop} (hY : Yields P f caps Pre ys) (hg : ev P 0 s g = .fn (.func f) caps) (hb : hasBody P f = true) (hbare : caps.all V.bare = true)
    (hlt : V.ltL s.hp.length s.tm = true) (hnb : s.nb ≤ s.hp.length) (hps : ∀ y ∈ ys, y.length = ps.length ∧ y.all V.bare = true) (inv : Nat → List IObj → Prop) (h0 : inv 0 s.hp) (hinv : ∀ i hp, inv i hp → hp.length = s.hp.length ∧ ltObjs s.hp.length hp = true ∧ ∀ L, Pre (hp ++ [L]))
    (round : ∀ i hp, inv i hp → ∀ (h : i < ys.length) (L0 L1 : IObj), L1.lt (s.hp.length + 1) = true → eK P sa (roundMid P sb L0 L1 s.hp.length (roundPost s L1 s.hp.length (inv (i + 1)) Q)) ⟨setAll (s.tm.map V.cp) (ps.zip ys[i]), hp ++ [L0], s.hp.length + 1⟩)
    (hend : ∀ hp, inv ys.length hp → Q .normal ⟨s.tm, hp, s.nb⟩) : SemR P g ps sa sb Q s :=
  rangeYSl hmo hY.toS hg hb hbare hlt hnb hps inv h0 (fun i hp h => by obtain ⟨a, b, c⟩ := hinv i hp h; exact ⟨a, b, fun L => ⟨c L, rfl⟩, a, b⟩) round hend

/-- the same, where the memory stays -/
theorem rangeYc {g : Operand} {ps : List Nat} {sa sb : SC} {Q : Ex → St → Prop} {f : FuncId} {caps : List V} {ys : List (List V)} (hmo : P.follows .mixedOrders = true) {Pre : List IObj → Prop} (hY : Yields P f caps Pre ys) (hg : ev P 0 s g = .fn (.func f) caps) (hb : hasBody P f = true) (hbare : caps.all V.bare = true)
    (hlt : V.ltL s.hp.length s.tm = true) (hnb : s.nb ≤ s.hp.length) (hps : ∀ y ∈ ys, y.length = ps.length ∧ y.all V.bare = true) (hlo : ltObjs s.hp.length s.hp = true) (hpre : ∀ L, Pre (s.hp ++ [L])) (inv : Nat → Prop) (h0 : inv 0)
    (round : ∀ i, inv i → ∀ (h : i < ys.length) (L0 L1 : IObj), eK P sa (roundMid P sb L0 L1 s.hp.length (roundPost s L1 s.hp.length (fun hp => hp = s.hp ∧ inv (i + 1)) Q)) ⟨setAll (s.tm.map V.cp) (ps.zip ys[i]), s.hp ++ [L0], s.hp.length + 1⟩)
    (hend : inv ys.length → Q .normal s) : SemR P g ps sa sb Q s :=
  rangeY hmo hY hg hb hbare hlt hnb hps (fun i hp => hp = s.hp ∧ inv i) ⟨rfl, h0⟩ (by rintro i hp ⟨rfl, _⟩; exact ⟨rfl, hlo, hpre⟩) (by rintro i hp ⟨rfl, h⟩ hi L0 L1; exact round i h hi L0 L1) (by rintro hp ⟨rfl, h⟩; exact hend h)

/-! ### Calls of functions that are given functions -/
/-- A call of a function, of whatever names no objects, in whatever memory. -/
def FCall (P : Program) (f : FuncId) (args : List V) (r : V) : Prop := CallK P f args [] fun r' _ => r' = r

theorem fcall_of_pcall {f : FuncId} {ds : List D} {r : V} (h : PCall P f ds r) : FCall P f (ds.map V.d) r := h

theorem callK_cut {f : FuncId} {args : List V} {hp : List IObj} {K : V → List IObj → Prop} (h : CallK P f args hp fun r hp' => hp.length ≤ hp'.length ∧ ltObjs hp.length (hp'.take hp.length) = true ∧ V.lt hp.length r = true ∧ K r (hp'.take hp.length)) : CallK P f args hp K := by
  intro Φ B au w cargs hi
  refine (h Φ B au w cargs hi).mono ?_
  rintro e w' ⟨v, r, hp', rfl, ⟨h1, h2, h3, h4⟩, hrel⟩
  have := St.le_cut (s := ⟨[r], hp', hp.length⟩) (tm := [r]) hp.length (LeTm.refl _) (by simp only [V.ltL, h3, Bool.and_true]) h2 (Nat.le_refl _) h1
  exact ⟨v, r, _, rfl, h4, this _ _ _ hrel⟩

theorem data_lt {m : Nat} {v : V} (h : v.data = true) : V.lt m v = true := by
  cases v <;> simp only [V.data] at h <;> first | rfl | (cases h; done) | skip
  rename_i vs
  simp only [V.lt]
  induction vs with
  | nil => rfl
  | cons v vs ih =>
    simp only [List.all_cons, Bool.and_eq_true] at h
    simp only [V.ltL, Bool.and_eq_true]
    refine ⟨?_, ih h.2⟩
    have := h.1
    cases v <;> simp at this <;> rfl
theorem data_ren {ρ : List Nat} {v : V} (h : v.data = true) : v.ren ρ = v := by
  cases v <;> simp only [V.data] at h <;> first | rfl | (cases h; done) | skip
  rename_i vs
  simp only [V.ren, V.tup.injEq]
  induction vs with
  | nil => rfl
  | cons v vs ih =>
    simp only [List.all_cons, Bool.and_eq_true] at h
    simp only [V.renL, List.cons.injEq]
    refine ⟨?_, ih h.2⟩
    have := h.1
    cases v <;> simp at this <;> rfl

theorem Sub.nil {hpB : List IObj} : Sub [] [] hpB := ⟨rfl, List.nodup_nil, fun i j o h => by simp at h, rfl⟩

/-- **A call of a function that is given functions.** -/
theorem callK_fcall {f : FuncId} {args args' : List V} {r : V} {hp : List IObj} {K : V → List IObj → Prop} (h : FCall P f args' r) (ha : LeL args args') (hlt : V.ltL 0 args' = true) (hlo : ltObjs hp.length hp = true) (hb : args'.all V.bare = true) (hd : r.data = true) (hk : K r hp) : CallK P f args hp K := by
  have hren : V.renL [] args' = args' := V.renL_id (n := 0) hlt
  refine callK_cut (callK_frame h [] Sub.nil hlt hb (argsB := args) (by rw [hren]; exact ha.le) fun r' hp' e => ?_)
  subst e
  have e1 : mergeHp hp [] hp' = hp ++ hp'.map (IObj.ren (renNew [] hp.length (hp'.length - 0))) := by
    unfold mergeHp
    cases hp' <;> simp [setObjs]
  rw [e1, data_ren hd]
  refine ⟨by simp, ?_, data_lt hd, ?_⟩
  · rw [List.take_left]; exact hlo
  · rw [List.take_left]; exact hk

/-- a call of whatever names no objects: the slots, the code, the results -/
theorem fcallS {f : FuncId} {fn : Func} (H M : List (Nat × Nat)) (hmo : P.follows .mixedOrders = true) (c : Code) (rs : List ResultVar) {args : List V} {rv : V} (hf : P.funcs[f]? = some fn) (hb : fn.body = some c) (hr : fn.results.toList = rs) (hn : (resSlots rs).Nodup)
    (n : Nat) (hnn : fn.ntmps - args.length = n) (hd : drawsOK M c = true) (h : eK P (stripC H M c) (retF P rs rv) ⟨args ++ List.replicate n .un, [], 0⟩) : FCall P f args rv := by
  refine fcall_frz (callK_enterS hf hb (by rw [hr]; exact hn) ?_)
  rw [retK_retH, hr, hnn, ← retF_retH]; exact e_sound hmo _ _ _ hd h

/-! ### Loops, by the slots that they write -/
def blankM : List Bool → List V → List V
  | true :: m, _ :: vs => .un :: blankM m vs
  | false :: m, v :: vs => v :: blankM m vs
  | [], vs => vs
  | _, [] => []

theorem loopA {tm : List V} {hp0 : List IObj} {nb : Nat} {sc : SC} {Q : Ex → St → Prop} {α : Type} (hmo : P.follows .mixedOrders = true) (mask : List Bool) (ovr : α → List (Nat × V)) (hp : α → List IObj) (inv : α → Prop) (μ : α → Nat) (i0 : α) (h0 : inv i0)
    (hle : LeS ⟨tm, hp0, nb⟩ ⟨setAll (blankM mask tm) (ovr i0), hp i0, nb⟩)
    (round : ∀ i, inv i → eK P sc (thenK (fun s' => ∃ j, inv j ∧ μ j < μ i ∧ LeS s' ⟨setAll (blankM mask tm) (ovr j), hp j, nb⟩) Q) ⟨setAll (blankM mask tm) (ovr i), hp i, nb⟩) : SemL P sc Q ⟨tm, hp0, nb⟩ :=
  loopS hmo inv (fun i => ⟨setAll (blankM mask tm) (ovr i), hp i, nb⟩) μ i0 h0 hle round

end

section
variable {P : Program} {Q : Ex → St → Prop} {s : St} {tm : List V} {hp : List IObj} {nb : Nat} {K : St → Prop} {r : List SOp} {o : SOp} {d : Option Nat} {op : Op} {t : TypeId} {k : Bool} {h : Nat}
theorem k_skip : eK P .skip Q s = Q .normal s := rfl
theorem k_ret : eK P .ret Q s = Q .ret s := rfl
theorem k_exit {id : Nat} : eK P (.exit id) Q s = Q (.exit id) s := rfl
theorem k_seq {a b : SC} : eK P (.seq a b) Q ⟨tm, hp, nb⟩ = eK P a (thenK (eK P b Q) Q) ⟨tm, hp, nb⟩ := rfl
theorem k_ops {l : List SOp} : eK P (.ops [] l) Q ⟨tm, hp, nb⟩ = sOps P l ⟨tm, hp, nb⟩ (Q .normal) := rfl
theorem k_free {o : SOp} {f l : List SOp} : eK P (.ops (o :: f) l) Q ⟨tm, hp, nb⟩ = sFree P hp.length (o :: f) ⟨tm, hp, nb⟩ (fun s' => sOps P l s' (Q .normal)) := rfl
theorem k_cond {c : Operand} {a b : SC} : eK P (.cond c a b) Q ⟨tm, hp, nb⟩ = (match ev P 0 ⟨tm, hp, nb⟩ c with
    | .d (.bool t) => gd t true (eK P a Q ⟨tm, hp, nb⟩) (eK P b Q ⟨tm, hp, nb⟩)
    | _ => False) := rfl
theorem k_block {id : Nat} {c : SC} : eK P (.block id c) Q ⟨tm, hp, nb⟩ = eK P c (inBlockK id Q) ⟨tm, hp, nb⟩ := rfl
theorem k_loop {c : SC} : eK P (.loop c) Q s = SemL P c Q s := rfl
theorem k_range {g : Operand} {ps : List Nat} {a b : SC} : eK P (.range g ps a b) Q s = SemR P g ps a b Q s := rfl
theorem k_other {c : Code} : eK P (.other c) Q s = SemC P c Q s := rfl
theorem s_nil : sOps P [] s K = K s := rfl
theorem s_cons : sOps P (⟨d, op, t, none, k, h⟩ :: r) ⟨tm, hp, nb⟩ K = sStep P ⟨d, op, t, none, k, h⟩ ⟨tm, hp, nb⟩ (fun s' => sOps P r s' K) := rfl
theorem sStep_g {g g' : Option (Option Nat × Bool)} : sStep P ⟨d, op, t, g, k, h⟩ s K = sStep P ⟨d, op, t, g', k, h⟩ s K := rfl
theorem s_guard {i : Nat} {want : Bool} : sOps P (⟨d, op, t, some (some i, want), k, h⟩ :: r) ⟨tm, hp, nb⟩ K = (match tm[i]? with
      | some (.d (.bool b)) => gd b want (sStep P ⟨d, op, t, none, k, h⟩ ⟨tm.set i (.d (.bool want)), hp, nb⟩ fun s' => sOps P r s' K) (sOps P r (St.put ⟨tm.set i (.d (.bool !want)), hp, nb⟩ d (.tup [])) K)
      | some (.tup []) => sOps P r (St.put ⟨tm, hp, nb⟩ d (.tup [])) K
      | _ => False) := rfl
theorem s_move {x : Operand} : sStep P ⟨d, .move x, t, none, k, 0⟩ ⟨tm, hp, nb⟩ K = K (mv ⟨tm, hp, nb⟩ x (ev P t ⟨tm, hp, nb⟩ x) d (k || (ev P t ⟨tm, hp, nb⟩ x).isTup)) := rfl
theorem s_load {u : TypeId} {x : Operand} : sStep P ⟨d, .load u x, t, none, k, 0⟩ ⟨tm, hp, nb⟩ K = loadK P u (ev P 0 ⟨tm, hp, nb⟩ x) ⟨tm, hp, nb⟩ d k K := rfl
theorem s_heap {n : Nat} : sStep P ⟨d, op, t, none, k, n + 1⟩ ⟨tm, hp, nb⟩ K = heapK P ⟨d, op, t, none, k, n + 1⟩ ⟨tm, hp, nb⟩ K := rfl
theorem s_assign {x : Operand} : sStep P ⟨d, .assign x, t, none, k, 0⟩ ⟨tm, hp, nb⟩ K = stepK P ⟨d, .assign x, t, "", #[], none⟩ [] ⟨tm, hp, nb⟩ K := rfl
theorem s_pick {c x y : Operand} : sStep P ⟨d, .pick c x y, t, none, k, 0⟩ ⟨tm, hp, nb⟩ K = stepK P ⟨d, .pick c x y, t, "", #[], none⟩ [] ⟨tm, hp, nb⟩ K := rfl
theorem s_alloc {u : TypeId} : sStep P ⟨d, .alloc u, t, none, k, 0⟩ ⟨tm, hp, nb⟩ K = stepK P ⟨d, .alloc u, t, "", #[], none⟩ [] ⟨tm, hp, nb⟩ K := rfl
theorem s_box {u : TypeId} {x : Operand} : sStep P ⟨d, .box u x, t, none, k, 0⟩ ⟨tm, hp, nb⟩ K = stepK P ⟨d, .box u x, t, "", #[], none⟩ [] ⟨tm, hp, nb⟩ K := rfl
theorem s_build {u : TypeId} {ps : Array (Nat × Operand)} : sStep P ⟨d, .build u ps, t, none, k, 0⟩ ⟨tm, hp, nb⟩ K = stepK P ⟨d, .build u ps, t, "", #[], none⟩ [] ⟨tm, hp, nb⟩ K := rfl
theorem s_buildSlice {u : TypeId} {n : Nat} {ps : Array (Nat × Operand)} : sStep P ⟨d, .buildSlice u n ps, t, none, k, 0⟩ ⟨tm, hp, nb⟩ K = stepK P ⟨d, .buildSlice u n ps, t, "", #[], none⟩ [] ⟨tm, hp, nb⟩ K := rfl
theorem s_makeSlice {u : TypeId} {x y : Operand} : sStep P ⟨d, .makeSlice u x y, t, none, k, 0⟩ ⟨tm, hp, nb⟩ K = stepK P ⟨d, .makeSlice u x y, t, "", #[], none⟩ [] ⟨tm, hp, nb⟩ K := rfl
theorem s_store {u : TypeId} {x y : Operand} : sStep P ⟨d, .store u x y, t, none, k, 0⟩ ⟨tm, hp, nb⟩ K = stepK P ⟨d, .store u x y, t, "", #[], none⟩ [] ⟨tm, hp, nb⟩ K := rfl
theorem s_bin {b : BinOp} {u u' : TypeId} {x y : Operand} : sStep P ⟨d, .binOp b u x y u', t, none, k, 0⟩ ⟨tm, hp, nb⟩ K = stepK P ⟨d, .binOp b u x y u', t, "", #[], none⟩ [] ⟨tm, hp, nb⟩ K := rfl
theorem s_un {b : UnOp} {u : TypeId} {x : Operand} : sStep P ⟨d, .unOp b u x, t, none, k, 0⟩ ⟨tm, hp, nb⟩ K = stepK P ⟨d, .unOp b u x, t, "", #[], none⟩ [] ⟨tm, hp, nb⟩ K := rfl
theorem s_makeFunc {f : Fn} {fs cs : Array Operand} : sStep P ⟨d, .makeFunc f fs cs, t, none, k, 0⟩ ⟨tm, hp, nb⟩ K = stepK P ⟨d, .makeFunc f fs cs, t, "", #[], none⟩ [] ⟨tm, hp, nb⟩ K := rfl
theorem s_slice {u : TypeId} {x : Operand} {lo hi mx : Option Operand} : sStep P ⟨d, .slice u x lo hi mx, t, none, k, 0⟩ ⟨tm, hp, nb⟩ K = stepK P ⟨d, .slice u x lo hi mx, t, "", #[], none⟩ [] ⟨tm, hp, nb⟩ K := rfl
theorem s_fieldAddr {u : TypeId} {x : Operand} {f : Nat} : sStep P ⟨d, .fieldAddr u x f, t, none, k, 0⟩ ⟨tm, hp, nb⟩ K = stepK P ⟨d, .fieldAddr u x f, t, "", #[], none⟩ [] ⟨tm, hp, nb⟩ K := rfl
theorem s_field {u : TypeId} {x : Operand} {f : Nat} : sStep P ⟨d, .field u x f, t, none, k, 0⟩ ⟨tm, hp, nb⟩ K = stepK P ⟨d, .field u x f, t, "", #[], none⟩ [] ⟨tm, hp, nb⟩ K := rfl
theorem s_indexAddr {u : TypeId} {x i : Operand} : sStep P ⟨d, .indexAddr u x i, t, none, k, 0⟩ ⟨tm, hp, nb⟩ K = stepK P ⟨d, .indexAddr u x i, t, "", #[], none⟩ [] ⟨tm, hp, nb⟩ K := rfl
theorem s_index {u : TypeId} {x i : Operand} : sStep P ⟨d, .index u x i, t, none, k, 0⟩ ⟨tm, hp, nb⟩ K = stepK P ⟨d, .index u x i, t, "", #[], none⟩ [] ⟨tm, hp, nb⟩ K := rfl
theorem s_extract {x : Operand} {ix : Nat} : sStep P ⟨d, .extract x ix, t, none, k, 0⟩ ⟨tm, hp, nb⟩ K = stepK P ⟨d, .extract x ix, t, "", #[], none⟩ [] ⟨tm, hp, nb⟩ K := rfl
theorem s_call {c : Call} : sStep P ⟨d, .call c, t, none, k, 0⟩ ⟨tm, hp, nb⟩ K = stepK P ⟨d, .call c, t, "", #[], none⟩ [] ⟨tm, hp, nb⟩ K := rfl
theorem s_convert {u u' : TypeId} {x : Operand} : sStep P ⟨d, .convert u u' x, t, none, k, 0⟩ ⟨tm, hp, nb⟩ K = stepK P ⟨d, .convert u u' x, t, "", #[], none⟩ [] ⟨tm, hp, nb⟩ K := rfl
theorem s_makeMap {u : TypeId} : sStep P ⟨d, .makeMap u none, t, none, k, 0⟩ ⟨tm, hp, nb⟩ K = stepK P ⟨d, .makeMap u none, t, "", #[], none⟩ [] ⟨tm, hp, nb⟩ K := rfl
theorem s_lookup {u : TypeId} {x y : Operand} {ok : Bool} : sStep P ⟨d, .lookup u x y ok, t, none, k, 0⟩ ⟨tm, hp, nb⟩ K = stepK P ⟨d, .lookup u x y ok, t, "", #[], none⟩ [] ⟨tm, hp, nb⟩ K := rfl
theorem s_mapUpdate {u : TypeId} {x y z : Operand} : sStep P ⟨d, .mapUpdate u x y z, t, none, k, 0⟩ ⟨tm, hp, nb⟩ K = stepK P ⟨d, .mapUpdate u x y z, t, "", #[], none⟩ [] ⟨tm, hp, nb⟩ K := rfl
theorem s_range {u : TypeId} {x : Operand} : sStep P ⟨d, .range u x, t, none, k, 0⟩ ⟨tm, hp, nb⟩ K = stepK P ⟨d, .range u x, t, "", #[], none⟩ [] ⟨tm, hp, nb⟩ K := rfl
theorem s_next {x : Operand} : sStep P ⟨d, .next x false, t, none, k, 0⟩ ⟨tm, hp, nb⟩ K = stepK P ⟨d, .next x false, t, "", #[], none⟩ [] ⟨tm, hp, nb⟩ K := rfl
theorem g_nil {base : Nat} : sFree P base [] s K = K s := rfl
theorem g_cons {base : Nat} : sFree P base (⟨d, op, t, none, k, h⟩ :: r) ⟨tm, hp, nb⟩ K = freeStep P base ⟨d, op, t, "", #[], none⟩ ⟨tm, hp, nb⟩ (fun s' => sFree P base r s' K) := rfl
theorem g_guard {base i : Nat} {want : Bool} : sFree P base (⟨d, op, t, some (some i, want), k, h⟩ :: r) ⟨tm, hp, nb⟩ K = (match tm[i]? with
      | some (.d (.bool b)) => gd b want (freeStep P base ⟨d, op, t, "", #[], none⟩ ⟨tm.set i (.d (.bool want)), hp, nb⟩ fun s' => sFree P base r s' K) (sFree P base r (St.put ⟨tm.set i (.d (.bool !want)), hp, nb⟩ d (.tup [])) K)
      | some (.tup []) => sFree P base r (St.put ⟨tm, hp, nb⟩ d (.tup [])) K
      | _ => False) := rfl
theorem m_normal {sb : SC} {L0 L1 : IObj} {n : Nat} {R : Ex → St → Prop} : roundMid P sb L0 L1 n R .normal ⟨tm, hp, nb⟩ = (hp[n]? = some L0 ∧ eK P sb R ⟨tm, hp.set n L1, nb⟩) := rfl
variable {s0 : St} {L1 : IObj} {n : Nat} {inv' : List IObj → Prop}
theorem p_normal : roundPost s0 L1 n inv' Q .normal ⟨tm, hp, nb⟩ = (nb ≤ n + 1 ∧ hp[n]? = some L1 ∧ ltObjs n (hp.take n) = true ∧ inv' (hp.take n)) := rfl
theorem p_ret : roundPost s0 L1 n inv' Q .ret ⟨tm, hp, nb⟩ = (nb ≤ n + 1 ∧ hp[n]? = some L1 ∧ ltObjs n (hp.take n) = true ∧ Q .ret ⟨s0.tm, hp.take n, s0.nb⟩) := rfl
theorem p_exit {i : Nat} : roundPost s0 L1 n inv' Q (.exit i) ⟨tm, hp, nb⟩ = (nb ≤ n + 1 ∧ hp[n]? = some L1 ∧ ltObjs n (hp.take n) = true ∧ Q (.exit i) ⟨s0.tm, hp.take n, s0.nb⟩) := rfl
end
theorem bl_t {m : List Bool} {v : V} {vs : List V} : blankM (true :: m) (v :: vs) = .un :: blankM m vs := rfl
theorem bl_f {m : List Bool} {v : V} {vs : List V} : blankM (false :: m) (v :: vs) = v :: blankM m vs := rfl
theorem bl_n {vs : List V} : blankM [] vs = vs := rfl
section
variable {P : Program} {tm : List V} {hp : List IObj} {nb : Nat} {K : St → Prop} {Q : Ex → St → Prop} {d : Option Nat} {t : TypeId} {k : Bool} {g : Option (Option Nat × Bool)}
theorem k_any {f : List (SOp × List Nat)} {l : List SOp} : eK P (.any f l) Q ⟨tm, hp, nb⟩ = anyGo P f (fun s' => sOps P l s' (Q .normal)) f.length [] ⟨tm, hp, nb⟩ := rfl
theorem k_mix {f : List SOp} {o : SOp} {l : List (SOp × List Nat)} {m : Nat} : eK P (.mix f (some o) l m) Q ⟨tm, hp, nb⟩ = (sFree P hp.length f ⟨tm, hp, nb⟩ fun s1 => match o.op with
    | .call c => callX P c s1 o.d fun s2 => anyGo P l (Q .normal) (l.length - m) (upto m) s2
    | _ => False) := rfl
theorem k_alc {f : List SOp} {x y : SOp} {l : List SOp} : eK P (.alc f (some x) (some y) l) Q ⟨tm, hp, nb⟩ = (sFree P hp.length f ⟨tm, hp, nb⟩ fun s1 => sOps P [x, y] s1 (fun s2 => sOps P l s2 (Q .normal)) ∧ sOps P [y, x] s1 (fun s2 => sOps P l s2 (Q .normal))) := rfl
theorem k_alx {f : List SOp} {l : List (SOp × List Nat)} {m : Nat} : eK P (.alx f l m) Q ⟨tm, hp, nb⟩ = sFree P hp.length f ⟨tm, hp, nb⟩ (fun s1 => anyGo P l (Q .normal) (l.length - m) (upto m) s1) := rfl
theorem cx_val {q : Operand} {xs : Array Operand} {ts : Array TypeId} : callX P ⟨.value q, xs, ts⟩ ⟨tm, hp, nb⟩ d K = (match ev P 0 ⟨tm, hp, nb⟩ q with
    | .fn (.func f) caps => hasBody P f = true ∧ (argVs P ⟨tm, hp, nb⟩ ⟨.value q, xs, ts⟩ ++ caps).all V.bare = true ∧ @CallH P f (argVs P ⟨tm, hp, nb⟩ ⟨.value q, xs, ts⟩ ++ caps) hp ⟨fun r hp' => (∃ ext, hp' = hp ++ ext) ∧ K (St.put ⟨tm, hp', nb⟩ d r)⟩
    | _ => False) := rfl
theorem h_build1 {u : TypeId} {n : Nat} {ps : Array (Nat × Operand)} : heapK P ⟨d, .buildSlice u n ps, t, g, k, 1⟩ ⟨tm, hp, nb⟩ K = (match elemTy P u, elI P u with
    | some e, some (z, _) => (match (zeroCs P e).bind (ofCells P e) with
      | some zd => (match fillEl z (List.replicate n zd) (ps.toList.map fun p => (p.1, ev P e ⟨tm, hp, nb⟩ p.2)) with
        | some xs => n * z ≤ 16777216 ∧ zd.flat.length = z ∧ 0 < z ∧ K (St.put ⟨tm, hp ++ [IObj.arr z xs], nb⟩ d (.ref hp.length z 0 n n))
        | none => False)
      | none => False)
    | _, _ => False) := by
  unfold heapK; simp only; cases elemTy P u <;> cases elI P u <;> rfl
theorem h_build2 {u : TypeId} {n : Nat} {ps : Array (Nat × Operand)} : heapK P ⟨d, .buildSlice u n ps, t, g, k, 2⟩ ⟨tm, hp, nb⟩ K = (match elemTy P u, elI P u with
    | some e, some (z, _) => (match zeroVs P e with
      | some zs => (match fillD (fun i => some (i * z, z)) (List.replicate n zs).flatten (ps.toList.map fun p => (p.1, ev P e ⟨tm, hp, nb⟩ p.2)) with
        | some cs => n * z ≤ 16777216 ∧ zs.length = z ∧ 0 < z ∧ heapK.allBare zs = true ∧ K (St.put ⟨tm, hp ++ [IObj.var cs], nb⟩ d (.ref hp.length z 0 n n))
        | none => False)
      | none => False)
    | _, _ => False) := by
  unfold heapK; simp only; cases elemTy P u <;> cases elI P u <;> rfl
theorem h_make1 {u : TypeId} {x y : Operand} : heapK P ⟨d, .makeSlice u x y, t, g, k, 1⟩ ⟨tm, hp, nb⟩ K = (match elemTy P u, elI P u, ev P 0 ⟨tm, hp, nb⟩ x, ev P 0 ⟨tm, hp, nb⟩ y with
    | some e, some (z, by_), .d (.int _ n), .d (.int _ m) => (match (zeroCs P e).bind (ofCells P e) with
      | some zd => n = m ∧ 0 ≤ n ∧ by_ * n ≤ 281474976710656 ∧ n ≤ 9223372036854775807 ∧ d.isSome = true ∧ zd.flat.length = z ∧ 0 < z ∧ K (St.put ⟨tm, hp, nb⟩ d (.own z (List.replicate n.toNat zd)))
      | none => False)
    | _, _, _, _ => False) := by
  unfold heapK; simp only
  rw [if_pos trivial]; rfl
theorem h_make2 {u : TypeId} {x y : Operand} : heapK P ⟨d, .makeSlice u x y, t, g, k, 2⟩ ⟨tm, hp, nb⟩ K = (match elemTy P u, elI P u, ev P 0 ⟨tm, hp, nb⟩ x, ev P 0 ⟨tm, hp, nb⟩ y with
    | some e, some (z, by_), .d (.int _ n), .d (.int _ m) => (match zeroVs P e with
      | some zs => n = m ∧ 0 ≤ n ∧ by_ * n ≤ 281474976710656 ∧ n ≤ 9223372036854775807 ∧ zs.length = z ∧ 0 < z ∧ heapK.allBare zs = true ∧
          K (St.put ⟨tm, hp ++ [IObj.var (List.replicate n.toNat zs).flatten], nb⟩ d (.ref hp.length z 0 n.toNat n.toNat))
      | none => False)
    | _, _, _, _ => False) := by
  unfold heapK; simp only
  rw [if_neg (by decide)]
  cases elemTy P u with
  | none => rfl
  | some e => cases elI P u with
    | none => rfl
    | some p =>
      obtain ⟨z, b⟩ := p
      generalize ev P 0 ⟨tm, hp, nb⟩ x = X
      generalize ev P 0 ⟨tm, hp, nb⟩ y = Y
      cases X with
      | d X => cases X with
        | int k a => cases Y with
          | d Y => cases Y <;> rfl
          | _ => rfl
        | _ => rfl
      | _ => rfl
theorem h_append1 {x y : Operand} {t0 t1 : TypeId} : heapK P ⟨d, .call ⟨.builtin .append, #[x, y], #[t0, t1]⟩, t, g, k, 1⟩ ⟨tm, hp, nb⟩ K = (match ev P t0 ⟨tm, hp, nb⟩ x with
    | .nil z => appendNewK P t0 t1 (.nil z) (ev P t1 ⟨tm, hp, nb⟩ y) ⟨tm, hp, nb⟩ d K
    | _ => callK P ⟨.builtin .append, #[x, y], #[t0, t1]⟩ ⟨tm, hp, nb⟩ d K) := rfl
end
attribute [simp] k_mix k_alc k_alx cx_val upto k_any h_build1 h_build2 h_make1 h_make2 h_append1 heapK.allBare
attribute [simp] bl_t bl_f bl_n
attribute [simp] k_skip k_ret k_exit k_seq k_ops k_free k_cond k_block k_loop k_range k_other s_nil s_cons s_guard s_move s_load s_heap g_nil g_cons g_guard m_normal p_normal p_ret p_exit setAll
attribute [simp] s_assign s_pick s_alloc s_box s_build s_buildSlice s_makeSlice s_store s_bin s_un s_makeFunc s_slice s_fieldAddr s_field s_indexAddr s_index s_extract s_call s_convert s_makeMap s_lookup s_mapUpdate s_range s_next
end Go.Idl
