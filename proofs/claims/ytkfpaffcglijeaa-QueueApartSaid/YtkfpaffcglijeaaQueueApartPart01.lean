/- The ideal values, the ideal heap, and how the machine's memory stands for them.; What one operation, one region, one piece of code does to an ideal state: verification conditions by plain recursion.; The relation between ideal states and the machine's: how it abides single steps. -/
import Derived.RangeFuncLeaves
import Derived.RangeFuncCalls
import Derived.WalkKit
set_option linter.all false
section
namespace Go.Idl

/-- Data: a slice is a list of elements (each of z cells), a struct its cells. A slice bears a mark: false, it stays for ever; true, it stays for the call. -/
inductive D where
  | int (k : IntKind) (n : Int)
  | bool (b : Bool)
  | str (s : ByteArray)
  | sl (l : Bool) (z : Nat) (xs : List D)
  | agg (cs : List D)
  | con (v : Value)
  deriving Inhabited

def D.flat : D → List D
  | .agg cs => cs
  | x => [x]

inductive V where
  | un
  | d (x : D)
  /-- a slice without room -/
  | nil (z : Nat)
  /-- a slice whose spare room is this place's alone -/
  | own (z : Nat) (xs : List D)
  /-- a slice whose cells are all this place's alone, and nobody else's -/
  | hold (z : Nat) (xs : List D)
  | ptr (id off : Nat)
  | aptr (id z i j : Nat)
  | lptr (l : Bool) (z : Nat) (xs : List D) (i j : Nat)
  /-- a struct of which not all is data -/
  | st (cs : List V)
  /-- a slice of an array of the heap, and its capacity -/
  | ref (id z off len cap : Nat)
  | fn (f : Fn) (caps : List V)
  | yld (id : Nat)
  | tup (vs : List V)
  | map (id : Nat)
  deriving Inhabited

inductive Ex where
  | normal | exit (id : Nat) | goto (l : Nat) | ret
  deriving Inhabited

inductive IObj where
  | free
  | var (cells : List V)
  | arr (z : Nat) (xs : List D)
  /-- a map: its clock; its entries, when they were born, their keys and values -/
  | map (clock : Nat) (es : List (Nat × D × V))
  | iter (m since : Nat) (seen : List Nat) (last : Nat)
  | loop (ready : Bool) (pend : Option Code) (tm : List V) (params : List Nat) (assign body : Code)
  deriving Inhabited

structure St where
  tm : List V
  hp : List IObj
  /-- so many objects lay there when the activation began -/
  nb : Nat

def undefV : V := .un

def St.put (s : St) (dst : Option Nat) (v : V) : St :=
  match dst with
  | some d => { s with tm := s.tm.set d v }
  | none => s

def V.known : V → Bool
  | .un | .tup _ => false
  | _ => true

/-- how long a slice is, and no more -/
def shapeD (n : Nat) : D := .sl false 0 (List.replicate n (.agg []))
/-- a copy of a value: the spare room stays where it was -/
def V.cp : V → V
  | .own z xs => .d (.sl false z xs)
  | .hold _ xs => .d (shapeD xs.length)
  | .tup vs => .tup (vs.map fun v => match v with | .own z xs => .d (.sl false z xs) | .hold _ xs => .d (shapeD xs.length) | v => v)
  | v => v

abbrev CM := Bool → Nat → Nat → Option Value
def CM.le (Φ Ψ : CM) : Prop := ∀ l b o v, Φ l b o = some v → Ψ l b o = some v
theorem CM.le_refl (Φ : CM) : Φ.le Φ := fun _ _ _ _ h => h
theorem CM.le.trans {Φ Ψ Ω : CM} (h : Φ.le Ψ) (h' : Ψ.le Ω) : Φ.le Ω := fun l b o v e => h' l b o v (h l b o v e)

/-- one cell's value: no struct, no tuple -/
def okCell : Value → Prop
  | .agg _ | .tuple _ => False
  | _ => True

mutual
inductive RepD (Φ : CM) : D → Value → Prop
  | int (k n) : RepD Φ (.int k n) (.int k n)
  | bool (b) : RepD Φ (.bool b) (.bool b)
  | str (s) : RepD Φ (.str s) (.string s)
  | con (v) : okCell v → RepD Φ (.con v) v
  | agg {ds : List D} {cs : List Value} : RepL Φ ds cs → RepD Φ (.agg ds) (.agg cs.toArray)
  | sl0 {l z a cap} : RepD Φ (.sl l z []) (.slice a 0 cap)
  | sl {l z b o xs cap} : xs ≠ [] → xs.length ≤ cap → ElemsAt Φ l z b o xs → RepD Φ (.sl l z xs) (.slice (some ⟨b, o, none⟩) xs.length cap)
inductive RepL (Φ : CM) : List D → List Value → Prop
  | nil : RepL Φ [] []
  | cons {d ds c cs} : okCell c → RepD Φ d c → RepL Φ ds cs → RepL Φ (d :: ds) (c :: cs)
inductive ElemsAt (Φ : CM) : Bool → Nat → Nat → Nat → List D → Prop
  | nil {l z b o} : ElemsAt Φ l z b o []
  | cons {l z b o x xs} : x.flat.length = z → CellsAt Φ l b o x.flat → ElemsAt Φ l z b (o + z) xs → ElemsAt Φ l z b o (x :: xs)
inductive CellsAt (Φ : CM) : Bool → Nat → Nat → List D → Prop
  | nil {l b o} : CellsAt Φ l b o []
  | cons {l b o d ds c} : Φ l b o = some c → okCell c → RepD Φ d c → CellsAt Φ l b (o + 1) ds → CellsAt Φ l b o (d :: ds)
end

mutual
theorem RepD.mono {Φ Ψ : CM} (h : Φ.le Ψ) : ∀ {d v}, RepD Φ d v → RepD Ψ d v
  | _, _, .int k n => .int k n
  | _, _, .bool b => .bool b
  | _, _, .str s => .str s
  | _, _, .con v hv => .con v hv
  | _, _, .agg hl => .agg (RepL.mono h hl)
  | _, _, .sl0 => .sl0
  | _, _, .sl a b e => .sl a b (ElemsAt.mono h e)
theorem RepL.mono {Φ Ψ : CM} (h : Φ.le Ψ) : ∀ {d v}, RepL Φ d v → RepL Ψ d v
  | _, _, .nil => .nil
  | _, _, .cons o a b => .cons o (RepD.mono h a) (RepL.mono h b)
theorem ElemsAt.mono {Φ Ψ : CM} (h : Φ.le Ψ) : ∀ {l z b o xs}, ElemsAt Φ l z b o xs → ElemsAt Ψ l z b o xs
  | _, _, _, _, _, .nil => .nil
  | _, _, _, _, _, .cons e c t => .cons e (CellsAt.mono h c) (ElemsAt.mono h t)
theorem CellsAt.mono {Φ Ψ : CM} (h : Φ.le Ψ) : ∀ {l b o ds}, CellsAt Φ l b o ds → CellsAt Ψ l b o ds
  | _, _, _, _, .nil => .nil
  | _, _, _, _, .cons e ok d t => .cons (h _ _ _ _ e) ok (RepD.mono h d) (CellsAt.mono h t)
end

theorem CellsAt.get {Φ : CM} {l : Bool} {b o : Nat} {ds : List D} (h : CellsAt Φ l b o ds) : ∀ j d, ds[j]? = some d → ∃ c, Φ l b (o + j) = some c ∧ okCell c ∧ RepD Φ d c := by
  induction ds generalizing o with
  | nil => intro j d hj; simp at hj
  | cons x xs ih =>
    cases h with
    | cons e ok hd ht =>
      intro j d hj
      cases j with
      | zero => simp at hj; subst hj; exact ⟨_, e, ok, hd⟩
      | succ j =>
        simp at hj
        obtain ⟨c, h1, h2, h3⟩ := ih ht j d hj
        exact ⟨c, by rw [← h1]; congr 1; omega, h2, h3⟩

theorem CellsAt.of {Φ : CM} {l : Bool} {b o : Nat} {ds : List D} (h : ∀ j d, ds[j]? = some d → ∃ c, Φ l b (o + j) = some c ∧ okCell c ∧ RepD Φ d c) : CellsAt Φ l b o ds := by
  induction ds generalizing o with
  | nil => exact .nil
  | cons x xs ih =>
    obtain ⟨c, h1, h2, h3⟩ := h 0 x rfl
    refine .cons h1 h2 h3 (ih fun j d hj => ?_)
    obtain ⟨c, h1, h2, h3⟩ := h (j + 1) d (by simpa using hj)
    exact ⟨c, by rw [← h1]; congr 1; omega, h2, h3⟩

theorem ElemsAt.get {Φ : CM} {l : Bool} {z b o : Nat} {xs : List D} (h : ElemsAt Φ l z b o xs) : ∀ i x, xs[i]? = some x → x.flat.length = z ∧ CellsAt Φ l b (o + i * z) x.flat := by
  induction xs generalizing o with
  | nil => intro i x hi; simp at hi
  | cons y ys ih =>
    cases h with
    | cons e c t =>
      intro i x hi
      cases i with
      | zero => simp at hi; subst hi; simpa using ⟨e, c⟩
      | succ i =>
        simp at hi
        obtain ⟨h1, h2⟩ := ih t i x hi
        refine ⟨h1, ?_⟩
        have : o + (i + 1) * z = o + z + i * z := by rw [Nat.add_mul]; omega
        rw [this]; exact h2

theorem ElemsAt.of {Φ : CM} {l : Bool} {z b o : Nat} {xs : List D} (h : ∀ i x, xs[i]? = some x → x.flat.length = z ∧ CellsAt Φ l b (o + i * z) x.flat) : ElemsAt Φ l z b o xs := by
  induction xs generalizing o with
  | nil => exact .nil
  | cons y ys ih =>
    obtain ⟨h1, h2⟩ := h 0 y rfl
    refine .cons h1 (by simpa using h2) (ih fun i x hi => ?_)
    obtain ⟨h1, h2⟩ := h (i + 1) x (by simpa using hi)
    refine ⟨h1, ?_⟩
    have : o + (i + 1) * z = o + z + i * z := by rw [Nat.add_mul]; omega
    rw [← this]; exact h2

theorem RepL.get {Φ : CM} {ds : List D} {cs : List Value} (h : RepL Φ ds cs) : ds.length = cs.length ∧ ∀ (j : Nat) d c, ds[j]? = some d → cs[j]? = some c → okCell c ∧ RepD Φ d c := by
  induction ds generalizing cs with
  | nil => cases h; simp
  | cons x xs ih =>
    cases h with
    | cons ok hd ht =>
      obtain ⟨h1, h2⟩ := ih ht
      refine ⟨by simp [h1], fun j d c hj hc => ?_⟩
      cases j with
      | zero => simp at hj hc; subst hj; subst hc; exact ⟨ok, hd⟩
      | succ j => simp at hj hc; exact h2 j d c hj hc

theorem RepL.of {Φ : CM} {ds : List D} {cs : List Value} (hl : ds.length = cs.length) (h : ∀ (j : Nat) d c, ds[j]? = some d → cs[j]? = some c → okCell c ∧ RepD Φ d c) : RepL Φ ds cs := by
  induction ds generalizing cs with
  | nil => cases cs with
    | nil => exact .nil
    | cons c cs => simp at hl
  | cons x xs ih => cases cs with
    | nil => simp at hl
    | cons c cs =>
      obtain ⟨a, b⟩ := h 0 x c rfl rfl
      exact .cons a b (ih (by simpa using hl) fun j d c hj hc => h (j + 1) d c (by simpa using hj) (by simpa using hc))

/-- A datum and its cells. -/
theorem RepD.flat {Φ : CM} {d : D} {v : Value} (h : RepD Φ d v) : RepL Φ d.flat v.cells.toList := by
  cases h with
  | agg hl => simpa [D.flat, Value.cells] using hl
  | con v hv => cases v <;> simp [okCell] at hv <;> exact .cons trivial (.con _ trivial) .nil
  | int k n => exact .cons trivial (.int k n) .nil
  | bool b => exact .cons trivial (.bool b) .nil
  | str s => exact .cons trivial (.str s) .nil
  | sl0 => exact .cons trivial .sl0 .nil
  | sl a b e => exact .cons trivial (.sl a b e) .nil

inductive Holder where
  | slot (i j : Nat)
  | cell (id j : Nat)
  | obj (id : Nat)
  deriving DecidableEq

/-- Whose are the cells of a block from the given one on. -/
abbrev Auth := Nat → Option (Holder × Nat)

mutual
inductive RepS (Φ : CM) (B : List Nat) : V → Value → Prop
  | un (v) : RepS Φ B .un v
  | d {x v} : RepD Φ x v → RepS Φ B (.d x) v
  | nil {z a} : RepS Φ B (.nil z) (.slice a 0 0)
  | own {z xs v} : RepD Φ (.sl false z xs) v → RepS Φ B (.own z xs) v
  | hold {z xs a cap} : (xs ≠ [] → ∃ b, a = some ⟨b, 0, none⟩) → xs.length ≤ cap → RepS Φ B (.hold z xs) (.slice a xs.length cap)
  | st {vs cs} : RepSL Φ B vs cs → (∀ c ∈ cs, okCell c) → (∀ V ∈ vs, V.cp = V ∧ V.known = true) → RepS Φ B (.st vs) (.agg cs.toArray)
  | ptr {id off b} : B[id]? = some b → RepS Φ B (.ptr id off) (.pointer (some ⟨b, off, none⟩))
  | aptr {id z i j b} : B[id]? = some b → RepS Φ B (.aptr id z i j) (.pointer (some ⟨b, i * z + j, none⟩))
  | lptr {l z xs i j b o} : ElemsAt Φ l z b o xs → RepS Φ B (.lptr l z xs i j) (.pointer (some ⟨b, o + i * z + j, none⟩))
  | ref {id z off len b cap ad} : B[id]? = some b → len ≤ cap → (0 < cap → ad = some ⟨b, off * z, none⟩) → RepS Φ B (.ref id z off len cap) (.slice ad len cap)
  | ref0 {id z off ad} : RepS Φ B (.ref id z off 0 0) (.slice ad 0 0)
  | fn {f vs cs} : RepSL Φ B vs cs → RepS Φ B (.fn f vs) (.func f #[] cs.toArray)
  | yld {id b} : B[id]? = some b → RepS Φ B (.yld id) (.func (.yield b) #[] #[])
  | tup {vs cs} : RepSL Φ B vs cs → RepS Φ B (.tup vs) (.tuple cs.toArray)
  | map {id b} : B[id]? = some b → RepS Φ B (.map id) (.map (some b))
inductive RepSL (Φ : CM) (B : List Nat) : List V → List Value → Prop
  | nil : RepSL Φ B [] []
  | cons {v vs c cs} : RepS Φ B v c → RepSL Φ B vs cs → RepSL Φ B (v :: vs) (c :: cs)
end

mutual
theorem RepS.mono {Φ Ψ : CM} {B C : List Nat} (h : Φ.le Ψ) (hB : ∀ (i b : Nat), B[i]? = some b → C[i]? = some b) : ∀ {V v}, RepS Φ B V v → RepS Ψ C V v
  | _, _, .un v => .un v
  | _, _, .d x => .d (x.mono h)
  | _, _, .nil => .nil
  | _, _, .own x => .own (x.mono h)
  | _, _, .hold a b => .hold a b
  | _, _, .st e ok q => .st (RepSL.mono h hB e) ok q
  | _, _, .ptr e => .ptr (hB _ _ e)
  | _, _, .aptr e => .aptr (hB _ _ e)
  | _, _, .lptr e => .lptr (e.mono h)
  | _, _, .ref e l q => .ref (hB _ _ e) l q
  | _, _, .ref0 => .ref0
  | _, _, .fn e => .fn (RepSL.mono h hB e)
  | _, _, .yld e => .yld (hB _ _ e)
  | _, _, .tup e => .tup (RepSL.mono h hB e)
  | _, _, .map e => .map (hB _ _ e)
theorem RepSL.mono {Φ Ψ : CM} {B C : List Nat} (h : Φ.le Ψ) (hB : ∀ (i b : Nat), B[i]? = some b → C[i]? = some b) : ∀ {V v}, RepSL Φ B V v → RepSL Ψ C V v
  | _, _, .nil => .nil
  | _, _, .cons a b => .cons (RepS.mono h hB a) (RepSL.mono h hB b)
end

theorem RepSL.get {Φ : CM} {B : List Nat} {ds : List V} {cs : List Value} (h : RepSL Φ B ds cs) : ds.length = cs.length ∧ ∀ (j : Nat) d c, ds[j]? = some d → cs[j]? = some c → RepS Φ B d c := by
  induction ds generalizing cs with
  | nil => cases h; simp
  | cons x xs ih =>
    cases h with
    | cons hd ht =>
      obtain ⟨h1, h2⟩ := ih ht
      refine ⟨by simp [h1], fun j d c hj hc => ?_⟩
      cases j with
      | zero => simp at hj hc; subst hj; subst hc; exact hd
      | succ j => simp at hj hc; exact h2 j d c hj hc

theorem RepSL.of {Φ : CM} {B : List Nat} {ds : List V} {cs : List Value} (hl : ds.length = cs.length) (h : ∀ (j : Nat) d c, ds[j]? = some d → cs[j]? = some c → RepS Φ B d c) : RepSL Φ B ds cs := by
  induction ds generalizing cs with
  | nil => cases cs with
    | nil => exact .nil
    | cons c cs => simp at hl
  | cons x xs ih => cases cs with
    | nil => simp at hl
    | cons c cs => exact .cons (h 0 x c rfl rfl) (ih (by simpa using hl) fun j d c hj hc => h (j + 1) d c (by simpa using hj) (by simpa using hc))

/-- A slice whose spare cells are the holder's. -/
def TailOK (au : Auth) (w : World) (h : Holder) (z : Nat) (v : Value) : Prop :=
  ∃ a len cap, v = .slice a len cap ∧ (len = cap ∨ ∃ b o c el, a = some ⟨b, o, none⟩ ∧ au b = some (h, o + len * z) ∧ w.heap[b]? = some (.cells c el (0, 0)) ∧ o + cap * z ≤ c.size)

/-- a datum without slices -/
def D.atom : D → Bool
  | .int _ _ | .bool _ | .str _ | .con _ => true
  | _ => false
def D.plain (x : D) : Bool := x.flat.all D.atom

/-- A slice of a whole block that is the holder's. -/
def HoldOK (au : Auth) (w : World) (h : Holder) (z : Nat) (xs : List D) (v : Value) : Prop :=
  ∃ a cap, v = .slice a xs.length cap ∧ xs.length ≤ cap ∧ (cap = 0 ∨ ∃ b c el rest, a = some ⟨b, 0, none⟩ ∧ au b = some (h, 0) ∧ w.heap[b]? = some (.cells c el (0, 0)) ∧ c.size = cap * z ∧ xs.length + rest.length = cap ∧
    ∀ (i : Nat) x, (xs ++ rest)[i]? = some x → x.flat.length = z ∧ x.plain = true ∧ ∀ (j : Nat) d, x.flat[j]? = some d → ∃ v, c[i * z + j]? = some v ∧ okCell v ∧ RepD (fun _ _ _ => none) d v)

def OwnV (au : Auth) (w : World) (h : Nat → Holder) : V → Value → Prop
  | .own z _, v => TailOK au w (h 0) z v
  | .hold z xs, v => HoldOK au w (h 0) z xs v
  | .tup vs, v => (∀ j z xs cs c, v = .tuple cs → vs[j]? = some (.own z xs) → cs[j]? = some c → TailOK au w (h j) z c) ∧
      ∀ j z xs cs c, v = .tuple cs → vs[j]? = some (.hold z xs) → cs[j]? = some c → HoldOK au w (h j) z xs c
  | _, _ => True

def RepO (Φ : CM) (B : List Nat) (au : Auth) (w : World) (id b : Nat) : IObj → Prop
  | .free => True
  | .var cs => au b = some (.obj id, 0) ∧ ∃ c el, w.heap[b]? = some (.cells c el (0, 0)) ∧ c.size = cs.length ∧
      ∀ (j : Nat) V, cs[j]? = some V → ∃ v, c[j]? = some v ∧ (V.known = true → okCell v) ∧ RepS Φ B V v ∧ OwnV au w (fun _ => .cell id j) V v
  | .arr z xs => xs ≠ [] → au b = some (.obj id, 0) ∧ ∃ c el, w.heap[b]? = some (.cells c el (0, 0)) ∧ c.size = xs.length * z ∧
      ∀ (i : Nat) x, xs[i]? = some x → x.flat.length = z ∧ ∀ (j : Nat) d, x.flat[j]? = some d → ∃ v, c[i * z + j]? = some v ∧ okCell v ∧ RepD Φ d v
  | .map clock es => au b = some (.obj id, 0) ∧ ∃ ms, w.heap[b]? = some (.map ms clock) ∧ ms.size = es.length ∧
      ∀ (i : Nat) n k V, es[i]? = some (n, k, V) → ∃ e : MapEntry, ms[i]? = some e ∧ e.born = n ∧ RepD Φ k e.key ∧ RepS Φ B V e.val
  | .iter m since seen last => au b = some (.obj id, 0) ∧ ∃ bm, B[m]? = some bm ∧ w.heap[b]? = some (.mapIter (some bm) since seen.toArray last)
  | .loop ready pend tm ps asg body => au b = some (.obj id, 0) ∧ ∃ fn tmps dr, w.heap[b]? = some (.loop { state := if ready then .ready else if pend.isSome then .done else .busy, pending := pend, fn := fn, tmps := tmps, params := ps.toArray, assign := asg, body := body, defers := dr }) ∧
      RepSL Φ B tm tmps.toList ∧ ∀ V ∈ tm, V.cp = V

structure Ctx where
  w0 : World
  mine : Nat → Prop
  B : List Nat
  Φ : CM
  round : Option Nat

structure Inv (κ : Ctx) (Φ : CM) (B : List Nat) (au : Auth) (s : St) (a : Act) (w : World) : Prop where
  phi : ∀ l b o v, Φ l b o = some v → w.cell? ⟨b, o, none⟩ = some v
  phia : ∀ l b o v h st, Φ l b o = some v → au b = some (h, st) → o < st
  auw : ∀ b h st, au b = some (h, st) → b < w.heap.size ∧ (κ.mine b ∨ κ.w0.heap.size ≤ b)
  size : κ.w0.heap.size ≤ w.heap.size
  keep : ∀ b, b < κ.w0.heap.size → ¬ κ.mine b → w.heap[b]? = κ.w0.heap[b]?
  pre : κ.B <+: B
  lePhi : κ.Φ.le Φ
  tl : s.tm.length = a.tmps.size
  tm : ∀ (i : Nat) V v, s.tm[i]? = some V → a.tmps[i]? = some v → RepS Φ B V v ∧ OwnV au w (.slot i) V v
  hl : s.hp.length = B.length
  nb : κ.B.length ≤ s.nb ∧ s.nb ≤ s.hp.length
  hp : ∀ id o b, s.hp[id]? = some o → B[id]? = some b → RepO Φ B au w id b o
  df : ∃ rs : List Nat, a.defers = rs.map (fun r => { target := .collected r, args := #[] }) ∧ rs.Nodup ∧ ∀ r ∈ rs, w.heap[r]? = some (.deferred (some [])) ∧ au r = none ∧ κ.w0.heap.size ≤ r
  rd : ∀ l, κ.round = some l → ∃ r, w.heap[l]? = some (Obj.loop r)
  lp : ∀ (l : Nat) (r : Loop), κ.w0.heap[l]? = some (Obj.loop r) → ∃ r', w.heap[l]? = some (Obj.loop r')
  src : ∀ l b o v, Φ l b o = some v → κ.Φ l b o = some v ∨ κ.mine b ∨ κ.w0.heap.size ≤ b
  wo : w.tape = κ.w0.tape ∧ w.os = κ.w0.os ∧ w.output = κ.w0.output

def Rel (κ : Ctx) (s : St) (a : Act) (w : World) : Prop := ∃ Φ B au, Inv κ Φ B au s a w

def Ctx.F (κ : Ctx) : Fence := { Fence.wide with round := κ.round }

def Ex.to : Ex → Exit
  | .normal => .normal
  | .exit id => .exit id
  | .goto l => .goto l
  | .ret => .ret

def postK (κ : Ctx) (Q : Ex → St → Prop) (e : Exit) (a : Act) (w : World) : Prop := ∃ e' s', e = Ex.to e' ∧ Q e' s' ∧ Rel κ s' a w

/-- What the code does from an ideal state, whatever stands for that. -/
def SemC (P : Program) (c : Code) (Q : Ex → St → Prop) (s : St) : Prop :=
  ∀ κ a w, Rel κ s a w → c.wpIn κ.F 0 P (postK κ Q) a w

/-- The context of a call made in a world. -/
def Ctx.at_ (Φ : CM) (B : List Nat) (au : Auth) (w : World) : Ctx := { w0 := w, mine := fun b => au b ≠ none, B := B, Φ := Φ, round := none }

/-- A call of a function on ideal arguments, the heap at hand. -/
def CallK (P : Program) (f : FuncId) (args : List V) (hp : List IObj) (K : V → List IObj → Prop) : Prop :=
  ∀ Φ B au w cargs, Inv (Ctx.at_ Φ B au w) Φ B au ⟨args, hp, hp.length⟩ ⟨cargs, []⟩ w →
    CallsIn Fence.wide 0 P f cargs w fun e w' => ∃ v r hp', e = .returned v ∧ K r hp' ∧ Rel (Ctx.at_ Φ B au w) ⟨[r], hp', hp.length⟩ ⟨#[v], []⟩ w'

/-- A call of what the model itself answers. -/
def CallE (P : Program) (f : FuncId) (args : List V) (hp : List IObj) (K : V → List IObj → Prop) : Prop :=
  ∀ Φ B au w cargs, Inv (Ctx.at_ Φ B au w) Φ B au ⟨args, hp, hp.length⟩ ⟨cargs, []⟩ w →
    ∃ v r hp' w', (callFunc f cargs).run P w = .ok (.value v) w' ∧ K r hp' ∧ Rel (Ctx.at_ Φ B au w) ⟨[r], hp', hp.length⟩ ⟨#[v], []⟩ w'

def V.data : V → Bool
  | .d _ | .own _ _ | .hold _ _ | .nil _ => true
  | .tup vs => vs.all fun v => match v with | .d _ | .own _ _ | .hold _ _ | .nil _ => true | _ => false
  | _ => false

/-- A call of a function of data, in whatever memory. -/
def PCall (P : Program) (f : FuncId) (args : List D) (r : V) : Prop :=
  CallK P f (args.map V.d) [] fun r' _ => r' = r

end Go.Idl
end
section
namespace Go.Idl

def sizeD (P : Program) (t : TypeId) : Nat := ((P.info? t).map (·.size)).getD 0
def bytesD (P : Program) (t : TypeId) : Nat := ((P.info? t).map (·.bytes)).getD 0
/-- is it a struct or an array? -/
def kindD (P : Program) (t : TypeId) : Option Bool := match P.underlying t with | some (.struct _) | some (.array ..) => some true | some _ => some false | none => none
def fieldOff (P : Program) (t : TypeId) (f : Nat) : Option (Nat × TypeId) := match P.underlying t with
  | some (.struct fs) => match fs[f]? with
    | some x => match P.info? x.type with
      | some i => if i.size = 0 then none else some (x.offset, x.type)
      | none => none
    | none => none
  | _ => none
def elemTy (P : Program) (t : TypeId) : Option TypeId := match P.underlying t with | some (.slice e) => some e | _ => none
/-- a slice type's elements: how many cells, how many bytes -/
def elI (P : Program) (t : TypeId) : Option (Nat × Nat) := match P.underlying t with
  | some (.slice e) => match P.info? e with
    | some i => match i.zero with
      | some zv => if zv.cells.size = i.size then some (i.size, i.bytes) else none
      | none => none
    | none => none
  | _ => none
def elemSz (P : Program) (t : TypeId) : Nat := ((elI P t).map (·.1)).getD 0
def placesD (P : Program) (t : TypeId) : Option (List (Nat × Nat)) := match P.underlying t with
  | some (.struct fs) => fs.toList.mapM fun f => (P.info? f.type).map fun i => (f.offset, i.size)
  | _ => none
/-- an array type: how many elements, of how many cells -/
def arrI (P : Program) (t : TypeId) : Option (Nat × Nat) := match P.underlying t with
  | some (.array n e) => match P.info? e with
    | some i => some (n, i.size)
    | none => none
  | _ => none

/-- the types of a variable's cells -/
def cellTys (P : Program) : Nat → TypeId → List TypeId
  | 0, t => [t]
  | n + 1, t => match P.underlying t with
    | some (.struct fs) => fs.toList.flatMap fun f => cellTys P n f.type
    | some (.array k e) => (List.replicate k (cellTys P n e)).flatten
    | _ => [t]

def constD (P : Program) (t : TypeId) : Value → Option D
  | .int k n => some (.int k n)
  | .bool b => some (.bool b)
  | .string b => some (.str b)
  | .slice none 0 0 => some (.sl false (elemSz P t) [])
  | .pointer none => some (.con (.pointer none))
  | .nilFunc => some (.con .nilFunc)
  | .nilIface => some (.con .nilIface)
  | .map none => some (.con (.map none))
  | _ => none

def constV (P : Program) (t : TypeId) (v : Value) : V :=
  match v with
  | .slice none 0 0 => .nil (elemSz P t)
  | v => match constD P t v with | some d => .d d | none => .un

/-- the cells of a type's zero value -/
def zeroCs (P : Program) (t : TypeId) : Option (List D) :=
  match (P.info? t).bind (·.zero) with
  | some z => (List.zip (cellTys P 8 t) z.cells.toList).mapM fun (t, v) => constD P t v
  | none => none
def zeroVs (P : Program) (t : TypeId) : Option (List V) :=
  match (P.info? t).bind (·.zero) with
  | some z => if (cellTys P 8 t).length = z.cells.size then some ((List.zip (cellTys P 8 t) z.cells.toList).map fun (t, v) => constV P t v) else none
  | none => none

def ofCells (P : Program) (t : TypeId) (cs : List D) : Option D := match kindD P t with | some true => some (.agg cs) | some false => cs.head? | none => none

/-- an operand; a constant is of the given type -/
def ev (P : Program) (t : TypeId) (s : St) : Operand → V
  | .tmp i => s.tm.getD i .un
  | .const v => constV P t v
  | .global _ => .un
  | .func f => .fn (.func f) []

def V.d? : V → Option D
  | .d x => some x
  | .own z xs => some (.sl false z xs)
  | .nil z => some (.sl false z [])
  | _ => none

def allD : List V → Option (List D)
  | [] => some []
  | v :: r => match v.d?, allD r with
    | some x, some y => some (x :: y)
    | _, _ => none

/-- cells as a struct -/
def mkAgg (cs : List V) : V := match allD cs with
  | some ds => .d (.agg ds)
  | none => .st (cs.map V.cp)

/-- does the rest of a region take this temporary's value away? -/
def takes (t : Option Nat) : List Oper → Bool
  | [] => false
  | o :: r => (match o.op with
    | .assign (.tmp x) => t == some x
    | .store _ _ (.tmp x) => t == some x
    | .call c => (match c.callee, c.args.toList with
      | .builtin .append, .tmp x :: _ => t == some x
      | _, _ => false)
    | _ => false) || takes t r

/-- a temporary's slot with another value in it -/
def St.at_ (s : St) (x : Operand) (v : V) : List V := match x with | .tmp i => s.tm.set i v | _ => s.tm

def V.isTup : V → Bool
  | .tup _ => true
  | _ => false

def mv (s : St) (x : Operand) (v : V) (dst : Option Nat) (take : Bool) : St :=
  if take then (match x with
    | .tmp i => ({ s with tm := s.tm.set i v.cp } : St).put dst v
    | _ => s.put dst v)
  else s.put dst v.cp

def intOp (op : BinOp) (k : IntKind) (a b : Int) : Option D :=
  match op with
  | .add => some (.int k (k.wrap (a + b)))
  | .sub => some (.int k (k.wrap (a - b)))
  | .mul => some (.int k (k.wrap (a * b)))
  | .eql => some (.bool (decide (a = b)))
  | .neq => some (.bool (decide (a ≠ b)))
  | .lss => some (.bool (decide (a < b)))
  | .leq => some (.bool (decide (a ≤ b)))
  | .gtr => some (.bool (decide (b < a)))
  | .geq => some (.bool (decide (b ≤ a)))
  | .and => some (.int k (k.wrap (BitVec.ofInt k.bits a &&& BitVec.ofInt k.bits b).toNat))
  | .or => some (.int k (k.wrap (BitVec.ofInt k.bits a ||| BitVec.ofInt k.bits b).toNat))
  | .xor => some (.int k (k.wrap (BitVec.ofInt k.bits a ^^^ BitVec.ofInt k.bits b).toNat))
  | .andNot => some (.int k (k.wrap (BitVec.ofInt k.bits a &&& ~~~BitVec.ofInt k.bits b).toNat))
  | _ => none

/-- The cells that a comparison of a struct comes to, and of what kind they are (0: a whole number, 1: a bool, 2: a string). -/
def leafOffs (P : Program) : Nat → TypeId → Option (List (Nat × Nat))
  | 0, _ => none
  | n + 1, t => match P.underlying t with
    | some (.struct fs) => if P.stoodInHeld t then none else
      fs.toList.foldr (fun f acc => match leafOffs P n f.type, acc, P.info? f.type with
        | some l, some r, some i => if f.name = "_" ∨ l.all (fun x => decide (x.1 < i.size)) = false then none else some (l.map (fun x => (f.offset + x.1, x.2)) ++ r)
        | _, _, _ => none) (some [])
    | some (.int _) => some [(0, 0)]
    | some .bool => some [(0, 1)]
    | some .string => some [(0, 2)]
    | _ => none

def eqAt (xs ys : List D) : List (Nat × Nat) → Option Bool
  | [] => some true
  | (i, k) :: r => match xs[i]?, ys[i]?, k, eqAt xs ys r with
    | some (.int j a), some (.int k b), 0, some t => if j = k then some (decide (a = b) && t) else none
    | some (.bool a), some (.bool b), 1, some t => some ((a == b) && t)
    | some (.str a), some (.str b), 2, some t => some ((a == b) && t)
    | _, _, _, _ => none

/-- addresses and nil -/
def ptrEq : V → V → Option Bool
  | .d (.con (.pointer none)), .d (.con (.pointer none)) => some true
  | .ptr _ _, .d (.con (.pointer none)) => some false
  | .aptr _ _ _ _, .d (.con (.pointer none)) => some false
  | .d (.con (.pointer none)), .ptr _ _ => some false
  | .d (.con (.pointer none)), .aptr _ _ _ _ => some false
  | _, _ => none
def isPtr (P : Program) (t : TypeId) : Bool := match P.underlying t with
  | some (.pointer _) => true
  | _ => false

def binK (P : Program) (op : BinOp) (t : TypeId) (x y : V) (K : V → Prop) : Prop :=
  match x, y with
  | .d (.int k a), .d (.int k' b) => match op with
    | .quo => k = k' ∧ b ≠ 0 ∧ K (.d (.int k (k.wrap (a.tdiv b))))
    | .rem => k = k' ∧ b ≠ 0 ∧ K (.d (.int k (a.tmod b)))
    | .shl => 0 ≤ b ∧ K (.d (.int k (k.wrap (a * 2 ^ (min b.toNat k.bits)))))
    | .shr => 0 ≤ b ∧ K (.d (.int k (a.fdiv (2 ^ (min b.toNat k.bits)))))
    | _ => match intOp op k a b with
      | some r => k = k' ∧ K (.d r)
      | none => False
  | .d (.bool a), .d (.bool b) => match op with
    | .eql => P.underlying t = some .bool ∧ K (.d (.bool (a == b)))
    | .neq => P.underlying t = some .bool ∧ K (.d (.bool (a != b)))
    | _ => False
  | .d (.str a), .d (.str b) => match op with
    | .eql => K (.d (.bool (a.toList == b.toList)))
    | .neq => K (.d (.bool !(a.toList == b.toList)))
    | .lss => K (.d (.bool (Op.bytesLess a.toList b.toList)))
    | .add => a.size + b.size ≤ 9223372036854775807 ∧ K (.d (.str (a ++ b)))
    | _ => False
  | .d (.agg xs), .d (.agg ys) => P.eqGuardType P.depth t = false ∧ kindD P t = some true ∧ (match op, (leafOffs P 8 t).bind (eqAt xs ys) with
    | .eql, some r => K (.d (.bool r))
    | .neq, some r => K (.d (.bool !r))
    | _, _ => False)
  | x, y => match ptrEq x y with
    | some r => isPtr P t = true ∧ (match op with
      | .eql => K (.d (.bool r))
      | .neq => K (.d (.bool !r))
      | _ => False)
    | none => False

/-- the constant nil of slices -/
def isNilC : Operand → Bool
  | .const (.slice none 0 0) => true
  | _ => false
/-- a slice beside nil -/
def nilK (P : Program) (op : BinOp) (t : TypeId) (x : V) (K : V → Prop) : Prop :=
  (elemTy P t).isSome = true ∧ match op, x with
  | .eql, .d (.sl _ _ xs) | .eql, .own _ xs => (xs ≠ [] → K (.d (.bool false))) ∧ (xs = [] → ∀ r, K (.d (.bool r)))
  | .neq, .d (.sl _ _ xs) | .neq, .own _ xs => (xs ≠ [] → K (.d (.bool true))) ∧ (xs = [] → ∀ r, K (.d (.bool r)))
  | .eql, .ref _ _ _ _ cap => (0 < cap → K (.d (.bool false))) ∧ (cap = 0 → ∀ r, K (.d (.bool r)))
  | .neq, .ref _ _ _ _ cap => (0 < cap → K (.d (.bool true))) ∧ (cap = 0 → ∀ r, K (.d (.bool r)))
  | .eql, .nil _ | .neq, .nil _ => ∀ r, K (.d (.bool r))
  | _, _ => False

/-- The part of a datum at offset j, as a value of type t. -/
def partD (P : Program) (t : TypeId) (x : D) (j : Nat) : Option D :=
  match kindD P t with
  | some true => (match x with
     | .agg cs => if j = 0 ∧ cs.length = sizeD P t then some (.agg cs)
       else if j + sizeD P t ≤ cs.length then some (.agg ((cs.drop j).take (sizeD P t))) else none
     | _ => none)
  | some false => x.flat[j]?
  | none => none

def V.flat : V → List V
  | .d (.agg cs) => cs.map .d
  | .st cs => cs
  | v => [v]

/-- a part of a struct -/
def partV (P : Program) (t : TypeId) (cs : List V) (j : Nat) : Option V :=
  match kindD P t with
  | some true => if ((cs.drop j).take (sizeD P t)).length = sizeD P t then some (mkAgg ((cs.drop j).take (sizeD P t))) else none
  | some false => (cs[j]?).map V.cp
  | none => none

def allKnown : List V → Bool
  | [] => true
  | v :: r => v.known && allKnown r

def loadK (P : Program) (t : TypeId) (a : V) (s : St) (dst : Option Nat) (take : Bool) (K : St → Prop) : Prop :=
  match a with
  | .lptr _ _ xs i j => match (xs[i]?).bind (partD P t · j) with
    | some d => K (s.put dst (.d d))
    | none => False
  | .ptr id off => match s.hp[id]? with
    | some (.var cs) => (match kindD P t with
      | some true => ((cs.drop off).take (sizeD P t)).length = sizeD P t ∧ allKnown ((cs.drop off).take (sizeD P t)) = true ∧ K (s.put dst (mkAgg ((cs.drop off).take (sizeD P t))))
      | some false => (match cs[off]? with
        | some v => v.isTup = false ∧ (if take then K ({ s with hp := s.hp.set id (IObj.var (cs.set off v.cp)) }.put dst v) else K (s.put dst v.cp))
        | none => False)
      | none => False)
    | _ => False
  | .aptr id z i j => match s.hp[id]? with
    | some (.arr z' xs) => match (xs[i]?).bind (partD P t · j) with
      | some d => z = z' ∧ K (s.put dst (.d d))
      | none => False
    | _ => False
  | _ => False

/-- a datum with some cells replaced -/
def D.setAt (x : D) (j : Nat) (y : List D) : D :=
  match x with
  | .agg cs => .agg (cs.take j ++ y ++ cs.drop (j + y.length))
  | x => match y with | [y] => y | _ => x

def storeK (P : Program) (t : TypeId) (a : V) (x : Operand) (v : V) (s : St) (dst : Option Nat) (K : St → Prop) : Prop :=
  match a with
  | .ptr id off => match s.hp[id]? with
    | some (.var cs) => (kindD P t).isSome = true ∧ v.flat.length = sizeD P t ∧ off + sizeD P t ≤ cs.length ∧ v.known = true ∧
        K (({ s with hp := s.hp.set id (IObj.var (cs.take off ++ v.flat ++ cs.drop (off + sizeD P t))), tm := s.at_ x v.cp } : St).put dst .un)
    | _ => False
  | .aptr id z i j => match s.hp[id]?, v.d? with
    | some (.arr z' xs), some y => match xs[i]? with
      | some x => (kindD P t).isSome = true ∧ z = z' ∧ y.flat.length = sizeD P t ∧ j + sizeD P t ≤ z ∧
          K ({ s with hp := s.hp.set id (IObj.arr z' (xs.set i (if j = 0 ∧ sizeD P t = z then y else x.setAt j y.flat))) }.put dst .un)
      | none => False
    | _, _ => False
  | _ => False

def fillD (place : Nat → Option (Nat × Nat)) (cells : List V) : List (Nat × V) → Option (List V)
  | [] => some cells
  | (i, v) :: r => match place i with
    | some (off, size) =>
      if v.known = true ∧ v.cp.flat.length = size ∧ off + size ≤ cells.length then fillD place (cells.take off ++ v.cp.flat ++ cells.drop (off + size)) r else none
    | none => none

/-- the elements of a literal slice -/
def fillEl (size : Nat) (xs : List D) : List (Nat × V) → Option (List D)
  | [] => some xs
  | (i, v) :: r => match v.d? with
    | some d => if d.flat.length = size ∧ i < xs.length then fillEl size (xs.set i d) r else none
    | none => none

def sliceIx (P : Program) (s : St) (d : Int) : Option Operand → Option Int
  | none => some d
  | some o => match ev P 0 s o with
    | .d (.int _ n) => some n
    | _ => none

/-- is it a bound of nothing? -/
def isZero : Option Operand → Bool
  | some (.const (.int _ 0)) => true
  | _ => false

def sliceK (P : Program) (t : TypeId) (x : V) (s : St) (lo hi mx : Option Operand) (K : V → Prop) : Prop :=
  match x.cp with
  | .d (.sl m0 z xs) => match sliceIx P s 0 lo, sliceIx P s xs.length hi, sliceIx P s xs.length mx with
    | some l, some h, some m => (elI P t).map (·.1) = some z ∧ (hi.isSome || mx.isNone) = true ∧ 0 ≤ l ∧ l ≤ h ∧ h ≤ m ∧ m ≤ xs.length ∧
        K (if isZero mx then .nil z else if mx.isSome && !m0 then (if h = m then .own z ((xs.take h.toNat).drop l.toNat) else .d (.sl m0 z ((xs.take h.toNat).drop l.toNat))) else .d (.sl m0 z ((xs.take h.toNat).drop l.toNat)))
    | _, _, _ => False
  | .nil z => match sliceIx P s 0 lo, sliceIx P s 0 hi, sliceIx P s 0 mx with
    | some l, some h, some m => (elI P t).map (·.1) = some z ∧ (hi.isSome || mx.isNone) = true ∧ l = 0 ∧ h = 0 ∧ m = 0 ∧ K (.nil z)
    | _, _, _ => False
  | .d (.str b) => match sliceIx P s 0 lo, sliceIx P s b.size hi, mx with
    | some l, some h, none => P.underlying t = some .string ∧ 0 ≤ l ∧ l ≤ h ∧ h ≤ b.size ∧ K (.d (.str (b.extract l.toNat h.toNat)))
    | _, _, _ => False
  | .ref id z off len cap => match sliceIx P s 0 lo, sliceIx P s len hi, sliceIx P s cap mx with
    | some l, some h, some m => (elI P t).map (·.1) = some z ∧ (hi.isSome || mx.isNone) = true ∧ 0 ≤ l ∧ l ≤ h ∧ h ≤ m ∧ m ≤ cap ∧
        K (if isZero mx then .nil z else .ref id z (off + l.toNat) (h.toNat - l.toNat) (m.toNat - l.toNat))
    | _, _, _ => False
  | _ => False

/-! ### Maps -/
/-- cell by cell the same -/
def sameL : List D → List D → Bool
  | [], [] => true
  | .int k a :: xs, .int j b :: ys => decide (a = b) && (decide (k = j) && sameL xs ys)
  | _, _ => false

/-- are two keys of a type the same? -/
def keyEq (P : Program) (kt : TypeId) (k k' : D) : Option Bool :=
  match P.underlying kt, k, k' with
  | some (.int c), .int a m, .int b n => if a = c ∧ b = c then some (decide (m = n)) else none
  | some (.struct _), .agg xs, .agg ys => match (leafOffs P 8 kt).bind (eqAt xs ys) with
    | some b => if b = sameL xs ys then some b else none
    | none => none
  | _, _, _ => none

/-- a key that may be looked up -/
def keyOK (P : Program) (kt : TypeId) (k : D) : Bool :=
  match P.underlying kt, k with
  | some (.int c), .int a _ => a == c
  | some (.struct fs), .agg xs => fs.toList.all fun f => (match P.underlying f.type, xs[f.offset]? with
    | some (.int c), some (.int a _) => a == c
    | _, _ => false)
  | _, _ => false

def mapTy (P : Program) (t : TypeId) : Option (TypeId × TypeId) := match P.underlying t with
  | some (.map k e) => some (k, e)
  | _ => none

/-- where a key stands, and its value -/
def mfind (P : Program) (kt : TypeId) (k : D) : List (Nat × D × V) → Nat → Option (Option (Nat × V))
  | [], _ => some none
  | (_, k', v) :: r, i => match keyEq P kt k k' with
    | some true => some (some (i, v))
    | some false => mfind P kt k r (i + 1)
    | none => none

/-- the zero value of a type -/
def zeroV (P : Program) (t : TypeId) : Option V := match kindD P t with
  | some true => match zeroCs P t, (P.info? t).bind (·.zero) with
    | some cs, some (.agg c) => if cs.length = c.size then some (.d (.agg cs)) else none
    | _, _ => none
  | some false => match (P.info? t).bind (·.zero) with
    | some v => some (constV P t v)
    | none => none
  | none => none

def lookupK (P : Program) (t : TypeId) (x k : V) (ok : Bool) (s : St) (K : V → Prop) : Prop :=
  match x, k, mapTy P t with
  | .map id, .d k, some (kt, et) => match s.hp[id]? with
    | some (.map _ es) => keyOK P kt k = true ∧ (match mfind P kt k es 0 with
      | some (some (_, v)) => K (if ok then .tup [v.cp, .d (.bool true)] else v.cp)
      | some none => (match zeroV P et with
        | some z => K (if ok then .tup [z, .d (.bool false)] else z)
        | none => False)
      | none => False)
    | _ => False
  | _, _, _ => False

def mapUpdateK (P : Program) (t : TypeId) (x k v : V) (s : St) (dst : Option Nat) (K : St → Prop) : Prop :=
  match x, k, mapTy P t with
  | .map id, .d k, some (kt, _) => match s.hp[id]? with
    | some (.map c es) => keyOK P kt k = true ∧ (match mfind P kt k es 0 with
      | some (some (i, _)) => K (({ s with hp := s.hp.set id (.map c (es.modify i fun e => (e.1, e.2.1, v.cp))) } : St).put dst .un)
      | some none => K (({ s with hp := s.hp.set id (.map (c + 1) (es ++ [(c, k, v.cp)])) } : St).put dst .un)
      | none => False)
    | _ => False
  | _, _, _ => False

def nextK (s : St) (x : V) (dst : Option Nat) (K : St → Prop) : Prop :=
  match x with
  | .ptr id 0 => match s.hp[id]? with
    | some (.iter m since seen last) => match s.hp[m]? with
      | some (.map c es) => (seen = [] ∨ es = [] ∨ es.any (fun e => decide (e.1 < last)) = true) ∧
          ((es.filter fun e => !seen.contains e.1 && decide (e.1 < since)) = [] → K (s.put dst (.tup [.d (.bool false)]))) ∧
          ∀ e ∈ es, seen.contains e.1 = false → K (({ s with hp := s.hp.set id (.iter m since (seen ++ [e.1]) c) } : St).put dst (.tup [.d (.bool true), .d e.2.1, e.2.2.cp]))
      | _ => False
    | _ => False
  | _ => False

/-- a yield, as the loop's body takes it -/
def RoundK (P : Program) (id : Nat) (args : List V) (hp : List IObj) (K : V → List IObj → Prop) : Prop :=
  ∀ Φ B au w cargs b, Inv (Ctx.at_ Φ B au w) Φ B au ⟨args, hp, hp.length⟩ ⟨cargs, []⟩ w → B[id]? = some b →
    ∃ fn tmps asg body, (Instr.yield b cargs).run P w = .ok (.round b fn tmps asg body) w ∧
      RoundIn Fence.wide 0 P b fn tmps asg body w fun e w' => ∃ v r hp', e = .returned v ∧ K r hp' ∧ Rel (Ctx.at_ Φ B au w) ⟨[r], hp', hp.length⟩ ⟨#[v], []⟩ w'

def hasBody (P : Program) (f : FuncId) : Bool := match P.funcs[f]? with
  | some fn => fn.body.isSome && fn.name != "runtime.NumGoroutine"
  | none => false

/-- a value that owns nothing -/
def V.bare : V → Bool
  | .own _ _ | .hold _ _ | .tup _ => false
  | _ => true

def argVs (P : Program) (s : St) (c : Call) : List V := (List.zip c.args.toList (c.argTypes.toList ++ List.replicate c.args.size 0)).map fun (x, t) => (ev P t s x).cp

/-- what may be appended to in the way of values -/
def appBase : V → Option (Nat × List D)
  | .own z xs => some (z, xs)
  | .nil z => some (z, [])
  | _ => none

/-- The places of a call's data arguments keep what they own; what a call hands back goes to its place. -/
def callK0 (P : Program) (c : Call) (s : St) (dst : Option Nat) (K : St → Prop) : Prop :=
  match c.callee with
  | .value g => match ev P 0 s g with
    | .fn (.func f) caps => (argVs P s c ++ caps).all V.bare = true ∧ (bif hasBody P f then CallK P f (argVs P s c ++ caps) s.hp fun r hp' => K ({ s with hp := hp' }.put dst r)
        else CallE P f (argVs P s c ++ caps) s.hp fun r hp' => K ({ s with hp := hp' }.put dst r))
    | .yld id => (argVs P s c).all V.bare = true ∧ RoundK P id (argVs P s c) s.hp fun r hp' => K ({ s with hp := hp' }.put dst r)
    | _ => False
  | .builtin .len => match argVs P s c with
    | [.d (.sl _ _ xs)] => (c.argTypes[0]?).isSome = true ∧ (elemTy P (c.argTypes.getD 0 0)).isSome = true ∧ K (s.put dst (.d (.int .i64 xs.length)))
    | [.nil _] => (c.argTypes[0]?).isSome = true ∧ (elemTy P (c.argTypes.getD 0 0)).isSome = true ∧ K (s.put dst (.d (.int .i64 0)))
    | [.d (.str b)] => (c.argTypes[0]?).isSome = true ∧ P.underlying (c.argTypes.getD 0 0) = some .string ∧ K (s.put dst (.d (.int .i64 b.size)))
    | [.ref _ _ _ n _] => (c.argTypes[0]?).isSome = true ∧ (elemTy P (c.argTypes.getD 0 0)).isSome = true ∧ K (s.put dst (.d (.int .i64 n)))
    | [.map id] => (match s.hp[id]? with
      | some (.map _ es) => (c.argTypes[0]?).isSome = true ∧ (mapTy P (c.argTypes.getD 0 0)).isSome = true ∧ K (s.put dst (.d (.int .i64 es.length)))
      | _ => False)
    | _ => False
  | .builtin .append => match c.args.toList with
    | [x, y] => match appBase (ev P (c.argTypes.getD 0 0) s x), (ev P (c.argTypes.getD 1 0) s y).cp.d? with
      | some (z, xs), some (.sl _ z' ys) => match elI P (c.argTypes.getD 0 0) with
        | some (e, by_) => dst.isSome = true ∧ c.argTypes.size = 2 ∧ z = e ∧ z' = z ∧ 0 < z ∧ (elemTy P (c.argTypes.getD 1 0)).isSome = true ∧ 0 < by_ ∧ (xs.length + ys.length) * by_ ≤ 140737488355328 ∧
            K (({ s with tm := s.at_ x (ev P (c.argTypes.getD 0 0) s x).cp } : St).put dst (.own z (xs ++ ys)))
        | none => False
      | _, _ => False
    | _ => False
  | .builtin .min => match argVs P s c with
    | [.d (.int k a), .d (.int _ b)] => K (s.put dst (.d (.int k (if b < a then b else a))))
    | _ => False
  | .builtin .max => match argVs P s c with
    | [.d (.int k a), .d (.int _ b)] => K (s.put dst (.d (.int k (if a < b then b else a))))
    | _ => False
  | _ => False

/-- the elements that a slice shows -/
def elemsOf (s : St) : V → Option (Nat × List D)
  | .d (.sl _ z xs) => some (z, xs)
  | .own z xs => some (z, xs)
  | .nil z => some (z, [])
  | .ref id z off len cap => match s.hp[id]? with
    | some (.arr z' xs) => if z' = z ∧ len ≤ cap ∧ off + cap ≤ xs.length then some (z, (xs.drop off).take len) else none
    | _ => none
  | _ => none

/-- the zero value of a slice type's elements -/
def zeroEl (P : Program) (t : TypeId) : Option D := (elemTy P t).bind fun e => (zeroCs P e).bind (ofCells P e)

/-- what an append appends: the elements of a slice, or so many zeros -/
def appElems (P : Program) (t0 t1 : TypeId) (s : St) (y : V) : Option (Nat × List D) :=
  match P.underlying t1, y with
  | some (.slice _), y => elemsOf s y
  | some (.int .i64), .d (.int .i64 n) => if 0 ≤ n ∧ n * ((elI P t0).map (·.2)).getD 0 ≤ 140737488355328 ∧ n ≤ 140737488355328 then (zeroEl P t0).map fun zd => (zd.flat.length, List.replicate n.toNat zd) else none
  | _, _ => none

def appendRefK (P : Program) (t0 t1 : TypeId) (x y : V) (s : St) (dst : Option Nat) (K : St → Prop) : Prop :=
  match x, appElems P t0 t1 s y, elI P t0, zeroEl P t0 with
  | .ref id z off len cap, some (z2, ys), some (e, by_), some zd => match s.hp[id]? with
    | some (.arr z' xs) => z' = z ∧ z2 = z ∧ e = z ∧ 0 < z ∧ 0 < by_ ∧ zd.flat.length = z ∧ len ≤ cap ∧ off + cap ≤ xs.length ∧ (len + ys.length) * by_ ≤ 140737488355328 ∧
        (len + ys.length ≤ cap → K (({ s with hp := s.hp.set id (.arr z (xs.take (off + len) ++ ys ++ xs.drop (off + len + ys.length))) } : St).put dst (.ref id z off (len + ys.length) cap))) ∧
        (cap < len + ys.length → ∀ cap', len + ys.length ≤ cap' → K (({ s with hp := s.hp ++ [.arr z ((xs.drop off).take len ++ ys ++ List.replicate (cap' - (len + ys.length)) zd)] } : St).put dst (.ref s.hp.length z 0 (len + ys.length) cap')))
    | _ => False
  | _, _, _, _ => False

/-- append to nothing, where what comes is to be changed -/
def appendNewK (P : Program) (t0 t1 : TypeId) (x y : V) (s : St) (dst : Option Nat) (K : St → Prop) : Prop :=
  match x, appElems P t0 t1 s y, elI P t0, zeroEl P t0 with
  | .nil z, some (z2, ys), some (e, by_), some zd => z2 = z ∧ e = z ∧ 0 < z ∧ 0 < by_ ∧ zd.flat.length = z ∧ ys.length * by_ ≤ 140737488355328 ∧
        ∀ cap', ys.length ≤ cap' → (ys = [] → cap' = 0) → K (({ s with hp := s.hp ++ [.arr z (ys ++ List.replicate (cap' - ys.length) zd)] } : St).put dst (.ref s.hp.length z 0 ys.length cap'))
  | _, _, _, _ => False

def copyK (P : Program) (t0 t1 : TypeId) (x y : V) (s : St) (dst : Option Nat) (K : St → Prop) : Prop :=
  match x, elemsOf s y, elI P t0 with
  | .ref id z off len cap, some (z2, ys), some (e, _) => match s.hp[id]? with
    | some (.arr z' xs) => z' = z ∧ z2 = z ∧ e = z ∧ 0 < z ∧ len ≤ cap ∧ off + cap ≤ xs.length ∧ (elemTy P t1).isSome = true ∧
        K (({ s with hp := s.hp.set id (.arr z (xs.take off ++ ys.take len ++ xs.drop (off + (ys.take len).length))) } : St).put dst (.d (.int .i64 ((ys.take len).length : Nat))))
    | _ => False
  | _, _, _ => False

def clearK (P : Program) (t0 : TypeId) (x : V) (s : St) (dst : Option Nat) (K : St → Prop) : Prop :=
  match x, elI P t0, zeroEl P t0 with
  | .ref id z off len cap, some (e, _), some zd => match s.hp[id]? with
    | some (.arr z' xs) => z' = z ∧ e = z ∧ 0 < z ∧ zd.flat.length = z ∧ len ≤ cap ∧ off + cap ≤ xs.length ∧
        K (({ s with hp := s.hp.set id (.arr z (xs.take off ++ List.replicate len zd ++ xs.drop (off + len))) } : St).put dst .un)
    | _ => False
  | _, _, _ => False

def deleteK (P : Program) (t0 : TypeId) (x k : V) (s : St) (dst : Option Nat) (K : St → Prop) : Prop :=
  match x, k, mapTy P t0 with
  | .map id, .d k, some (kt, _) => match s.hp[id]? with
    | some (.map c es) => keyOK P kt k = true ∧ (match mfind P kt k es 0 with
      | some (some (i, _)) => K (({ s with hp := s.hp.set id (.map c (es.eraseIdx i)) } : St).put dst .un)
      | some none => K (s.put dst .un)
      | none => False)
    | _ => False
  | _, _, _ => False

def callK (P : Program) (c : Call) (s : St) (dst : Option Nat) (K : St → Prop) : Prop :=
  match c.callee, c.args.toList, c.argTypes.toList with
  | .builtin .append, [x, y], [t0, t1] => match ev P t0 s x with
    | .ref id z off len cap => appendRefK P t0 t1 (.ref id z off len cap) (ev P t1 s y) s dst K
    | _ => callK0 P c s dst K
  | .builtin .copy, [x, y], [t0, t1] => copyK P t0 t1 (ev P t0 s x) (ev P t1 s y) s dst K
  | .builtin .clear, [x], [t0] => clearK P t0 (ev P t0 s x) s dst K
  | .builtin .cap, [x], [t0] => match ev P t0 s x with
    | .ref _ _ _ _ cap => (elemTy P t0).isSome = true ∧ K (s.put dst (.d (.int .i64 cap)))
    | .nil _ => (elemTy P t0).isSome = true ∧ K (s.put dst (.d (.int .i64 0)))
    | _ => False
  | .builtin .delete, [x, k], [t0, t1] => deleteK P t0 (ev P t0 s x) (ev P t1 s k) s dst K
  | _, _, _ => callK0 P c s dst K

def stepK (P : Program) (o : Oper) (r : List Oper) (s : St) (K : St → Prop) : Prop :=
  match o.op with
  | .move x => K (mv s x (ev P o.type s x) o.dst (takes o.dst r || (ev P o.type s x).isTup))
  | .assign x => K (mv s x (ev P o.type s x) o.dst true)
  | .pick c a b => match ev P 0 s c with
    | .d (.bool t) => (t = true → K (s.put o.dst (ev P o.type s a).cp)) ∧ (t = false → K (s.put o.dst (ev P o.type s b).cp))
    | _ => False
  | .alloc t => match zeroVs P t with
    | some cs => K ({ s with hp := s.hp ++ [IObj.var cs] }.put o.dst (.ptr s.hp.length 0))
    | none => False
  | .box t x => (ev P t s x).known = true ∧ K ({ s with hp := s.hp ++ [IObj.var (ev P t s x).cp.flat] }.put o.dst (.ptr s.hp.length 0))
  | .build t ps => match placesD P t, zeroCs P t with
    | some pl, some z => match fillD (fun i => pl[i]?) (z.map V.d) (ps.toList.map fun p => (p.1, ev P (((fieldOff P t p.1).map (·.2)).getD 0) s p.2)) with
      | some cs => z.length = ((P.info? t).bind (·.zero)).elim 0 (·.cells.size) ∧ K (s.put o.dst (mkAgg cs))
      | none => False
    | _, _ => False
  | .buildSlice t n ps => match elemTy P t, elI P t with
    | some e, some (z, _) => match (zeroCs P e).bind (ofCells P e) with
      | some zd => match fillEl z (List.replicate n zd) (ps.toList.map fun p => (p.1, ev P e s p.2)) with
        | some xs => o.dst.isSome = true ∧ n * z ≤ 16777216 ∧ zd.flat.length = z ∧ 0 < z ∧ K (s.put o.dst (.own z xs))
        | none => False
      | none => False
    | _, _ => False
  | .makeSlice t l c => match elemTy P t, elI P t, ev P 0 s l, ev P 0 s c with
    | some e, some (z, by_), .d (.int _ n), .d (.int _ m) => match (zeroCs P e).bind (ofCells P e) with
      | some zd => n ≤ m ∧ 0 ≤ n ∧ by_ * m ≤ 281474976710656 ∧ m ≤ 9223372036854775807 ∧ zd.flat.length = z ∧ 0 < z ∧
          K ({ s with hp := s.hp ++ [IObj.arr z (List.replicate m.toNat zd)] }.put o.dst (.ref s.hp.length z 0 n.toNat m.toNat))
      | none => False
    | _, _, _, _ => False
  | .load t a => loadK P t (ev P 0 s a) s o.dst (takes o.dst r) K
  | .store t a x => storeK P t (ev P 0 s a) x (ev P t s x) s o.dst K
  | .binOp op t x y _ => bif isNilC y then nilK P op t (ev P t s x) fun v => K (s.put o.dst v) else binK P op t (ev P t s x) (ev P t s y) fun v => K (s.put o.dst v)
  | .unOp op _ x => match op, ev P 0 s x with
    | .not, .d (.bool b) => K (s.put o.dst (.d (.bool !b)))
    | .neg, .d (.int k n) => K (s.put o.dst (.d (.int k (k.wrap (0 - n)))))
    | .xor, .d (.int k n) => K (s.put o.dst (.d (.int k (k.wrap (BitVec.ofInt k.bits (if k.signed then -1 else k.max) ^^^ BitVec.ofInt k.bits n).toNat))))
    | _, _ => False
  | .convert src dst x => match ev P src s x with
    | .d (.int _ n) => match P.underlying dst with
      | some (.int k) => (P.underlying src).isSome = true ∧ K (s.put o.dst (.d (.int k (k.wrap n))))
      | _ => False
    | .d (.str b) => P.underlying dst = some .string ∧ P.underlying src = some .string ∧ K (s.put o.dst (.d (.str b)))
    | _ => False
  | .makeFunc f fs caps => fs = #[] ∧ K (s.put o.dst (.fn f (caps.toList.map fun x => (ev P 0 s x).cp)))
  | .slice t x lo hi mx => sliceK P t (ev P t s x) s lo hi mx fun v => K (s.put o.dst v)
  | .fieldAddr t x f => match ev P 0 s x, fieldOff P t f with
    | .ptr id off, some (n, _) => K (s.put o.dst (.ptr id (off + n)))
    | .lptr l z xs i j, some (n, _) => K (s.put o.dst (.lptr l z xs i (j + n)))
    | .aptr id z i j, some (n, _) => K (s.put o.dst (.aptr id z i (j + n)))
    | _, _ => False
  | .field t x f => match ev P t s x, fieldOff P t f with
    | .d d, some (n, ft) => match partD P ft d n with
      | some y => (match d with | .agg _ => True | _ => False) ∧ K (s.put o.dst (.d y))
      | none => False
    | .st cs, some (n, ft) => match partV P ft cs n with
      | some y => K (s.put o.dst y)
      | none => False
    | _, _ => False
  | .indexAddr t x i => match (ev P t s x).cp, ev P 0 s i with
    | .d (.sl l z xs), .d (.int _ n) => (elI P t).map (·.1) = some z ∧ 0 ≤ n ∧ n < xs.length ∧ K (s.put o.dst (.lptr l z xs n.toNat 0))
    | .ref id z off len _, .d (.int _ n) => (elI P t).map (·.1) = some z ∧ 0 ≤ n ∧ n < len ∧ K (s.put o.dst (match s.hp[id]? with
      | some (.var _) => .ptr id ((off + n.toNat) * z)
      | _ => .aptr id z (off + n.toNat) 0))
    | .ptr id off, .d (.int _ n) => match arrI P t with
      | some (k, z) => 0 ≤ n ∧ n < k ∧ K (s.put o.dst (.ptr id (off + n.toNat * z)))
      | none => False
    | _, _ => False
  | .index t x i => match ev P t s x, ev P 0 s i with
    | .d (.str b), .d (.int _ n) => P.underlying t = some .string ∧ 0 ≤ n ∧ n < b.size ∧ K (s.put o.dst (.d (.int .u8 ((b[n.toNat]!).toNat))))
    | _, _ => False
  | .extract x ix => match ev P 0 s x with
    | .tup vs => match vs[ix]? with
      | some v => v.isTup = false ∧ K (({ s with tm := s.at_ x (.tup (vs.set ix v.cp)) } : St).put o.dst v)
      | none => False
    | _ => False
  | .call c => callK P c s o.dst K
  | .makeMap _ none => K ({ s with hp := s.hp ++ [IObj.map 0 []] }.put o.dst (.map s.hp.length))
  | .lookup t x k ok => lookupK P t (ev P t s x) (ev P ((mapTy P t).map (·.1) |>.getD 0) s k) ok s fun v => K (s.put o.dst v)
  | .mapUpdate t x k v => (ev P ((mapTy P t).map (·.2) |>.getD 0) s v).known = true ∧ mapUpdateK P t (ev P t s x) (ev P ((mapTy P t).map (·.1) |>.getD 0) s k) (ev P ((mapTy P t).map (·.2) |>.getD 0) s v) s o.dst K
  | .range t x => match ev P t s x with
    | .map id => (match s.hp[id]? with
      | some (.map c _) => (mapTy P t).isSome = true ∧ K ({ s with hp := s.hp ++ [IObj.iter id c [] c] }.put o.dst (.ptr s.hp.length 0))
      | _ => False)
    | _ => False
  | .next x false => nextK s (ev P 0 s x) o.dst K
  | _ => False

def opsK (P : Program) (all : List Oper) : List Oper → St → (St → Prop) → Prop
  | [], s, K => K s
  | o :: r, s, K => match o.guard with
    | none => stepK P o r s fun s' => opsK P all r s' K
    | some (j, want) => match (all[j]?).bind (·.dst) with
      | some t => match s.tm[t]? with
        | some (.d (.bool b)) =>
          (b = want → stepK P o r { s with tm := s.tm.set t (.d (.bool want)) } fun s' => opsK P all r s' K) ∧
          (b = !want → opsK P all r ({ s with tm := s.tm.set t (.d (.bool !want)) }.put o.dst (.tup [])) K)
        | some (.tup []) => opsK P all r (s.put o.dst (.tup [])) K
        | _ => False
      | none => False

def inBlockK (id : Nat) (Q : Ex → St → Prop) : Ex → St → Prop
  | .exit i, s => if i = id then Q .normal s else Q (.exit i) s
  | e, s => Q e s

def thenK (K : St → Prop) (Q : Ex → St → Prop) : Ex → St → Prop
  | .normal, s => K s
  | e, s => Q e s

def wpK (P : Program) : Code → (Ex → St → Prop) → St → Prop
  | .skip, Q, s => Q .normal s
  | .label _, Q, s => Q .normal s
  | .ret, Q, s => Q .ret s
  | .exit id, Q, s => Q (.exit id) s
  | .goto l, Q, s => Q (.goto l) s
  | .seq a b, Q, s => wpK P a (thenK (wpK P b Q) Q) s
  | .region _ ops false, Q, s => opsK P ops.toList ops.toList s (Q .normal)
  | .cond c a b, Q, s => match ev P 0 s c with
    | .d (.bool t) => (t = true → wpK P a Q s) ∧ (t = false → wpK P b Q s)
    | _ => False
  | .block id c, Q, s => wpK P c (inBlockK id Q) s
  | c, Q, s => SemC P c Q s

end Go.Idl
end
section
namespace Go.Idl

theorem cell_of {w : World} {b o : Nat} {c : Array Value} {el : TypeId} {fr : Nat × Nat} (h : w.heap[b]? = some (.cells c el fr)) : w.cell? ⟨b, o, none⟩ = c[o]? := by
  unfold World.cell?; rw [h]; simp

theorem frozen_of {w : World} {b o : Nat} {c : Array Value} {el : TypeId} (h : w.heap[b]? = some (.cells c el (0, 0))) : w.frozen? ⟨b, o, none⟩ = false := by
  unfold World.frozen?; rw [h]; simp

theorem lt_of_heap {w : World} {b : Nat} {o : Obj} (h : w.heap[b]? = some o) : b < w.heap.size := (Array.getElem?_eq_some_iff.1 h).1

theorem TailOK.mono {au au' : Auth} {w w' : World} {h h' : Holder} {z : Nat} {v : Value} (ht : TailOK au w h z v)
    (ha : ∀ b st, au b = some (h, st) → au' b = some (h', st) ∧ w'.heap[b]? = w.heap[b]?) : TailOK au' w' h' z v := by
  obtain ⟨a, len, cap, rfl, ht⟩ := ht
  refine ⟨a, len, cap, rfl, ht.imp id ?_⟩
  rintro ⟨b, o, c, el, rfl, h1, h2, h3⟩
  obtain ⟨e1, e2⟩ := ha _ _ h1
  exact ⟨b, o, c, el, rfl, e1, e2.trans h2, h3⟩

theorem HoldOK.mono {au au' : Auth} {w w' : World} {h h' : Holder} {z : Nat} {xs : List D} {v : Value} (ht : HoldOK au w h z xs v)
    (ha : ∀ b st, au b = some (h, st) → au' b = some (h', st) ∧ w'.heap[b]? = w.heap[b]?) : HoldOK au' w' h' z xs v := by
  obtain ⟨a, cap, rfl, hc, ht⟩ := ht
  refine ⟨a, cap, rfl, hc, ht.imp id ?_⟩
  rintro ⟨b, c, el, rest, rfl, h1, h2, h3⟩
  obtain ⟨e1, e2⟩ := ha _ _ h1
  exact ⟨b, c, el, rest, rfl, e1, e2.trans h2, h3⟩

theorem OwnV.mono {au au' : Auth} {w w' : World} {h h' : Nat → Holder} {V : V} {v : Value} (ht : OwnV au w h V v)
    (ha : ∀ j b st, au b = some (h j, st) → au' b = some (h' j, st) ∧ w'.heap[b]? = w.heap[b]?) : OwnV au' w' h' V v := by
  cases V <;> simp only [OwnV] at ht ⊢
  · exact ht.mono (ha 0)
  · exact ht.mono (ha 0)
  · constructor
    · rintro j z xs cs c rfl h1 h2
      exact (ht.1 j z xs cs c rfl h1 h2).mono (ha j)
    · rintro j z xs cs c rfl h1 h2
      exact (ht.2 j z xs cs c rfl h1 h2).mono (ha j)

theorem RepO.mono {Φ Φ' : CM} {B B' : List Nat} {au au' : Auth} {w w' : World} {id b : Nat} {o : IObj} (h : RepO Φ B au w id b o)
    (hΦ : Φ.le Φ') (hB : ∀ (i b : Nat), B[i]? = some b → B'[i]? = some b) (hb : au b = some (.obj id, 0) → au' b = some (.obj id, 0) ∧ w'.heap[b]? = w.heap[b]?)
    (hc : ∀ j b st, au b = some (.cell id j, st) → au' b = some (.cell id j, st) ∧ w'.heap[b]? = w.heap[b]?) : RepO Φ' B' au' w' id b o := by
  cases o with
  | free => trivial
  | var cs =>
    obtain ⟨h1, c, el, h2, h3, h4⟩ := h
    obtain ⟨e1, e2⟩ := hb h1
    refine ⟨e1, c, el, e2.trans h2, h3, fun j V hj => ?_⟩
    obtain ⟨v, g1, g2, g3, g4⟩ := h4 j V hj
    exact ⟨v, g1, g2, g3.mono hΦ hB, g4.mono fun _ => hc j⟩
  | arr z xs =>
    intro hne
    obtain ⟨h1, c, el, h2, h3, h4⟩ := h hne
    obtain ⟨e1, e2⟩ := hb h1
    refine ⟨e1, c, el, e2.trans h2, h3, fun i x hx => ?_⟩
    obtain ⟨g1, g2⟩ := h4 i x hx
    refine ⟨g1, fun j d hd => ?_⟩
    obtain ⟨v, k1, k2, k3⟩ := g2 j d hd
    exact ⟨v, k1, k2, k3.mono hΦ⟩
  | map clock es =>
    obtain ⟨h1, ms, h2, h3, h4⟩ := h
    obtain ⟨e1, e2⟩ := hb h1
    refine ⟨e1, ms, e2.trans h2, h3, fun i n k V hi => ?_⟩
    obtain ⟨e, g1, g2, g3, g4⟩ := h4 i n k V hi
    exact ⟨e, g1, g2, g3.mono hΦ, g4.mono hΦ hB⟩
  | iter m since seen last =>
    obtain ⟨h1, bm, h2, h3⟩ := h
    obtain ⟨e1, e2⟩ := hb h1
    exact ⟨e1, bm, hB _ _ h2, e2.trans h3⟩
  | loop _ _ _ _ _ _ =>
    obtain ⟨h1, fn, tmps, dr, h2, h3, h4⟩ := h
    obtain ⟨e1, e2⟩ := hb h1
    exact ⟨e1, fn, tmps, dr, e2.trans h2, h3.mono hΦ hB, h4⟩

theorem shape_elems {Φ : CM} {lb : Bool} {b o : Nat} : ∀ n, ElemsAt Φ lb 0 b o (List.replicate n (.agg []))
  | 0 => .nil
  | n + 1 => .cons rfl .nil (shape_elems n)
theorem shape_rep {Φ : CM} {xs : List D} {a : Option Addr} {cap : Nat} (h : xs ≠ [] → ∃ b, a = some ⟨b, 0, none⟩) (hc : xs.length ≤ cap) : RepD Φ (shapeD xs.length) (.slice a xs.length cap) := by
  unfold shapeD
  by_cases e : xs = []
  · subst e; exact .sl0
  · obtain ⟨b, rfl⟩ := h e
    have hl : xs.length ≠ 0 := fun h => e (List.length_eq_zero_iff.1 h)
    have := RepD.sl (Φ := Φ) (l := false) (z := 0) (b := b) (o := 0) (xs := List.replicate xs.length (.agg [])) (cap := cap) (fun h => hl (by simpa using h)) (by simpa using hc) (shape_elems _)
    simpa using this
theorem RepS.cp {Φ : CM} {B : List Nat} {V : V} {v : Value} (h : RepS Φ B V v) : RepS Φ B V.cp v := by
  cases h with
  | own x => exact .d x
  | hold p q => exact .d (shape_rep p q)
  | tup e =>
    obtain ⟨hl, hg⟩ := e.get
    refine .tup (RepSL.of (by simpa using hl) fun j d c hj hc => ?_)
    simp only [List.getElem?_map, Option.map_eq_some_iff] at hj
    obtain ⟨d', hd', rfl⟩ := hj
    have := hg j d' c hd' hc
    cases this with
    | own x => exact .d x
    | hold p q => exact .d (shape_rep p q)
    | nil => exact .nil
    | st e ok q => exact .st e ok q
    | un => exact .un _
    | d x => exact .d x
    | ptr e => exact .ptr e
    | aptr e => exact .aptr e
    | lptr e => exact .lptr e
    | ref e l q => exact .ref e l q
    | ref0 => exact .ref0
    | fn e => exact .fn e
    | yld e => exact .yld e
    | tup e => exact .tup e
    | map e => exact .map e
  | un => exact .un _
  | nil => exact .nil
  | st e ok q => exact .st e ok q
  | d x => exact .d x
  | ptr e => exact .ptr e
  | aptr e => exact .aptr e
  | lptr e => exact .lptr e
  | ref e l q => exact .ref e l q
  | ref0 => exact .ref0
  | fn e => exact .fn e
  | yld e => exact .yld e
  | map e => exact .map e

theorem OwnV_cp {au : Auth} {w : World} {h : Nat → Holder} {V : V} {v : Value} : OwnV au w h V.cp v := by
  cases V <;> simp only [V.cp, OwnV]
  · constructor <;>
    · rintro j z xs cs c _ h1
      simp only [List.getElem?_map, Option.map_eq_some_iff] at h1
      obtain ⟨d', _, h2⟩ := h1
      cases d' <;> simp at h2

section
variable {κ : Ctx} {Φ : CM} {B : List Nat} {au : Auth} {s : St} {a : Act} {w : World}

theorem tm_get (h : Inv κ Φ B au s a w) (i : Nat) : RepS Φ B (s.tm.getD i .un) (a.tmps.getD i undef) ∧ OwnV au w (.slot i) (s.tm.getD i .un) (a.tmps.getD i undef) := by
  by_cases hi : i < s.tm.length
  · have hj : i < a.tmps.size := by rw [← h.tl]; exact hi
    have h1 : s.tm[i]? = some (s.tm.getD i .un) := by simp [List.getD, hi]
    have h2 : a.tmps[i]? = some (a.tmps.getD i undef) := by simp [Array.getD, hj]
    exact h.tm i _ _ h1 h2
  · have : s.tm.getD i .un = .un := by simp [List.getD, List.getElem?_eq_none (Nat.le_of_not_lt hi)]
    rw [this]
    exact ⟨.un _, trivial⟩

/-- A slot is given a value, ideal and real. -/
theorem Inv.slot (h : Inv κ Φ B au s a w) (d : Nat) {V : V} {v : Value} (hS : RepS Φ B V v) (hO : OwnV au w (.slot d) V v) :
    Inv κ Φ B au { s with tm := s.tm.set d V } { a with tmps := a.tmps.setIfInBounds d v } w := by
  refine { h with tl := by simpa using h.tl, tm := fun i V' v' hV hv => ?_ }
  simp only [List.getElem?_set] at hV
  simp only [Array.getElem?_setIfInBounds] at hv
  by_cases e : d = i
  · subst e
    by_cases hl : d < s.tm.length
    · have hl' : d < a.tmps.size := by rw [← h.tl]; exact hl
      simp [hl] at hV; simp [hl'] at hv; subst hV; subst hv; exact ⟨hS, hO⟩
    · simp [hl] at hV
  · simp [e] at hV hv; exact h.tm i V' v' hV hv

/-- A slot's ideal value is exchanged, the real one stays. -/
theorem Inv.islot (h : Inv κ Φ B au s a w) (d : Nat) {V : V} (hS : ∀ V' v, s.tm[d]? = some V' → a.tmps[d]? = some v → RepS Φ B V v ∧ OwnV au w (.slot d) V v) :
    Inv κ Φ B au { s with tm := s.tm.set d V } a w := by
  refine { h with tl := by simpa using h.tl, tm := fun i V' v' hV hv => ?_ }
  simp only [List.getElem?_set] at hV
  by_cases e : d = i
  · subst e
    by_cases hl : d < s.tm.length
    · simp [hl] at hV; subst hV; exact hS _ v' (List.getElem?_eq_getElem hl) hv
    · simp [hl] at hV
  · simp [e] at hV; exact h.tm i V' v' hV hv

theorem Inv.put (h : Inv κ Φ B au s a w) (dst : Option Nat) {V : V} {v : Value} (hS : RepS Φ B V v) (hO : ∀ d, dst = some d → OwnV au w (.slot d) V v) :
    Inv κ Φ B au (s.put dst V) (a.put dst v) w := by
  cases dst with
  | none => exact h
  | some d => exact h.slot d hS (hO d rfl)

theorem Inv.strip (h : Inv κ Φ B au s a w) (i : Nat) : Inv κ Φ B au { s with tm := s.tm.set i (s.tm.getD i .un).cp } a w := by
  refine h.islot i fun V' v hV hv => ?_
  have e : s.tm.getD i .un = V' := by simp [List.getD, hV]
  rw [e]
  exact ⟨(h.tm i V' v hV hv).1.cp, OwnV_cp⟩

theorem Rel.put_plain {V : V} {v : Value} (h : Inv κ Φ B au s a w) (dst : Option Nat) (hS : RepS Φ B V v) (hO : ∀ h, OwnV au w h V v) : Rel κ (s.put dst V) (a.put dst v) w :=
  ⟨Φ, B, au, h.put dst hS fun _ _ => hO _⟩

/-- What a slot owns goes over to another place. -/
def moveAu (au : Auth) (i : Nat) (h' : Nat → Holder) : Auth := fun b => match au b with
  | some (.slot k j, st) => if k = i then some (h' j, st) else some (.slot k j, st)
  | x => x

theorem moveAu_other {i : Nat} {h' : Nat → Holder} {b st : Nat} {h : Holder} (hh : au b = some (h, st)) (hn : ∀ j, h ≠ .slot i j) : moveAu au i h' b = some (h, st) := by
  unfold moveAu; rw [hh]
  cases h with
  | slot k j => simp only; rw [if_neg]; rintro rfl; exact hn j rfl
  | cell _ _ => rfl
  | obj _ => rfl

theorem moveAu_slot {i : Nat} {h' : Nat → Holder} {b st j : Nat} (hh : au b = some (.slot i j, st)) : moveAu au i h' b = some (h' j, st) := by
  unfold moveAu; rw [hh]; simp

theorem moveAu_inv {i : Nat} {h' : Nat → Holder} {b st : Nat} {h : Holder} (hh : moveAu au i h' b = some (h, st)) : ∃ h0, au b = some (h0, st) := by
  unfold moveAu at hh
  split at hh
  · rename_i k j st' e
    split at hh <;> (injection hh with hh; injection hh with _ hst; subst hst; exact ⟨_, e⟩)
  · exact ⟨h, hh⟩

theorem moveAu_none {i : Nat} {h' : Nat → Holder} {b : Nat} (hh : au b = none) : moveAu au i h' b = none := by unfold moveAu; rw [hh]

theorem moveAu_ne {i : Nat} {h' : Nat → Holder} {b : Nat} : moveAu au i h' b ≠ none ↔ au b ≠ none := by
  unfold moveAu
  split
  · rename_i e; split <;> simp [e]
  · rfl

/-- Slot i's value is moved to slot d: i keeps a bare copy. -/
theorem Inv.take (h : Inv κ Φ B au s a w) (i d : Nat) :
    Inv κ Φ B (moveAu au i (.slot d)) { s with tm := (s.tm.set i (s.tm.getD i .un).cp).set d (s.tm.getD i .un) } { a with tmps := a.tmps.setIfInBounds d (a.tmps.getD i undef) } w := by
  obtain ⟨g1, g2⟩ := tm_get h i
  have hs := h.strip i
  refine { hs with phia := fun lb b o v h0 st hp ha => ?_, auw := fun b h0 st ha => ?_, tl := by simpa using h.tl, tm := fun k V' v' hV hv => ?_, hp := fun id o b ho hb => ?_, df := ?_ }
  · obtain ⟨h1, e⟩ := moveAu_inv ha; exact h.phia _ b o v h1 st hp e
  · obtain ⟨h1, e⟩ := moveAu_inv ha; exact h.auw b h1 st e
  · simp only [List.getElem?_set] at hV
    simp only [Array.getElem?_setIfInBounds] at hv
    by_cases e : d = k
    · subst e
      by_cases hl : d < s.tm.length
      · have hl' : d < a.tmps.size := by rw [← h.tl]; exact hl
        have q1 : V' = s.tm.getD i .un := by simp [hl] at hV; simpa [List.getD] using hV.symm
        have q2 : v' = a.tmps.getD i undef := by simp [hl'] at hv; simpa using hv.symm
        rw [q1, q2]
        exact ⟨g1, g2.mono fun j b st hh => ⟨moveAu_slot hh, rfl⟩⟩
      · simp [hl] at hV
    · simp [e] at hV hv
      by_cases e2 : i = k
      · subst e2
        have hl : i < s.tm.length := by
          have := (Array.getElem?_eq_some_iff.1 hv).1; rw [h.tl]; exact this
        simp [hl] at hV
        subst hV
        have e3 : a.tmps.getD i undef = v' := by simp [Array.getD, (Array.getElem?_eq_some_iff.1 hv).1, (Array.getElem?_eq_some_iff.1 hv).2]
        have e4 : s.tm.getD i .un = s.tm[i] := by simp [List.getD, hl]
        simp only [List.getD] at *
        rw [e3] at g1
        exact ⟨by simpa [hl] using g1.cp, OwnV_cp⟩
      · simp [e2] at hV
        obtain ⟨k1, k2⟩ := h.tm k V' v' hV hv
        exact ⟨k1, k2.mono fun j b st hh => ⟨moveAu_other hh (by rintro j' hh'; injection hh' with hh'; exact e2 hh'.symm), rfl⟩⟩
  · refine (h.hp id o b ho hb).mono (CM.le_refl _) (fun _ _ h => h) (fun hh => ⟨moveAu_other hh (by simp), rfl⟩) (fun j b st hh => ⟨moveAu_other hh (by simp), rfl⟩)
  · obtain ⟨rs, h1, h2, h3⟩ := h.df
    exact ⟨rs, h1, h2, fun r hr => let ⟨x, y, z⟩ := h3 r hr; ⟨x, moveAu_none y, z⟩⟩

/-- The world grows: nothing that lay there is changed. -/
structure Grows (w w' : World) : Prop where
  size : w.heap.size ≤ w'.heap.size
  same : ∀ b, b < w.heap.size → w'.heap[b]? = w.heap[b]?
  tape : w'.tape = w.tape
  os : w'.os = w.os
  out : w'.output = w.output

theorem Grows.refl (w : World) : Grows w w := ⟨Nat.le_refl _, fun _ _ => rfl, rfl, rfl, rfl⟩
theorem Grows.trans {w w' w'' : World} (h : Grows w w') (h' : Grows w' w'') : Grows w w'' :=
  ⟨Nat.le_trans h.size h'.size, fun b hb => (h'.same b (Nat.lt_of_lt_of_le hb h.size)).trans (h.same b hb), h'.tape.trans h.tape, h'.os.trans h.os, h'.out.trans h.out⟩
theorem Grows.push (w : World) (o : Obj) : Grows w { w with heap := w.heap.push o } :=
  ⟨by simp, fun b hb => by simp [Array.getElem?_push, Nat.ne_of_lt hb], rfl, rfl, rfl⟩
theorem Grows.drew (w : World) (n : Nat) : Grows w { w with drawn := n } := ⟨Nat.le_refl _, fun _ _ => rfl, rfl, rfl, rfl⟩

theorem Grows.cell {w w' : World} (h : Grows w w') {b o : Nat} {v : Value} (hc : w.cell? ⟨b, o, none⟩ = some v) : w'.cell? ⟨b, o, none⟩ = some v := by
  have hb : b < w.heap.size := by
    unfold World.cell? at hc
    cases e : w.heap[b]? with
    | none => simp [e] at hc
    | some x => exact lt_of_heap e
  unfold World.cell? at *
  simp only at hc ⊢
  rw [h.same b hb]; exact hc

theorem Inv.grow {w' : World} (h : Inv κ Φ B au s a w) (g : Grows w w') : Inv κ Φ B au s a w' := by
  have hs : ∀ b h0 st, au b = some (h0, st) → w'.heap[b]? = w.heap[b]? := fun b h0 st e => g.same b (h.auw b h0 st e).1
  refine { h with phi := fun lb b o v e => g.cell (h.phi _ b o v e), auw := fun b h0 st e => ⟨Nat.lt_of_lt_of_le (h.auw b h0 st e).1 g.size, (h.auw b h0 st e).2⟩, size := Nat.le_trans h.size g.size, keep := fun b hb hm => (g.same b (Nat.lt_of_lt_of_le hb h.size)).trans (h.keep b hb hm), tm := fun i V v hV hv => ⟨(h.tm i V v hV hv).1, (h.tm i V v hV hv).2.mono fun j b st e => ⟨e, hs b _ st e⟩⟩, hp := fun id o b ho hb => (h.hp id o b ho hb).mono (CM.le_refl _) (fun _ _ h => h) (fun e => ⟨e, hs b _ _ e⟩) (fun j b st e => ⟨e, hs b _ _ e⟩), df := ?_, rd := fun l hl => ?_, lp := fun l r hl => ?_, wo := ⟨g.tape.trans h.wo.1, g.os.trans h.wo.2.1, g.out.trans h.wo.2.2⟩ }
  · obtain ⟨rs, h1, h2, h3⟩ := h.df
    exact ⟨rs, h1, h2, fun r hr => let ⟨x, y, z⟩ := h3 r hr; ⟨(g.same r (lt_of_heap x)).trans x, y, z⟩⟩
  · obtain ⟨r, hr⟩ := h.rd l hl
    exact ⟨r, (g.same l (lt_of_heap hr)).trans hr⟩
  · obtain ⟨r, hr⟩ := h.lp l r hl
    exact ⟨r, (g.same l (lt_of_heap hr)).trans hr⟩

end
end Go.Idl
end
