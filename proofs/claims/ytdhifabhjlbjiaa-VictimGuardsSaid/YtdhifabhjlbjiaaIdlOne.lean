/- The ideal values, the ideal heap, and how the machine's memory stands for them.; What one operation, one region, one piece of code does to an ideal state: verification conditions by plain recursion.; The relation between ideal states and the machine's: how it abides single steps.; One operation: what the ideal step promises, the machine does. Part 1.; One operation: what the ideal step promises, the machine does. Part 2: reading.; One operation. Part 3: writing.; One operation. Part 4: the small ones.; One operation. Part 5: arithmetic, comparisons, conversions, functions, tuples, slicing.; One operation. Part 6: slices: slicing, literals, make, append.; One operation. Part 7: slicing, literals, make.; One operation. Part 8: literals of structs and slices, make, a string's byte.; One operation. Part 9: calls. -/
import Derived.RangeFuncLeaves
import Derived.RangeFuncCalls
import Derived.WalkKit
import Derived.Laws.StructEq
import Derived.Laws.Append
set_option linter.all false
section
namespace Go.Idl

/-- Data: a slice is a list of elements (each of z cells), a struct its cells. A slice bears a mark: false, it stays for ever; true, it stays for the call. -/
inductive D where
  | int (k : IntKind) (n : Int)
  | bool (b : Bool)
  | str (s : ByteArray)
  | sl (l : Bool) (z : Nat) (xs : List D)
  | agg (cs : List D)
  | con (v : Value)
  deriving Inhabited

def D.flat : D → List D
  | .agg cs => cs
  | x => [x]

inductive V where
  | un
  | d (x : D)
  /-- a slice without room -/
  | nil (z : Nat)
  /-- a slice whose spare room is this place's alone -/
  | own (z : Nat) (xs : List D)
  | ptr (id off : Nat)
  | aptr (id z i j : Nat)
  | lptr (l : Bool) (z : Nat) (xs : List D) (i j : Nat)
  /-- a struct of which not all is data -/
  | st (cs : List V)
  /-- a slice of an array of the heap, and its capacity -/
  | ref (id z off len cap : Nat)
  | fn (f : Fn) (caps : List V)
  | yld (id : Nat)
  | tup (vs : List V)
  | map (id : Nat)
  deriving Inhabited

inductive Ex where
  | normal | exit (id : Nat) | goto (l : Nat) | ret
  deriving Inhabited

inductive IObj where
  | free
  | var (cells : List V)
  | arr (z : Nat) (xs : List D)
  /-- a map: its clock; its entries, when they were born, their keys and values -/
  | map (clock : Nat) (es : List (Nat × D × V))
  | iter (m since : Nat) (seen : List Nat) (last : Nat)
  | loop (ready : Bool) (pend : Option Code) (tm : List V) (params : List Nat) (assign body : Code)
  deriving Inhabited

structure St where
  tm : List V
  hp : List IObj
  /-- so many objects lay there when the activation began -/
  nb : Nat

def undefV : V := .un

def St.put (s : St) (dst : Option Nat) (v : V) : St :=
  match dst with
  | some d => { s with tm := s.tm.set d v }
  | none => s

def V.known : V → Bool
  | .un | .tup _ => false
  | _ => true

/-- a copy of a value: the spare room stays where it was -/
def V.cp : V → V
  | .own z xs => .d (.sl false z xs)
  | .tup vs => .tup (vs.map fun v => match v with | .own z xs => .d (.sl false z xs) | v => v)
  | v => v

abbrev CM := Bool → Nat → Nat → Option Value
def CM.le (Φ Ψ : CM) : Prop := ∀ l b o v, Φ l b o = some v → Ψ l b o = some v
theorem CM.le_refl (Φ : CM) : Φ.le Φ := fun _ _ _ _ h => h
theorem CM.le.trans {Φ Ψ Ω : CM} (h : Φ.le Ψ) (h' : Ψ.le Ω) : Φ.le Ω := fun l b o v e => h' l b o v (h l b o v e)

/-- one cell's value: no struct, no tuple -/
def okCell : Value → Prop
  | .agg _ | .tuple _ => False
  | _ => True

mutual
inductive RepD (Φ : CM) : D → Value → Prop
  | int (k n) : RepD Φ (.int k n) (.int k n)
  | bool (b) : RepD Φ (.bool b) (.bool b)
  | str (s) : RepD Φ (.str s) (.string s)
  | con (v) : okCell v → RepD Φ (.con v) v
  | agg {ds : List D} {cs : List Value} : RepL Φ ds cs → RepD Φ (.agg ds) (.agg cs.toArray)
  | sl0 {l z a cap} : RepD Φ (.sl l z []) (.slice a 0 cap)
  | sl {l z b o xs cap} : xs ≠ [] → xs.length ≤ cap → ElemsAt Φ l z b o xs → RepD Φ (.sl l z xs) (.slice (some ⟨b, o, none⟩) xs.length cap)
inductive RepL (Φ : CM) : List D → List Value → Prop
  | nil : RepL Φ [] []
  | cons {d ds c cs} : okCell c → RepD Φ d c → RepL Φ ds cs → RepL Φ (d :: ds) (c :: cs)
inductive ElemsAt (Φ : CM) : Bool → Nat → Nat → Nat → List D → Prop
  | nil {l z b o} : ElemsAt Φ l z b o []
  | cons {l z b o x xs} : x.flat.length = z → CellsAt Φ l b o x.flat → ElemsAt Φ l z b (o + z) xs → ElemsAt Φ l z b o (x :: xs)
inductive CellsAt (Φ : CM) : Bool → Nat → Nat → List D → Prop
  | nil {l b o} : CellsAt Φ l b o []
  | cons {l b o d ds c} : Φ l b o = some c → okCell c → RepD Φ d c → CellsAt Φ l b (o + 1) ds → CellsAt Φ l b o (d :: ds)
end

mutual
theorem RepD.mono {Φ Ψ : CM} (h : Φ.le Ψ) : ∀ {d v}, RepD Φ d v → RepD Ψ d v
  | _, _, .int k n => .int k n
  | _, _, .bool b => .bool b
  | _, _, .str s => .str s
  | _, _, .con v hv => .con v hv
  | _, _, .agg hl => .agg (RepL.mono h hl)
  | _, _, .sl0 => .sl0
  | _, _, .sl a b e => .sl a b (ElemsAt.mono h e)
theorem RepL.mono {Φ Ψ : CM} (h : Φ.le Ψ) : ∀ {d v}, RepL Φ d v → RepL Ψ d v
  | _, _, .nil => .nil
  | _, _, .cons o a b => .cons o (RepD.mono h a) (RepL.mono h b)
theorem ElemsAt.mono {Φ Ψ : CM} (h : Φ.le Ψ) : ∀ {l z b o xs}, ElemsAt Φ l z b o xs → ElemsAt Ψ l z b o xs
  | _, _, _, _, _, .nil => .nil
  | _, _, _, _, _, .cons e c t => .cons e (CellsAt.mono h c) (ElemsAt.mono h t)
theorem CellsAt.mono {Φ Ψ : CM} (h : Φ.le Ψ) : ∀ {l b o ds}, CellsAt Φ l b o ds → CellsAt Ψ l b o ds
  | _, _, _, _, .nil => .nil
  | _, _, _, _, .cons e ok d t => .cons (h _ _ _ _ e) ok (RepD.mono h d) (CellsAt.mono h t)
end

theorem CellsAt.get {Φ : CM} {l : Bool} {b o : Nat} {ds : List D} (h : CellsAt Φ l b o ds) : ∀ j d, ds[j]? = some d → ∃ c, Φ l b (o + j) = some c ∧ okCell c ∧ RepD Φ d c := by
  induction ds generalizing o with
  | nil => intro j d hj; simp at hj
  | cons x xs ih =>
    cases h with
    | cons e ok hd ht =>
      intro j d hj
      cases j with
      | zero => simp at hj; subst hj; exact ⟨_, e, ok, hd⟩
      | succ j =>
        simp at hj
        obtain ⟨c, h1, h2, h3⟩ := ih ht j d hj
        exact ⟨c, by rw [← h1]; congr 1; omega, h2, h3⟩

theorem CellsAt.of {Φ : CM} {l : Bool} {b o : Nat} {ds : List D} (h : ∀ j d, ds[j]? = some d → ∃ c, Φ l b (o + j) = some c ∧ okCell c ∧ RepD Φ d c) : CellsAt Φ l b o ds := by
  induction ds generalizing o with
  | nil => exact .nil
  | cons x xs ih =>
    obtain ⟨c, h1, h2, h3⟩ := h 0 x rfl
    refine .cons h1 h2 h3 (ih fun j d hj => ?_)
    obtain ⟨c, h1, h2, h3⟩ := h (j + 1) d (by simpa using hj)
    exact ⟨c, by rw [← h1]; congr 1; omega, h2, h3⟩

theorem ElemsAt.get {Φ : CM} {l : Bool} {z b o : Nat} {xs : List D} (h : ElemsAt Φ l z b o xs) : ∀ i x, xs[i]? = some x → x.flat.length = z ∧ CellsAt Φ l b (o + i * z) x.flat := by
  induction xs generalizing o with
  | nil => intro i x hi; simp at hi
  | cons y ys ih =>
    cases h with
    | cons e c t =>
      intro i x hi
      cases i with
      | zero => simp at hi; subst hi; simpa using ⟨e, c⟩
      | succ i =>
        simp at hi
        obtain ⟨h1, h2⟩ := ih t i x hi
        refine ⟨h1, ?_⟩
        have : o + (i + 1) * z = o + z + i * z := by rw [Nat.add_mul]; omega
        rw [this]; exact h2

theorem ElemsAt.of {Φ : CM} {l : Bool} {z b o : Nat} {xs : List D} (h : ∀ i x, xs[i]? = some x → x.flat.length = z ∧ CellsAt Φ l b (o + i * z) x.flat) : ElemsAt Φ l z b o xs := by
  induction xs generalizing o with
  | nil => exact .nil
  | cons y ys ih =>
    obtain ⟨h1, h2⟩ := h 0 y rfl
    refine .cons h1 (by simpa using h2) (ih fun i x hi => ?_)
    obtain ⟨h1, h2⟩ := h (i + 1) x (by simpa using hi)
    refine ⟨h1, ?_⟩
    have : o + (i + 1) * z = o + z + i * z := by rw [Nat.add_mul]; omega
    rw [← this]; exact h2

theorem RepL.get {Φ : CM} {ds : List D} {cs : List Value} (h : RepL Φ ds cs) : ds.length = cs.length ∧ ∀ (j : Nat) d c, ds[j]? = some d → cs[j]? = some c → okCell c ∧ RepD Φ d c := by
  induction ds generalizing cs with
  | nil => cases h; simp
  | cons x xs ih =>
    cases h with
    | cons ok hd ht =>
      obtain ⟨h1, h2⟩ := ih ht
      refine ⟨by simp [h1], fun j d c hj hc => ?_⟩
      cases j with
      | zero => simp at hj hc; subst hj; subst hc; exact ⟨ok, hd⟩
      | succ j => simp at hj hc; exact h2 j d c hj hc

theorem RepL.of {Φ : CM} {ds : List D} {cs : List Value} (hl : ds.length = cs.length) (h : ∀ (j : Nat) d c, ds[j]? = some d → cs[j]? = some c → okCell c ∧ RepD Φ d c) : RepL Φ ds cs := by
  induction ds generalizing cs with
  | nil => cases cs with
    | nil => exact .nil
    | cons c cs => simp at hl
  | cons x xs ih => cases cs with
    | nil => simp at hl
    | cons c cs =>
      obtain ⟨a, b⟩ := h 0 x c rfl rfl
      exact .cons a b (ih (by simpa using hl) fun j d c hj hc => h (j + 1) d c (by simpa using hj) (by simpa using hc))

/-- A datum and its cells. -/
theorem RepD.flat {Φ : CM} {d : D} {v : Value} (h : RepD Φ d v) : RepL Φ d.flat v.cells.toList := by
  cases h with
  | agg hl => simpa [D.flat, Value.cells] using hl
  | con v hv => cases v <;> simp [okCell] at hv <;> exact .cons trivial (.con _ trivial) .nil
  | int k n => exact .cons trivial (.int k n) .nil
  | bool b => exact .cons trivial (.bool b) .nil
  | str s => exact .cons trivial (.str s) .nil
  | sl0 => exact .cons trivial .sl0 .nil
  | sl a b e => exact .cons trivial (.sl a b e) .nil

inductive Holder where
  | slot (i j : Nat)
  | cell (id j : Nat)
  | obj (id : Nat)
  deriving DecidableEq

/-- Whose are the cells of a block from the given one on. -/
abbrev Auth := Nat → Option (Holder × Nat)

mutual
inductive RepS (Φ : CM) (B : List Nat) : V → Value → Prop
  | un (v) : RepS Φ B .un v
  | d {x v} : RepD Φ x v → RepS Φ B (.d x) v
  | nil {z a} : RepS Φ B (.nil z) (.slice a 0 0)
  | own {z xs v} : RepD Φ (.sl false z xs) v → RepS Φ B (.own z xs) v
  | st {vs cs} : RepSL Φ B vs cs → (∀ c ∈ cs, okCell c) → (∀ V ∈ vs, V.cp = V ∧ V.known = true) → RepS Φ B (.st vs) (.agg cs.toArray)
  | ptr {id off b} : B[id]? = some b → RepS Φ B (.ptr id off) (.pointer (some ⟨b, off, none⟩))
  | aptr {id z i j b} : B[id]? = some b → RepS Φ B (.aptr id z i j) (.pointer (some ⟨b, i * z + j, none⟩))
  | lptr {l z xs i j b o} : ElemsAt Φ l z b o xs → RepS Φ B (.lptr l z xs i j) (.pointer (some ⟨b, o + i * z + j, none⟩))
  | ref {id z off len b cap ad} : B[id]? = some b → len ≤ cap → (0 < cap → ad = some ⟨b, off * z, none⟩) → RepS Φ B (.ref id z off len cap) (.slice ad len cap)
  | ref0 {id z off ad} : RepS Φ B (.ref id z off 0 0) (.slice ad 0 0)
  | fn {f vs cs} : RepSL Φ B vs cs → RepS Φ B (.fn f vs) (.func f #[] cs.toArray)
  | yld {id b} : B[id]? = some b → RepS Φ B (.yld id) (.func (.yield b) #[] #[])
  | tup {vs cs} : RepSL Φ B vs cs → RepS Φ B (.tup vs) (.tuple cs.toArray)
  | map {id b} : B[id]? = some b → RepS Φ B (.map id) (.map (some b))
inductive RepSL (Φ : CM) (B : List Nat) : List V → List Value → Prop
  | nil : RepSL Φ B [] []
  | cons {v vs c cs} : RepS Φ B v c → RepSL Φ B vs cs → RepSL Φ B (v :: vs) (c :: cs)
end

mutual
theorem RepS.mono {Φ Ψ : CM} {B C : List Nat} (h : Φ.le Ψ) (hB : ∀ (i b : Nat), B[i]? = some b → C[i]? = some b) : ∀ {V v}, RepS Φ B V v → RepS Ψ C V v
  | _, _, .un v => .un v
  | _, _, .d x => .d (x.mono h)
  | _, _, .nil => .nil
  | _, _, .own x => .own (x.mono h)
  | _, _, .st e ok q => .st (RepSL.mono h hB e) ok q
  | _, _, .ptr e => .ptr (hB _ _ e)
  | _, _, .aptr e => .aptr (hB _ _ e)
  | _, _, .lptr e => .lptr (e.mono h)
  | _, _, .ref e l q => .ref (hB _ _ e) l q
  | _, _, .ref0 => .ref0
  | _, _, .fn e => .fn (RepSL.mono h hB e)
  | _, _, .yld e => .yld (hB _ _ e)
  | _, _, .tup e => .tup (RepSL.mono h hB e)
  | _, _, .map e => .map (hB _ _ e)
theorem RepSL.mono {Φ Ψ : CM} {B C : List Nat} (h : Φ.le Ψ) (hB : ∀ (i b : Nat), B[i]? = some b → C[i]? = some b) : ∀ {V v}, RepSL Φ B V v → RepSL Ψ C V v
  | _, _, .nil => .nil
  | _, _, .cons a b => .cons (RepS.mono h hB a) (RepSL.mono h hB b)
end

theorem RepSL.get {Φ : CM} {B : List Nat} {ds : List V} {cs : List Value} (h : RepSL Φ B ds cs) : ds.length = cs.length ∧ ∀ (j : Nat) d c, ds[j]? = some d → cs[j]? = some c → RepS Φ B d c := by
  induction ds generalizing cs with
  | nil => cases h; simp
  | cons x xs ih =>
    cases h with
    | cons hd ht =>
      obtain ⟨h1, h2⟩ := ih ht
      refine ⟨by simp [h1], fun j d c hj hc => ?_⟩
      cases j with
      | zero => simp at hj hc; subst hj; subst hc; exact hd
      | succ j => simp at hj hc; exact h2 j d c hj hc

theorem RepSL.of {Φ : CM} {B : List Nat} {ds : List V} {cs : List Value} (hl : ds.length = cs.length) (h : ∀ (j : Nat) d c, ds[j]? = some d → cs[j]? = some c → RepS Φ B d c) : RepSL Φ B ds cs := by
  induction ds generalizing cs with
  | nil => cases cs with
    | nil => exact .nil
    | cons c cs => simp at hl
  | cons x xs ih => cases cs with
    | nil => simp at hl
    | cons c cs => exact .cons (h 0 x c rfl rfl) (ih (by simpa using hl) fun j d c hj hc => h (j + 1) d c (by simpa using hj) (by simpa using hc))

/-- A slice whose spare cells are the holder's. -/
def TailOK (au : Auth) (w : World) (h : Holder) (z : Nat) (v : Value) : Prop :=
  ∃ a len cap, v = .slice a len cap ∧ (len = cap ∨ ∃ b o c el, a = some ⟨b, o, none⟩ ∧ au b = some (h, o + len * z) ∧ w.heap[b]? = some (.cells c el (0, 0)) ∧ o + cap * z ≤ c.size)

def OwnV (au : Auth) (w : World) (h : Nat → Holder) : V → Value → Prop
  | .own z _, v => TailOK au w (h 0) z v
  | .tup vs, v => ∀ j z xs cs c, v = .tuple cs → vs[j]? = some (.own z xs) → cs[j]? = some c → TailOK au w (h j) z c
  | _, _ => True

def RepO (Φ : CM) (B : List Nat) (au : Auth) (w : World) (id b : Nat) : IObj → Prop
  | .free => True
  | .var cs => au b = some (.obj id, 0) ∧ ∃ c el, w.heap[b]? = some (.cells c el (0, 0)) ∧ c.size = cs.length ∧
      ∀ (j : Nat) V, cs[j]? = some V → ∃ v, c[j]? = some v ∧ (V.known = true → okCell v) ∧ RepS Φ B V v ∧ OwnV au w (fun _ => .cell id j) V v
  | .arr z xs => xs ≠ [] → au b = some (.obj id, 0) ∧ ∃ c el, w.heap[b]? = some (.cells c el (0, 0)) ∧ c.size = xs.length * z ∧
      ∀ (i : Nat) x, xs[i]? = some x → x.flat.length = z ∧ ∀ (j : Nat) d, x.flat[j]? = some d → ∃ v, c[i * z + j]? = some v ∧ okCell v ∧ RepD Φ d v
  | .map clock es => au b = some (.obj id, 0) ∧ ∃ ms, w.heap[b]? = some (.map ms clock) ∧ ms.size = es.length ∧
      ∀ (i : Nat) n k V, es[i]? = some (n, k, V) → ∃ e : MapEntry, ms[i]? = some e ∧ e.born = n ∧ RepD Φ k e.key ∧ RepS Φ B V e.val
  | .iter m since seen last => au b = some (.obj id, 0) ∧ ∃ bm, B[m]? = some bm ∧ w.heap[b]? = some (.mapIter (some bm) since seen.toArray last)
  | .loop ready pend tm ps asg body => au b = some (.obj id, 0) ∧ ∃ fn tmps dr, w.heap[b]? = some (.loop { state := if ready then .ready else if pend.isSome then .done else .busy, pending := pend, fn := fn, tmps := tmps, params := ps.toArray, assign := asg, body := body, defers := dr }) ∧
      RepSL Φ B tm tmps.toList ∧ ∀ V ∈ tm, V.cp = V

structure Ctx where
  w0 : World
  mine : Nat → Prop
  B : List Nat
  Φ : CM
  round : Option Nat

structure Inv (κ : Ctx) (Φ : CM) (B : List Nat) (au : Auth) (s : St) (a : Act) (w : World) : Prop where
  phi : ∀ l b o v, Φ l b o = some v → w.cell? ⟨b, o, none⟩ = some v
  phia : ∀ l b o v h st, Φ l b o = some v → au b = some (h, st) → o < st
  auw : ∀ b h st, au b = some (h, st) → b < w.heap.size ∧ (κ.mine b ∨ κ.w0.heap.size ≤ b)
  size : κ.w0.heap.size ≤ w.heap.size
  keep : ∀ b, b < κ.w0.heap.size → ¬ κ.mine b → w.heap[b]? = κ.w0.heap[b]?
  pre : κ.B <+: B
  lePhi : κ.Φ.le Φ
  tl : s.tm.length = a.tmps.size
  tm : ∀ (i : Nat) V v, s.tm[i]? = some V → a.tmps[i]? = some v → RepS Φ B V v ∧ OwnV au w (.slot i) V v
  hl : s.hp.length = B.length
  nb : κ.B.length ≤ s.nb ∧ s.nb ≤ s.hp.length
  hp : ∀ id o b, s.hp[id]? = some o → B[id]? = some b → RepO Φ B au w id b o
  df : ∃ rs : List Nat, a.defers = rs.map (fun r => { target := .collected r, args := #[] }) ∧ rs.Nodup ∧ ∀ r ∈ rs, w.heap[r]? = some (.deferred (some [])) ∧ au r = none ∧ κ.w0.heap.size ≤ r
  rd : ∀ l, κ.round = some l → ∃ r, w.heap[l]? = some (Obj.loop r)
  lp : ∀ (l : Nat) (r : Loop), κ.w0.heap[l]? = some (Obj.loop r) → ∃ r', w.heap[l]? = some (Obj.loop r')
  src : ∀ l b o v, Φ l b o = some v → κ.Φ l b o = some v ∨ κ.mine b ∨ κ.w0.heap.size ≤ b
  wo : w.tape = κ.w0.tape ∧ w.os = κ.w0.os ∧ w.output = κ.w0.output

def Rel (κ : Ctx) (s : St) (a : Act) (w : World) : Prop := ∃ Φ B au, Inv κ Φ B au s a w

def Ctx.F (κ : Ctx) : Fence := { Fence.wide with round := κ.round }

def Ex.to : Ex → Exit
  | .normal => .normal
  | .exit id => .exit id
  | .goto l => .goto l
  | .ret => .ret

def postK (κ : Ctx) (Q : Ex → St → Prop) (e : Exit) (a : Act) (w : World) : Prop := ∃ e' s', e = Ex.to e' ∧ Q e' s' ∧ Rel κ s' a w

/-- What the code does from an ideal state, whatever stands for that. -/
def SemC (P : Program) (c : Code) (Q : Ex → St → Prop) (s : St) : Prop :=
  ∀ κ a w, Rel κ s a w → c.wpIn κ.F 0 P (postK κ Q) a w

/-- The context of a call made in a world. -/
def Ctx.at_ (Φ : CM) (B : List Nat) (au : Auth) (w : World) : Ctx := { w0 := w, mine := fun b => au b ≠ none, B := B, Φ := Φ, round := none }

/-- A call of a function on ideal arguments, the heap at hand. -/
def CallK (P : Program) (f : FuncId) (args : List V) (hp : List IObj) (K : V → List IObj → Prop) : Prop :=
  ∀ Φ B au w cargs, Inv (Ctx.at_ Φ B au w) Φ B au ⟨args, hp, hp.length⟩ ⟨cargs, []⟩ w →
    CallsIn Fence.wide 0 P f cargs w fun e w' => ∃ v r hp', e = .returned v ∧ K r hp' ∧ Rel (Ctx.at_ Φ B au w) ⟨[r], hp', hp.length⟩ ⟨#[v], []⟩ w'

/-- A call of what the model itself answers. -/
def CallE (P : Program) (f : FuncId) (args : List V) (hp : List IObj) (K : V → List IObj → Prop) : Prop :=
  ∀ Φ B au w cargs, Inv (Ctx.at_ Φ B au w) Φ B au ⟨args, hp, hp.length⟩ ⟨cargs, []⟩ w →
    ∃ v r hp' w', (callFunc f cargs).run P w = .ok (.value v) w' ∧ K r hp' ∧ Rel (Ctx.at_ Φ B au w) ⟨[r], hp', hp.length⟩ ⟨#[v], []⟩ w'

def V.data : V → Bool
  | .d _ | .own _ _ | .nil _ => true
  | .tup vs => vs.all fun v => match v with | .d _ | .own _ _ | .nil _ => true | _ => false
  | _ => false

/-- A call of a function of data, in whatever memory. -/
def PCall (P : Program) (f : FuncId) (args : List D) (r : V) : Prop :=
  CallK P f (args.map V.d) [] fun r' _ => r' = r

end Go.Idl
end
section
namespace Go.Idl

def sizeD (P : Program) (t : TypeId) : Nat := ((P.info? t).map (·.size)).getD 0
def bytesD (P : Program) (t : TypeId) : Nat := ((P.info? t).map (·.bytes)).getD 0
/-- is it a struct or an array? -/
def kindD (P : Program) (t : TypeId) : Option Bool := match P.underlying t with | some (.struct _) | some (.array ..) => some true | some _ => some false | none => none
def fieldOff (P : Program) (t : TypeId) (f : Nat) : Option (Nat × TypeId) := match P.underlying t with
  | some (.struct fs) => match fs[f]? with
    | some x => match P.info? x.type with
      | some i => if i.size = 0 then none else some (x.offset, x.type)
      | none => none
    | none => none
  | _ => none
def elemTy (P : Program) (t : TypeId) : Option TypeId := match P.underlying t with | some (.slice e) => some e | _ => none
/-- a slice type's elements: how many cells, how many bytes -/
def elI (P : Program) (t : TypeId) : Option (Nat × Nat) := match P.underlying t with
  | some (.slice e) => match P.info? e with
    | some i => match i.zero with
      | some zv => if zv.cells.size = i.size then some (i.size, i.bytes) else none
      | none => none
    | none => none
  | _ => none
def elemSz (P : Program) (t : TypeId) : Nat := ((elI P t).map (·.1)).getD 0
def placesD (P : Program) (t : TypeId) : Option (List (Nat × Nat)) := match P.underlying t with
  | some (.struct fs) => fs.toList.mapM fun f => (P.info? f.type).map fun i => (f.offset, i.size)
  | _ => none
/-- an array type: how many elements, of how many cells -/
def arrI (P : Program) (t : TypeId) : Option (Nat × Nat) := match P.underlying t with
  | some (.array n e) => match P.info? e with
    | some i => some (n, i.size)
    | none => none
  | _ => none

/-- the types of a variable's cells -/
def cellTys (P : Program) : Nat → TypeId → List TypeId
  | 0, t => [t]
  | n + 1, t => match P.underlying t with
    | some (.struct fs) => fs.toList.flatMap fun f => cellTys P n f.type
    | some (.array k e) => (List.replicate k (cellTys P n e)).flatten
    | _ => [t]

def constD (P : Program) (t : TypeId) : Value → Option D
  | .int k n => some (.int k n)
  | .bool b => some (.bool b)
  | .string b => some (.str b)
  | .slice none 0 0 => some (.sl false (elemSz P t) [])
  | .pointer none => some (.con (.pointer none))
  | .nilFunc => some (.con .nilFunc)
  | .nilIface => some (.con .nilIface)
  | .map none => some (.con (.map none))
  | _ => none

def constV (P : Program) (t : TypeId) (v : Value) : V :=
  match v with
  | .slice none 0 0 => .nil (elemSz P t)
  | v => match constD P t v with | some d => .d d | none => .un

/-- the cells of a type's zero value -/
def zeroCs (P : Program) (t : TypeId) : Option (List D) :=
  match (P.info? t).bind (·.zero) with
  | some z => (List.zip (cellTys P 8 t) z.cells.toList).mapM fun (t, v) => constD P t v
  | none => none
def zeroVs (P : Program) (t : TypeId) : Option (List V) :=
  match (P.info? t).bind (·.zero) with
  | some z => if (cellTys P 8 t).length = z.cells.size then some ((List.zip (cellTys P 8 t) z.cells.toList).map fun (t, v) => constV P t v) else none
  | none => none

def ofCells (P : Program) (t : TypeId) (cs : List D) : Option D := match kindD P t with | some true => some (.agg cs) | some false => cs.head? | none => none

/-- an operand; a constant is of the given type -/
def ev (P : Program) (t : TypeId) (s : St) : Operand → V
  | .tmp i => s.tm.getD i .un
  | .const v => constV P t v
  | .global _ => .un
  | .func f => .fn (.func f) []

def V.d? : V → Option D
  | .d x => some x
  | .own z xs => some (.sl false z xs)
  | .nil z => some (.sl false z [])
  | _ => none

def allD : List V → Option (List D)
  | [] => some []
  | v :: r => match v.d?, allD r with
    | some x, some y => some (x :: y)
    | _, _ => none

/-- cells as a struct -/
def mkAgg (cs : List V) : V := match allD cs with
  | some ds => .d (.agg ds)
  | none => .st (cs.map V.cp)

/-- does the rest of a region take this temporary's value away? -/
def takes (t : Option Nat) : List Oper → Bool
  | [] => false
  | o :: r => (match o.op with
    | .assign (.tmp x) => t == some x
    | .store _ _ (.tmp x) => t == some x
    | .call c => (match c.callee, c.args.toList with
      | .builtin .append, .tmp x :: _ => t == some x
      | _, _ => false)
    | _ => false) || takes t r

/-- a temporary's slot with another value in it -/
def St.at_ (s : St) (x : Operand) (v : V) : List V := match x with | .tmp i => s.tm.set i v | _ => s.tm

def V.isTup : V → Bool
  | .tup _ => true
  | _ => false

def mv (s : St) (x : Operand) (v : V) (dst : Option Nat) (take : Bool) : St :=
  if take then (match x with
    | .tmp i => ({ s with tm := s.tm.set i v.cp } : St).put dst v
    | _ => s.put dst v)
  else s.put dst v.cp

def intOp (op : BinOp) (k : IntKind) (a b : Int) : Option D :=
  match op with
  | .add => some (.int k (k.wrap (a + b)))
  | .sub => some (.int k (k.wrap (a - b)))
  | .mul => some (.int k (k.wrap (a * b)))
  | .eql => some (.bool (decide (a = b)))
  | .neq => some (.bool (decide (a ≠ b)))
  | .lss => some (.bool (decide (a < b)))
  | .leq => some (.bool (decide (a ≤ b)))
  | .gtr => some (.bool (decide (b < a)))
  | .geq => some (.bool (decide (b ≤ a)))
  | .and => some (.int k (k.wrap (BitVec.ofInt k.bits a &&& BitVec.ofInt k.bits b).toNat))
  | .or => some (.int k (k.wrap (BitVec.ofInt k.bits a ||| BitVec.ofInt k.bits b).toNat))
  | .xor => some (.int k (k.wrap (BitVec.ofInt k.bits a ^^^ BitVec.ofInt k.bits b).toNat))
  | .andNot => some (.int k (k.wrap (BitVec.ofInt k.bits a &&& ~~~BitVec.ofInt k.bits b).toNat))
  | _ => none

/-- The cells that a comparison of a struct comes to, and of what kind they are (0: a whole number, 1: a bool, 2: a string). -/
def leafOffs (P : Program) : Nat → TypeId → Option (List (Nat × Nat))
  | 0, _ => none
  | n + 1, t => match P.underlying t with
    | some (.struct fs) => if P.stoodInHeld t then none else
      fs.toList.foldr (fun f acc => match leafOffs P n f.type, acc, P.info? f.type with
        | some l, some r, some i => if f.name = "_" ∨ l.all (fun x => decide (x.1 < i.size)) = false then none else some (l.map (fun x => (f.offset + x.1, x.2)) ++ r)
        | _, _, _ => none) (some [])
    | some (.int _) => some [(0, 0)]
    | some .bool => some [(0, 1)]
    | some .string => some [(0, 2)]
    | _ => none

def eqAt (xs ys : List D) : List (Nat × Nat) → Option Bool
  | [] => some true
  | (i, k) :: r => match xs[i]?, ys[i]?, k, eqAt xs ys r with
    | some (.int j a), some (.int k b), 0, some t => if j = k then some (decide (a = b) && t) else none
    | some (.bool a), some (.bool b), 1, some t => some ((a == b) && t)
    | some (.str a), some (.str b), 2, some t => some ((a == b) && t)
    | _, _, _, _ => none

/-- addresses and nil -/
def ptrEq : V → V → Option Bool
  | .d (.con (.pointer none)), .d (.con (.pointer none)) => some true
  | .ptr _ _, .d (.con (.pointer none)) => some false
  | .aptr _ _ _ _, .d (.con (.pointer none)) => some false
  | .d (.con (.pointer none)), .ptr _ _ => some false
  | .d (.con (.pointer none)), .aptr _ _ _ _ => some false
  | _, _ => none
def isPtr (P : Program) (t : TypeId) : Bool := match P.underlying t with
  | some (.pointer _) => true
  | _ => false

def binK (P : Program) (op : BinOp) (t : TypeId) (x y : V) (K : V → Prop) : Prop :=
  match x, y with
  | .d (.int k a), .d (.int k' b) => match op with
    | .quo => k = k' ∧ b ≠ 0 ∧ K (.d (.int k (k.wrap (a.tdiv b))))
    | .rem => k = k' ∧ b ≠ 0 ∧ K (.d (.int k (a.tmod b)))
    | .shl => 0 ≤ b ∧ K (.d (.int k (k.wrap (a * 2 ^ (min b.toNat k.bits)))))
    | .shr => 0 ≤ b ∧ K (.d (.int k (a.fdiv (2 ^ (min b.toNat k.bits)))))
    | _ => match intOp op k a b with
      | some r => k = k' ∧ K (.d r)
      | none => False
  | .d (.bool a), .d (.bool b) => match op with
    | .eql => P.underlying t = some .bool ∧ K (.d (.bool (a == b)))
    | .neq => P.underlying t = some .bool ∧ K (.d (.bool (a != b)))
    | _ => False
  | .d (.str a), .d (.str b) => match op with
    | .eql => K (.d (.bool (a.toList == b.toList)))
    | .neq => K (.d (.bool !(a.toList == b.toList)))
    | .lss => K (.d (.bool (Op.bytesLess a.toList b.toList)))
    | .add => a.size + b.size ≤ 9223372036854775807 ∧ K (.d (.str (a ++ b)))
    | _ => False
  | .d (.agg xs), .d (.agg ys) => P.eqGuardType P.depth t = false ∧ kindD P t = some true ∧ (match op, (leafOffs P 8 t).bind (eqAt xs ys) with
    | .eql, some r => K (.d (.bool r))
    | .neq, some r => K (.d (.bool !r))
    | _, _ => False)
  | x, y => match ptrEq x y with
    | some r => isPtr P t = true ∧ (match op with
      | .eql => K (.d (.bool r))
      | .neq => K (.d (.bool !r))
      | _ => False)
    | none => False

/-- the constant nil of slices -/
def isNilC : Operand → Bool
  | .const (.slice none 0 0) => true
  | _ => false
/-- a slice beside nil -/
def nilK (P : Program) (op : BinOp) (t : TypeId) (x : V) (K : V → Prop) : Prop :=
  (elemTy P t).isSome = true ∧ match op, x with
  | .eql, .d (.sl _ _ xs) | .eql, .own _ xs => (xs ≠ [] → K (.d (.bool false))) ∧ (xs = [] → ∀ r, K (.d (.bool r)))
  | .neq, .d (.sl _ _ xs) | .neq, .own _ xs => (xs ≠ [] → K (.d (.bool true))) ∧ (xs = [] → ∀ r, K (.d (.bool r)))
  | .eql, .ref _ _ _ _ cap => (0 < cap → K (.d (.bool false))) ∧ (cap = 0 → ∀ r, K (.d (.bool r)))
  | .neq, .ref _ _ _ _ cap => (0 < cap → K (.d (.bool true))) ∧ (cap = 0 → ∀ r, K (.d (.bool r)))
  | .eql, .nil _ | .neq, .nil _ => ∀ r, K (.d (.bool r))
  | _, _ => False

/-- The part of a datum at offset j, as a value of type t. -/
def partD (P : Program) (t : TypeId) (x : D) (j : Nat) : Option D :=
  match kindD P t with
  | some true => (match x with
     | .agg cs => if j = 0 ∧ cs.length = sizeD P t then some (.agg cs)
       else if j + sizeD P t ≤ cs.length then some (.agg ((cs.drop j).take (sizeD P t))) else none
     | _ => none)
  | some false => x.flat[j]?
  | none => none

def V.flat : V → List V
  | .d (.agg cs) => cs.map .d
  | .st cs => cs
  | v => [v]

/-- a part of a struct -/
def partV (P : Program) (t : TypeId) (cs : List V) (j : Nat) : Option V :=
  match kindD P t with
  | some true => if ((cs.drop j).take (sizeD P t)).length = sizeD P t then some (mkAgg ((cs.drop j).take (sizeD P t))) else none
  | some false => (cs[j]?).map V.cp
  | none => none

def allKnown : List V → Bool
  | [] => true
  | v :: r => v.known && allKnown r

def loadK (P : Program) (t : TypeId) (a : V) (s : St) (dst : Option Nat) (take : Bool) (K : St → Prop) : Prop :=
  match a with
  | .lptr _ _ xs i j => match (xs[i]?).bind (partD P t · j) with
    | some d => K (s.put dst (.d d))
    | none => False
  | .ptr id off => match s.hp[id]? with
    | some (.var cs) => (match kindD P t with
      | some true => ((cs.drop off).take (sizeD P t)).length = sizeD P t ∧ allKnown ((cs.drop off).take (sizeD P t)) = true ∧ K (s.put dst (mkAgg ((cs.drop off).take (sizeD P t))))
      | some false => (match cs[off]? with
        | some v => v.isTup = false ∧ (if take then K ({ s with hp := s.hp.set id (IObj.var (cs.set off v.cp)) }.put dst v) else K (s.put dst v.cp))
        | none => False)
      | none => False)
    | _ => False
  | .aptr id z i j => match s.hp[id]? with
    | some (.arr z' xs) => match (xs[i]?).bind (partD P t · j) with
      | some d => z = z' ∧ K (s.put dst (.d d))
      | none => False
    | _ => False
  | _ => False

/-- a datum with some cells replaced -/
def D.setAt (x : D) (j : Nat) (y : List D) : D :=
  match x with
  | .agg cs => .agg (cs.take j ++ y ++ cs.drop (j + y.length))
  | x => match y with | [y] => y | _ => x

def storeK (P : Program) (t : TypeId) (a : V) (x : Operand) (v : V) (s : St) (dst : Option Nat) (K : St → Prop) : Prop :=
  match a with
  | .ptr id off => match s.hp[id]? with
    | some (.var cs) => (kindD P t).isSome = true ∧ v.flat.length = sizeD P t ∧ off + sizeD P t ≤ cs.length ∧ v.known = true ∧
        K (({ s with hp := s.hp.set id (IObj.var (cs.take off ++ v.flat ++ cs.drop (off + sizeD P t))), tm := s.at_ x v.cp } : St).put dst .un)
    | _ => False
  | .aptr id z i j => match s.hp[id]?, v.d? with
    | some (.arr z' xs), some y => match xs[i]? with
      | some x => (kindD P t).isSome = true ∧ z = z' ∧ y.flat.length = sizeD P t ∧ j + sizeD P t ≤ z ∧
          K ({ s with hp := s.hp.set id (IObj.arr z' (xs.set i (if j = 0 ∧ sizeD P t = z then y else x.setAt j y.flat))) }.put dst .un)
      | none => False
    | _, _ => False
  | _ => False

def fillD (place : Nat → Option (Nat × Nat)) (cells : List V) : List (Nat × V) → Option (List V)
  | [] => some cells
  | (i, v) :: r => match place i with
    | some (off, size) =>
      if v.known = true ∧ v.cp.flat.length = size ∧ off + size ≤ cells.length then fillD place (cells.take off ++ v.cp.flat ++ cells.drop (off + size)) r else none
    | none => none

/-- the elements of a literal slice -/
def fillEl (size : Nat) (xs : List D) : List (Nat × V) → Option (List D)
  | [] => some xs
  | (i, v) :: r => match v.d? with
    | some d => if d.flat.length = size ∧ i < xs.length then fillEl size (xs.set i d) r else none
    | none => none

def sliceIx (P : Program) (s : St) (d : Int) : Option Operand → Option Int
  | none => some d
  | some o => match ev P 0 s o with
    | .d (.int _ n) => some n
    | _ => none

/-- is it a bound of nothing? -/
def isZero : Option Operand → Bool
  | some (.const (.int _ 0)) => true
  | _ => false

def sliceK (P : Program) (t : TypeId) (x : V) (s : St) (lo hi mx : Option Operand) (K : V → Prop) : Prop :=
  match x.cp with
  | .d (.sl m0 z xs) => match sliceIx P s 0 lo, sliceIx P s xs.length hi, sliceIx P s xs.length mx with
    | some l, some h, some m => (elI P t).map (·.1) = some z ∧ (hi.isSome || mx.isNone) = true ∧ 0 ≤ l ∧ l ≤ h ∧ h ≤ m ∧ m ≤ xs.length ∧
        K (if isZero mx then .nil z else if mx.isSome && !m0 then (if h = m then .own z ((xs.take h.toNat).drop l.toNat) else .d (.sl m0 z ((xs.take h.toNat).drop l.toNat))) else .d (.sl m0 z ((xs.take h.toNat).drop l.toNat)))
    | _, _, _ => False
  | .nil z => match sliceIx P s 0 lo, sliceIx P s 0 hi, sliceIx P s 0 mx with
    | some l, some h, some m => (elI P t).map (·.1) = some z ∧ (hi.isSome || mx.isNone) = true ∧ l = 0 ∧ h = 0 ∧ m = 0 ∧ K (.nil z)
    | _, _, _ => False
  | .d (.str b) => match sliceIx P s 0 lo, sliceIx P s b.size hi, mx with
    | some l, some h, none => P.underlying t = some .string ∧ 0 ≤ l ∧ l ≤ h ∧ h ≤ b.size ∧ K (.d (.str (b.extract l.toNat h.toNat)))
    | _, _, _ => False
  | .ref id z off len cap => match sliceIx P s 0 lo, sliceIx P s len hi, sliceIx P s cap mx with
    | some l, some h, some m => (elI P t).map (·.1) = some z ∧ (hi.isSome || mx.isNone) = true ∧ 0 ≤ l ∧ l ≤ h ∧ h ≤ m ∧ m ≤ cap ∧
        K (if isZero mx then .nil z else .ref id z (off + l.toNat) (h.toNat - l.toNat) (m.toNat - l.toNat))
    | _, _, _ => False
  | _ => False

/-! ### Maps -/
/-- cell by cell the same -/
def sameL : List D → List D → Bool
  | [], [] => true
  | .int k a :: xs, .int j b :: ys => decide (a = b) && (decide (k = j) && sameL xs ys)
  | _, _ => false

/-- are two keys of a type the same? -/
def keyEq (P : Program) (kt : TypeId) (k k' : D) : Option Bool :=
  match P.underlying kt, k, k' with
  | some (.int c), .int a m, .int b n => if a = c ∧ b = c then some (decide (m = n)) else none
  | some (.struct _), .agg xs, .agg ys => match (leafOffs P 8 kt).bind (eqAt xs ys) with
    | some b => if b = sameL xs ys then some b else none
    | none => none
  | _, _, _ => none

/-- a key that may be looked up -/
def keyOK (P : Program) (kt : TypeId) (k : D) : Bool :=
  match P.underlying kt, k with
  | some (.int c), .int a _ => a == c
  | some (.struct fs), .agg xs => fs.toList.all fun f => (match P.underlying f.type, xs[f.offset]? with
    | some (.int c), some (.int a _) => a == c
    | _, _ => false)
  | _, _ => false

def mapTy (P : Program) (t : TypeId) : Option (TypeId × TypeId) := match P.underlying t with
  | some (.map k e) => some (k, e)
  | _ => none

/-- where a key stands, and its value -/
def mfind (P : Program) (kt : TypeId) (k : D) : List (Nat × D × V) → Nat → Option (Option (Nat × V))
  | [], _ => some none
  | (_, k', v) :: r, i => match keyEq P kt k k' with
    | some true => some (some (i, v))
    | some false => mfind P kt k r (i + 1)
    | none => none

/-- the zero value of a type -/
def zeroV (P : Program) (t : TypeId) : Option V := match kindD P t with
  | some true => match zeroCs P t, (P.info? t).bind (·.zero) with
    | some cs, some (.agg c) => if cs.length = c.size then some (.d (.agg cs)) else none
    | _, _ => none
  | some false => match (P.info? t).bind (·.zero) with
    | some v => some (constV P t v)
    | none => none
  | none => none

def lookupK (P : Program) (t : TypeId) (x k : V) (ok : Bool) (s : St) (K : V → Prop) : Prop :=
  match x, k, mapTy P t with
  | .map id, .d k, some (kt, et) => match s.hp[id]? with
    | some (.map _ es) => keyOK P kt k = true ∧ (match mfind P kt k es 0 with
      | some (some (_, v)) => K (if ok then .tup [v.cp, .d (.bool true)] else v.cp)
      | some none => (match zeroV P et with
        | some z => K (if ok then .tup [z, .d (.bool false)] else z)
        | none => False)
      | none => False)
    | _ => False
  | _, _, _ => False

def mapUpdateK (P : Program) (t : TypeId) (x k v : V) (s : St) (dst : Option Nat) (K : St → Prop) : Prop :=
  match x, k, mapTy P t with
  | .map id, .d k, some (kt, _) => match s.hp[id]? with
    | some (.map c es) => keyOK P kt k = true ∧ (match mfind P kt k es 0 with
      | some (some (i, _)) => K (({ s with hp := s.hp.set id (.map c (es.modify i fun e => (e.1, e.2.1, v.cp))) } : St).put dst .un)
      | some none => K (({ s with hp := s.hp.set id (.map (c + 1) (es ++ [(c, k, v.cp)])) } : St).put dst .un)
      | none => False)
    | _ => False
  | _, _, _ => False

def nextK (s : St) (x : V) (dst : Option Nat) (K : St → Prop) : Prop :=
  match x with
  | .ptr id 0 => match s.hp[id]? with
    | some (.iter m since seen last) => match s.hp[m]? with
      | some (.map c es) => (seen = [] ∨ es = [] ∨ es.any (fun e => decide (e.1 < last)) = true) ∧
          ((es.filter fun e => !seen.contains e.1 && decide (e.1 < since)) = [] → K (s.put dst (.tup [.d (.bool false)]))) ∧
          ∀ e ∈ es, seen.contains e.1 = false → K (({ s with hp := s.hp.set id (.iter m since (seen ++ [e.1]) c) } : St).put dst (.tup [.d (.bool true), .d e.2.1, e.2.2.cp]))
      | _ => False
    | _ => False
  | _ => False

/-- a yield, as the loop's body takes it -/
def RoundK (P : Program) (id : Nat) (args : List V) (hp : List IObj) (K : V → List IObj → Prop) : Prop :=
  ∀ Φ B au w cargs b, Inv (Ctx.at_ Φ B au w) Φ B au ⟨args, hp, hp.length⟩ ⟨cargs, []⟩ w → B[id]? = some b →
    ∃ fn tmps asg body, (Instr.yield b cargs).run P w = .ok (.round b fn tmps asg body) w ∧
      RoundIn Fence.wide 0 P b fn tmps asg body w fun e w' => ∃ v r hp', e = .returned v ∧ K r hp' ∧ Rel (Ctx.at_ Φ B au w) ⟨[r], hp', hp.length⟩ ⟨#[v], []⟩ w'

def hasBody (P : Program) (f : FuncId) : Bool := match P.funcs[f]? with
  | some fn => fn.body.isSome && fn.name != "runtime.NumGoroutine"
  | none => false

/-- a value that owns nothing -/
def V.bare : V → Bool
  | .own _ _ | .tup _ => false
  | _ => true

def argVs (P : Program) (s : St) (c : Call) : List V := (List.zip c.args.toList (c.argTypes.toList ++ List.replicate c.args.size 0)).map fun (x, t) => (ev P t s x).cp

/-- what may be appended to in the way of values -/
def appBase : V → Option (Nat × List D)
  | .own z xs => some (z, xs)
  | .nil z => some (z, [])
  | _ => none

/-- The places of a call's data arguments keep what they own; what a call hands back goes to its place. -/
def callK0 (P : Program) (c : Call) (s : St) (dst : Option Nat) (K : St → Prop) : Prop :=
  match c.callee with
  | .value g => match ev P 0 s g with
    | .fn (.func f) caps => (argVs P s c ++ caps).all V.bare = true ∧ (bif hasBody P f then CallK P f (argVs P s c ++ caps) s.hp fun r hp' => K ({ s with hp := hp' }.put dst r)
        else CallE P f (argVs P s c ++ caps) s.hp fun r hp' => K ({ s with hp := hp' }.put dst r))
    | .yld id => (argVs P s c).all V.bare = true ∧ RoundK P id (argVs P s c) s.hp fun r hp' => K ({ s with hp := hp' }.put dst r)
    | _ => False
  | .builtin .len => match argVs P s c with
    | [.d (.sl _ _ xs)] => (c.argTypes[0]?).isSome = true ∧ (elemTy P (c.argTypes.getD 0 0)).isSome = true ∧ K (s.put dst (.d (.int .i64 xs.length)))
    | [.nil _] => (c.argTypes[0]?).isSome = true ∧ (elemTy P (c.argTypes.getD 0 0)).isSome = true ∧ K (s.put dst (.d (.int .i64 0)))
    | [.d (.str b)] => (c.argTypes[0]?).isSome = true ∧ P.underlying (c.argTypes.getD 0 0) = some .string ∧ K (s.put dst (.d (.int .i64 b.size)))
    | [.ref _ _ _ n _] => (c.argTypes[0]?).isSome = true ∧ (elemTy P (c.argTypes.getD 0 0)).isSome = true ∧ K (s.put dst (.d (.int .i64 n)))
    | [.map id] => (match s.hp[id]? with
      | some (.map _ es) => (c.argTypes[0]?).isSome = true ∧ (mapTy P (c.argTypes.getD 0 0)).isSome = true ∧ K (s.put dst (.d (.int .i64 es.length)))
      | _ => False)
    | _ => False
  | .builtin .append => match c.args.toList with
    | [x, y] => match appBase (ev P (c.argTypes.getD 0 0) s x), (ev P (c.argTypes.getD 1 0) s y).cp.d? with
      | some (z, xs), some (.sl _ z' ys) => match elI P (c.argTypes.getD 0 0) with
        | some (e, by_) => dst.isSome = true ∧ c.argTypes.size = 2 ∧ z = e ∧ z' = z ∧ 0 < z ∧ (elemTy P (c.argTypes.getD 1 0)).isSome = true ∧ 0 < by_ ∧ (xs.length + ys.length) * by_ ≤ 140737488355328 ∧
            K (({ s with tm := s.at_ x (ev P (c.argTypes.getD 0 0) s x).cp } : St).put dst (.own z (xs ++ ys)))
        | none => False
      | _, _ => False
    | _ => False
  | .builtin .min => match argVs P s c with
    | [.d (.int k a), .d (.int _ b)] => K (s.put dst (.d (.int k (if b < a then b else a))))
    | _ => False
  | .builtin .max => match argVs P s c with
    | [.d (.int k a), .d (.int _ b)] => K (s.put dst (.d (.int k (if a < b then b else a))))
    | _ => False
  | _ => False

/-- the elements that a slice shows -/
def elemsOf (s : St) : V → Option (Nat × List D)
  | .d (.sl _ z xs) => some (z, xs)
  | .own z xs => some (z, xs)
  | .nil z => some (z, [])
  | .ref id z off len cap => match s.hp[id]? with
    | some (.arr z' xs) => if z' = z ∧ len ≤ cap ∧ off + cap ≤ xs.length then some (z, (xs.drop off).take len) else none
    | _ => none
  | _ => none

/-- the zero value of a slice type's elements -/
def zeroEl (P : Program) (t : TypeId) : Option D := (elemTy P t).bind fun e => (zeroCs P e).bind (ofCells P e)

/-- what an append appends: the elements of a slice, or so many zeros -/
def appElems (P : Program) (t0 t1 : TypeId) (s : St) (y : V) : Option (Nat × List D) :=
  match P.underlying t1, y with
  | some (.slice _), y => elemsOf s y
  | some (.int .i64), .d (.int .i64 n) => if 0 ≤ n ∧ n * ((elI P t0).map (·.2)).getD 0 ≤ 140737488355328 ∧ n ≤ 140737488355328 then (zeroEl P t0).map fun zd => (zd.flat.length, List.replicate n.toNat zd) else none
  | _, _ => none

def appendRefK (P : Program) (t0 t1 : TypeId) (x y : V) (s : St) (dst : Option Nat) (K : St → Prop) : Prop :=
  match x, appElems P t0 t1 s y, elI P t0, zeroEl P t0 with
  | .ref id z off len cap, some (z2, ys), some (e, by_), some zd => match s.hp[id]? with
    | some (.arr z' xs) => z' = z ∧ z2 = z ∧ e = z ∧ 0 < z ∧ 0 < by_ ∧ zd.flat.length = z ∧ len ≤ cap ∧ off + cap ≤ xs.length ∧ (len + ys.length) * by_ ≤ 140737488355328 ∧
        (len + ys.length ≤ cap → K (({ s with hp := s.hp.set id (.arr z (xs.take (off + len) ++ ys ++ xs.drop (off + len + ys.length))) } : St).put dst (.ref id z off (len + ys.length) cap))) ∧
        (cap < len + ys.length → ∀ cap', len + ys.length ≤ cap' → K (({ s with hp := s.hp ++ [.arr z ((xs.drop off).take len ++ ys ++ List.replicate (cap' - (len + ys.length)) zd)] } : St).put dst (.ref s.hp.length z 0 (len + ys.length) cap')))
    | _ => False
  | _, _, _, _ => False

/-- append to nothing, where what comes is to be changed -/
def appendNewK (P : Program) (t0 t1 : TypeId) (x y : V) (s : St) (dst : Option Nat) (K : St → Prop) : Prop :=
  match x, appElems P t0 t1 s y, elI P t0, zeroEl P t0 with
  | .nil z, some (z2, ys), some (e, by_), some zd => z2 = z ∧ e = z ∧ 0 < z ∧ 0 < by_ ∧ zd.flat.length = z ∧ ys.length * by_ ≤ 140737488355328 ∧
        ∀ cap', ys.length ≤ cap' → (ys = [] → cap' = 0) → K (({ s with hp := s.hp ++ [.arr z (ys ++ List.replicate (cap' - ys.length) zd)] } : St).put dst (.ref s.hp.length z 0 ys.length cap'))
  | _, _, _, _ => False

def copyK (P : Program) (t0 t1 : TypeId) (x y : V) (s : St) (dst : Option Nat) (K : St → Prop) : Prop :=
  match x, elemsOf s y, elI P t0 with
  | .ref id z off len cap, some (z2, ys), some (e, _) => match s.hp[id]? with
    | some (.arr z' xs) => z' = z ∧ z2 = z ∧ e = z ∧ 0 < z ∧ len ≤ cap ∧ off + cap ≤ xs.length ∧ (elemTy P t1).isSome = true ∧
        K (({ s with hp := s.hp.set id (.arr z (xs.take off ++ ys.take len ++ xs.drop (off + (ys.take len).length))) } : St).put dst (.d (.int .i64 ((ys.take len).length : Nat))))
    | _ => False
  | _, _, _ => False

def clearK (P : Program) (t0 : TypeId) (x : V) (s : St) (dst : Option Nat) (K : St → Prop) : Prop :=
  match x, elI P t0, zeroEl P t0 with
  | .ref id z off len cap, some (e, _), some zd => match s.hp[id]? with
    | some (.arr z' xs) => z' = z ∧ e = z ∧ 0 < z ∧ zd.flat.length = z ∧ len ≤ cap ∧ off + cap ≤ xs.length ∧
        K (({ s with hp := s.hp.set id (.arr z (xs.take off ++ List.replicate len zd ++ xs.drop (off + len))) } : St).put dst .un)
    | _ => False
  | _, _, _ => False

def deleteK (P : Program) (t0 : TypeId) (x k : V) (s : St) (dst : Option Nat) (K : St → Prop) : Prop :=
  match x, k, mapTy P t0 with
  | .map id, .d k, some (kt, _) => match s.hp[id]? with
    | some (.map c es) => keyOK P kt k = true ∧ (match mfind P kt k es 0 with
      | some (some (i, _)) => K (({ s with hp := s.hp.set id (.map c (es.eraseIdx i)) } : St).put dst .un)
      | some none => K (s.put dst .un)
      | none => False)
    | _ => False
  | _, _, _ => False

def callK (P : Program) (c : Call) (s : St) (dst : Option Nat) (K : St → Prop) : Prop :=
  match c.callee, c.args.toList, c.argTypes.toList with
  | .builtin .append, [x, y], [t0, t1] => match ev P t0 s x with
    | .ref id z off len cap => appendRefK P t0 t1 (.ref id z off len cap) (ev P t1 s y) s dst K
    | _ => callK0 P c s dst K
  | .builtin .copy, [x, y], [t0, t1] => copyK P t0 t1 (ev P t0 s x) (ev P t1 s y) s dst K
  | .builtin .clear, [x], [t0] => clearK P t0 (ev P t0 s x) s dst K
  | .builtin .cap, [x], [t0] => match ev P t0 s x with
    | .ref _ _ _ _ cap => (elemTy P t0).isSome = true ∧ K (s.put dst (.d (.int .i64 cap)))
    | .nil _ => (elemTy P t0).isSome = true ∧ K (s.put dst (.d (.int .i64 0)))
    | _ => False
  | .builtin .delete, [x, k], [t0, t1] => deleteK P t0 (ev P t0 s x) (ev P t1 s k) s dst K
  | _, _, _ => callK0 P c s dst K

def stepK (P : Program) (o : Oper) (r : List Oper) (s : St) (K : St → Prop) : Prop :=
  match o.op with
  | .move x => K (mv s x (ev P o.type s x) o.dst (takes o.dst r || (ev P o.type s x).isTup))
  | .assign x => K (mv s x (ev P o.type s x) o.dst true)
  | .pick c a b => match ev P 0 s c with
    | .d (.bool t) => (t = true → K (s.put o.dst (ev P o.type s a).cp)) ∧ (t = false → K (s.put o.dst (ev P o.type s b).cp))
    | _ => False
  | .alloc t => match zeroVs P t with
    | some cs => K ({ s with hp := s.hp ++ [IObj.var cs] }.put o.dst (.ptr s.hp.length 0))
    | none => False
  | .box t x => (ev P t s x).known = true ∧ K ({ s with hp := s.hp ++ [IObj.var (ev P t s x).cp.flat] }.put o.dst (.ptr s.hp.length 0))
  | .build t ps => match placesD P t, zeroCs P t with
    | some pl, some z => match fillD (fun i => pl[i]?) (z.map V.d) (ps.toList.map fun p => (p.1, ev P (((fieldOff P t p.1).map (·.2)).getD 0) s p.2)) with
      | some cs => z.length = ((P.info? t).bind (·.zero)).elim 0 (·.cells.size) ∧ K (s.put o.dst (mkAgg cs))
      | none => False
    | _, _ => False
  | .buildSlice t n ps => match elemTy P t, elI P t with
    | some e, some (z, _) => match (zeroCs P e).bind (ofCells P e) with
      | some zd => match fillEl z (List.replicate n zd) (ps.toList.map fun p => (p.1, ev P e s p.2)) with
        | some xs => o.dst.isSome = true ∧ n * z ≤ 16777216 ∧ zd.flat.length = z ∧ 0 < z ∧ K (s.put o.dst (.own z xs))
        | none => False
      | none => False
    | _, _ => False
  | .makeSlice t l c => match elemTy P t, elI P t, ev P 0 s l, ev P 0 s c with
    | some e, some (z, by_), .d (.int _ n), .d (.int _ m) => match (zeroCs P e).bind (ofCells P e) with
      | some zd => n ≤ m ∧ 0 ≤ n ∧ by_ * m ≤ 281474976710656 ∧ m ≤ 9223372036854775807 ∧ zd.flat.length = z ∧ 0 < z ∧
          K ({ s with hp := s.hp ++ [IObj.arr z (List.replicate m.toNat zd)] }.put o.dst (.ref s.hp.length z 0 n.toNat m.toNat))
      | none => False
    | _, _, _, _ => False
  | .load t a => loadK P t (ev P 0 s a) s o.dst (takes o.dst r) K
  | .store t a x => storeK P t (ev P 0 s a) x (ev P t s x) s o.dst K
  | .binOp op t x y _ => bif isNilC y then nilK P op t (ev P t s x) fun v => K (s.put o.dst v) else binK P op t (ev P t s x) (ev P t s y) fun v => K (s.put o.dst v)
  | .unOp op _ x => match op, ev P 0 s x with
    | .not, .d (.bool b) => K (s.put o.dst (.d (.bool !b)))
    | .neg, .d (.int k n) => K (s.put o.dst (.d (.int k (k.wrap (0 - n)))))
    | _, _ => False
  | .convert src dst x => match ev P src s x with
    | .d (.int _ n) => match P.underlying dst with
      | some (.int k) => (P.underlying src).isSome = true ∧ K (s.put o.dst (.d (.int k (k.wrap n))))
      | _ => False
    | .d (.str b) => P.underlying dst = some .string ∧ P.underlying src = some .string ∧ K (s.put o.dst (.d (.str b)))
    | _ => False
  | .makeFunc f fs caps => fs = #[] ∧ K (s.put o.dst (.fn f (caps.toList.map fun x => (ev P 0 s x).cp)))
  | .slice t x lo hi mx => sliceK P t (ev P t s x) s lo hi mx fun v => K (s.put o.dst v)
  | .fieldAddr t x f => match ev P 0 s x, fieldOff P t f with
    | .ptr id off, some (n, _) => K (s.put o.dst (.ptr id (off + n)))
    | .lptr l z xs i j, some (n, _) => K (s.put o.dst (.lptr l z xs i (j + n)))
    | .aptr id z i j, some (n, _) => K (s.put o.dst (.aptr id z i (j + n)))
    | _, _ => False
  | .field t x f => match ev P t s x, fieldOff P t f with
    | .d d, some (n, ft) => match partD P ft d n with
      | some y => (match d with | .agg _ => True | _ => False) ∧ K (s.put o.dst (.d y))
      | none => False
    | .st cs, some (n, ft) => match partV P ft cs n with
      | some y => K (s.put o.dst y)
      | none => False
    | _, _ => False
  | .indexAddr t x i => match (ev P t s x).cp, ev P 0 s i with
    | .d (.sl l z xs), .d (.int _ n) => (elI P t).map (·.1) = some z ∧ 0 ≤ n ∧ n < xs.length ∧ K (s.put o.dst (.lptr l z xs n.toNat 0))
    | .ref id z off len _, .d (.int _ n) => (elI P t).map (·.1) = some z ∧ 0 ≤ n ∧ n < len ∧ K (s.put o.dst (match s.hp[id]? with
      | some (.var _) => .ptr id ((off + n.toNat) * z)
      | _ => .aptr id z (off + n.toNat) 0))
    | .ptr id off, .d (.int _ n) => match arrI P t with
      | some (k, z) => 0 ≤ n ∧ n < k ∧ K (s.put o.dst (.ptr id (off + n.toNat * z)))
      | none => False
    | _, _ => False
  | .index t x i => match ev P t s x, ev P 0 s i with
    | .d (.str b), .d (.int _ n) => P.underlying t = some .string ∧ 0 ≤ n ∧ n < b.size ∧ K (s.put o.dst (.d (.int .u8 ((b[n.toNat]!).toNat))))
    | _, _ => False
  | .extract x ix => match ev P 0 s x with
    | .tup vs => match vs[ix]? with
      | some v => v.isTup = false ∧ K (({ s with tm := s.at_ x (.tup (vs.set ix v.cp)) } : St).put o.dst v)
      | none => False
    | _ => False
  | .call c => callK P c s o.dst K
  | .makeMap _ none => K ({ s with hp := s.hp ++ [IObj.map 0 []] }.put o.dst (.map s.hp.length))
  | .lookup t x k ok => lookupK P t (ev P t s x) (ev P ((mapTy P t).map (·.1) |>.getD 0) s k) ok s fun v => K (s.put o.dst v)
  | .mapUpdate t x k v => (ev P ((mapTy P t).map (·.2) |>.getD 0) s v).known = true ∧ mapUpdateK P t (ev P t s x) (ev P ((mapTy P t).map (·.1) |>.getD 0) s k) (ev P ((mapTy P t).map (·.2) |>.getD 0) s v) s o.dst K
  | .range t x => match ev P t s x with
    | .map id => (match s.hp[id]? with
      | some (.map c _) => (mapTy P t).isSome = true ∧ K ({ s with hp := s.hp ++ [IObj.iter id c [] c] }.put o.dst (.ptr s.hp.length 0))
      | _ => False)
    | _ => False
  | .next x false => nextK s (ev P 0 s x) o.dst K
  | _ => False

def opsK (P : Program) (all : List Oper) : List Oper → St → (St → Prop) → Prop
  | [], s, K => K s
  | o :: r, s, K => match o.guard with
    | none => stepK P o r s fun s' => opsK P all r s' K
    | some (j, want) => match (all[j]?).bind (·.dst) with
      | some t => match s.tm[t]? with
        | some (.d (.bool b)) =>
          (b = want → stepK P o r { s with tm := s.tm.set t (.d (.bool want)) } fun s' => opsK P all r s' K) ∧
          (b = !want → opsK P all r ({ s with tm := s.tm.set t (.d (.bool !want)) }.put o.dst (.tup [])) K)
        | some (.tup []) => opsK P all r (s.put o.dst (.tup [])) K
        | _ => False
      | none => False

def inBlockK (id : Nat) (Q : Ex → St → Prop) : Ex → St → Prop
  | .exit i, s => if i = id then Q .normal s else Q (.exit i) s
  | e, s => Q e s

def thenK (K : St → Prop) (Q : Ex → St → Prop) : Ex → St → Prop
  | .normal, s => K s
  | e, s => Q e s

def wpK (P : Program) : Code → (Ex → St → Prop) → St → Prop
  | .skip, Q, s => Q .normal s
  | .label _, Q, s => Q .normal s
  | .ret, Q, s => Q .ret s
  | .exit id, Q, s => Q (.exit id) s
  | .goto l, Q, s => Q (.goto l) s
  | .seq a b, Q, s => wpK P a (thenK (wpK P b Q) Q) s
  | .region _ ops false, Q, s => opsK P ops.toList ops.toList s (Q .normal)
  | .cond c a b, Q, s => match ev P 0 s c with
    | .d (.bool t) => (t = true → wpK P a Q s) ∧ (t = false → wpK P b Q s)
    | _ => False
  | .block id c, Q, s => wpK P c (inBlockK id Q) s
  | c, Q, s => SemC P c Q s

end Go.Idl
end
section
namespace Go.Idl

theorem cell_of {w : World} {b o : Nat} {c : Array Value} {el : TypeId} {fr : Nat × Nat} (h : w.heap[b]? = some (.cells c el fr)) : w.cell? ⟨b, o, none⟩ = c[o]? := by
  unfold World.cell?; rw [h]; simp

theorem frozen_of {w : World} {b o : Nat} {c : Array Value} {el : TypeId} (h : w.heap[b]? = some (.cells c el (0, 0))) : w.frozen? ⟨b, o, none⟩ = false := by
  unfold World.frozen?; rw [h]; simp

theorem lt_of_heap {w : World} {b : Nat} {o : Obj} (h : w.heap[b]? = some o) : b < w.heap.size := (Array.getElem?_eq_some_iff.1 h).1

theorem TailOK.mono {au au' : Auth} {w w' : World} {h h' : Holder} {z : Nat} {v : Value} (ht : TailOK au w h z v)
    (ha : ∀ b st, au b = some (h, st) → au' b = some (h', st) ∧ w'.heap[b]? = w.heap[b]?) : TailOK au' w' h' z v := by
  obtain ⟨a, len, cap, rfl, ht⟩ := ht
  refine ⟨a, len, cap, rfl, ht.imp id ?_⟩
  rintro ⟨b, o, c, el, rfl, h1, h2, h3⟩
  obtain ⟨e1, e2⟩ := ha _ _ h1
  exact ⟨b, o, c, el, rfl, e1, e2.trans h2, h3⟩

theorem OwnV.mono {au au' : Auth} {w w' : World} {h h' : Nat → Holder} {V : V} {v : Value} (ht : OwnV au w h V v)
    (ha : ∀ j b st, au b = some (h j, st) → au' b = some (h' j, st) ∧ w'.heap[b]? = w.heap[b]?) : OwnV au' w' h' V v := by
  cases V <;> simp only [OwnV] at ht ⊢
  · exact ht.mono (ha 0)
  · rintro j z xs cs c rfl h1 h2
    exact (ht j z xs cs c rfl h1 h2).mono (ha j)

theorem RepO.mono {Φ Φ' : CM} {B B' : List Nat} {au au' : Auth} {w w' : World} {id b : Nat} {o : IObj} (h : RepO Φ B au w id b o)
    (hΦ : Φ.le Φ') (hB : ∀ (i b : Nat), B[i]? = some b → B'[i]? = some b) (hb : au b = some (.obj id, 0) → au' b = some (.obj id, 0) ∧ w'.heap[b]? = w.heap[b]?)
    (hc : ∀ j b st, au b = some (.cell id j, st) → au' b = some (.cell id j, st) ∧ w'.heap[b]? = w.heap[b]?) : RepO Φ' B' au' w' id b o := by
  cases o with
  | free => trivial
  | var cs =>
    obtain ⟨h1, c, el, h2, h3, h4⟩ := h
    obtain ⟨e1, e2⟩ := hb h1
    refine ⟨e1, c, el, e2.trans h2, h3, fun j V hj => ?_⟩
    obtain ⟨v, g1, g2, g3, g4⟩ := h4 j V hj
    exact ⟨v, g1, g2, g3.mono hΦ hB, g4.mono fun _ => hc j⟩
  | arr z xs =>
    intro hne
    obtain ⟨h1, c, el, h2, h3, h4⟩ := h hne
    obtain ⟨e1, e2⟩ := hb h1
    refine ⟨e1, c, el, e2.trans h2, h3, fun i x hx => ?_⟩
    obtain ⟨g1, g2⟩ := h4 i x hx
    refine ⟨g1, fun j d hd => ?_⟩
    obtain ⟨v, k1, k2, k3⟩ := g2 j d hd
    exact ⟨v, k1, k2, k3.mono hΦ⟩
  | map clock es =>
    obtain ⟨h1, ms, h2, h3, h4⟩ := h
    obtain ⟨e1, e2⟩ := hb h1
    refine ⟨e1, ms, e2.trans h2, h3, fun i n k V hi => ?_⟩
    obtain ⟨e, g1, g2, g3, g4⟩ := h4 i n k V hi
    exact ⟨e, g1, g2, g3.mono hΦ, g4.mono hΦ hB⟩
  | iter m since seen last =>
    obtain ⟨h1, bm, h2, h3⟩ := h
    obtain ⟨e1, e2⟩ := hb h1
    exact ⟨e1, bm, hB _ _ h2, e2.trans h3⟩
  | loop _ _ _ _ _ _ =>
    obtain ⟨h1, fn, tmps, dr, h2, h3, h4⟩ := h
    obtain ⟨e1, e2⟩ := hb h1
    exact ⟨e1, fn, tmps, dr, e2.trans h2, h3.mono hΦ hB, h4⟩

theorem RepS.cp {Φ : CM} {B : List Nat} {V : V} {v : Value} (h : RepS Φ B V v) : RepS Φ B V.cp v := by
  cases h with
  | own x => exact .d x
  | tup e =>
    obtain ⟨hl, hg⟩ := e.get
    refine .tup (RepSL.of (by simpa using hl) fun j d c hj hc => ?_)
    simp only [List.getElem?_map, Option.map_eq_some_iff] at hj
    obtain ⟨d', hd', rfl⟩ := hj
    have := hg j d' c hd' hc
    cases this with
    | own x => exact .d x
    | nil => exact .nil
    | st e ok q => exact .st e ok q
    | un => exact .un _
    | d x => exact .d x
    | ptr e => exact .ptr e
    | aptr e => exact .aptr e
    | lptr e => exact .lptr e
    | ref e l q => exact .ref e l q
    | ref0 => exact .ref0
    | fn e => exact .fn e
    | yld e => exact .yld e
    | tup e => exact .tup e
    | map e => exact .map e
  | un => exact .un _
  | nil => exact .nil
  | st e ok q => exact .st e ok q
  | d x => exact .d x
  | ptr e => exact .ptr e
  | aptr e => exact .aptr e
  | lptr e => exact .lptr e
  | ref e l q => exact .ref e l q
  | ref0 => exact .ref0
  | fn e => exact .fn e
  | yld e => exact .yld e
  | map e => exact .map e

theorem OwnV_cp {au : Auth} {w : World} {h : Nat → Holder} {V : V} {v : Value} : OwnV au w h V.cp v := by
  cases V <;> simp only [V.cp, OwnV]
  · rintro j z xs cs c _ h1
    simp only [List.getElem?_map, Option.map_eq_some_iff] at h1
    obtain ⟨d', _, h2⟩ := h1
    cases d' <;> simp at h2

section
variable {κ : Ctx} {Φ : CM} {B : List Nat} {au : Auth} {s : St} {a : Act} {w : World}

theorem tm_get (h : Inv κ Φ B au s a w) (i : Nat) : RepS Φ B (s.tm.getD i .un) (a.tmps.getD i undef) ∧ OwnV au w (.slot i) (s.tm.getD i .un) (a.tmps.getD i undef) := by
  by_cases hi : i < s.tm.length
  · have hj : i < a.tmps.size := by rw [← h.tl]; exact hi
    have h1 : s.tm[i]? = some (s.tm.getD i .un) := by simp [List.getD, hi]
    have h2 : a.tmps[i]? = some (a.tmps.getD i undef) := by simp [Array.getD, hj]
    exact h.tm i _ _ h1 h2
  · have : s.tm.getD i .un = .un := by simp [List.getD, List.getElem?_eq_none (Nat.le_of_not_lt hi)]
    rw [this]
    exact ⟨.un _, trivial⟩

/-- A slot is given a value, ideal and real. -/
theorem Inv.slot (h : Inv κ Φ B au s a w) (d : Nat) {V : V} {v : Value} (hS : RepS Φ B V v) (hO : OwnV au w (.slot d) V v) :
    Inv κ Φ B au { s with tm := s.tm.set d V } { a with tmps := a.tmps.setIfInBounds d v } w := by
  refine { h with tl := by simpa using h.tl, tm := fun i V' v' hV hv => ?_ }
  simp only [List.getElem?_set] at hV
  simp only [Array.getElem?_setIfInBounds] at hv
  by_cases e : d = i
  · subst e
    by_cases hl : d < s.tm.length
    · have hl' : d < a.tmps.size := by rw [← h.tl]; exact hl
      simp [hl] at hV; simp [hl'] at hv; subst hV; subst hv; exact ⟨hS, hO⟩
    · simp [hl] at hV
  · simp [e] at hV hv; exact h.tm i V' v' hV hv

/-- A slot's ideal value is exchanged, the real one stays. -/
theorem Inv.islot (h : Inv κ Φ B au s a w) (d : Nat) {V : V} (hS : ∀ V' v, s.tm[d]? = some V' → a.tmps[d]? = some v → RepS Φ B V v ∧ OwnV au w (.slot d) V v) :
    Inv κ Φ B au { s with tm := s.tm.set d V } a w := by
  refine { h with tl := by simpa using h.tl, tm := fun i V' v' hV hv => ?_ }
  simp only [List.getElem?_set] at hV
  by_cases e : d = i
  · subst e
    by_cases hl : d < s.tm.length
    · simp [hl] at hV; subst hV; exact hS _ v' (List.getElem?_eq_getElem hl) hv
    · simp [hl] at hV
  · simp [e] at hV; exact h.tm i V' v' hV hv

theorem Inv.put (h : Inv κ Φ B au s a w) (dst : Option Nat) {V : V} {v : Value} (hS : RepS Φ B V v) (hO : ∀ d, dst = some d → OwnV au w (.slot d) V v) :
    Inv κ Φ B au (s.put dst V) (a.put dst v) w := by
  cases dst with
  | none => exact h
  | some d => exact h.slot d hS (hO d rfl)

theorem Inv.strip (h : Inv κ Φ B au s a w) (i : Nat) : Inv κ Φ B au { s with tm := s.tm.set i (s.tm.getD i .un).cp } a w := by
  refine h.islot i fun V' v hV hv => ?_
  have e : s.tm.getD i .un = V' := by simp [List.getD, hV]
  rw [e]
  exact ⟨(h.tm i V' v hV hv).1.cp, OwnV_cp⟩

theorem Rel.put_plain {V : V} {v : Value} (h : Inv κ Φ B au s a w) (dst : Option Nat) (hS : RepS Φ B V v) (hO : ∀ h, OwnV au w h V v) : Rel κ (s.put dst V) (a.put dst v) w :=
  ⟨Φ, B, au, h.put dst hS fun _ _ => hO _⟩

/-- What a slot owns goes over to another place. -/
def moveAu (au : Auth) (i : Nat) (h' : Nat → Holder) : Auth := fun b => match au b with
  | some (.slot k j, st) => if k = i then some (h' j, st) else some (.slot k j, st)
  | x => x

theorem moveAu_other {i : Nat} {h' : Nat → Holder} {b st : Nat} {h : Holder} (hh : au b = some (h, st)) (hn : ∀ j, h ≠ .slot i j) : moveAu au i h' b = some (h, st) := by
  unfold moveAu; rw [hh]
  cases h with
  | slot k j => simp only; rw [if_neg]; rintro rfl; exact hn j rfl
  | cell _ _ => rfl
  | obj _ => rfl

theorem moveAu_slot {i : Nat} {h' : Nat → Holder} {b st j : Nat} (hh : au b = some (.slot i j, st)) : moveAu au i h' b = some (h' j, st) := by
  unfold moveAu; rw [hh]; simp

theorem moveAu_inv {i : Nat} {h' : Nat → Holder} {b st : Nat} {h : Holder} (hh : moveAu au i h' b = some (h, st)) : ∃ h0, au b = some (h0, st) := by
  unfold moveAu at hh
  split at hh
  · rename_i k j st' e
    split at hh <;> (injection hh with hh; injection hh with _ hst; subst hst; exact ⟨_, e⟩)
  · exact ⟨h, hh⟩

theorem moveAu_none {i : Nat} {h' : Nat → Holder} {b : Nat} (hh : au b = none) : moveAu au i h' b = none := by unfold moveAu; rw [hh]

theorem moveAu_ne {i : Nat} {h' : Nat → Holder} {b : Nat} : moveAu au i h' b ≠ none ↔ au b ≠ none := by
  unfold moveAu
  split
  · rename_i e; split <;> simp [e]
  · rfl

/-- Slot i's value is moved to slot d: i keeps a bare copy. -/
theorem Inv.take (h : Inv κ Φ B au s a w) (i d : Nat) :
    Inv κ Φ B (moveAu au i (.slot d)) { s with tm := (s.tm.set i (s.tm.getD i .un).cp).set d (s.tm.getD i .un) } { a with tmps := a.tmps.setIfInBounds d (a.tmps.getD i undef) } w := by
  obtain ⟨g1, g2⟩ := tm_get h i
  have hs := h.strip i
  refine { hs with phia := fun lb b o v h0 st hp ha => ?_, auw := fun b h0 st ha => ?_, tl := by simpa using h.tl, tm := fun k V' v' hV hv => ?_, hp := fun id o b ho hb => ?_, df := ?_ }
  · obtain ⟨h1, e⟩ := moveAu_inv ha; exact h.phia _ b o v h1 st hp e
  · obtain ⟨h1, e⟩ := moveAu_inv ha; exact h.auw b h1 st e
  · simp only [List.getElem?_set] at hV
    simp only [Array.getElem?_setIfInBounds] at hv
    by_cases e : d = k
    · subst e
      by_cases hl : d < s.tm.length
      · have hl' : d < a.tmps.size := by rw [← h.tl]; exact hl
        have q1 : V' = s.tm.getD i .un := by simp [hl] at hV; simpa [List.getD] using hV.symm
        have q2 : v' = a.tmps.getD i undef := by simp [hl'] at hv; simpa using hv.symm
        rw [q1, q2]
        exact ⟨g1, g2.mono fun j b st hh => ⟨moveAu_slot hh, rfl⟩⟩
      · simp [hl] at hV
    · simp [e] at hV hv
      by_cases e2 : i = k
      · subst e2
        have hl : i < s.tm.length := by
          have := (Array.getElem?_eq_some_iff.1 hv).1; rw [h.tl]; exact this
        simp [hl] at hV
        subst hV
        have e3 : a.tmps.getD i undef = v' := by simp [Array.getD, (Array.getElem?_eq_some_iff.1 hv).1, (Array.getElem?_eq_some_iff.1 hv).2]
        have e4 : s.tm.getD i .un = s.tm[i] := by simp [List.getD, hl]
        simp only [List.getD] at *
        rw [e3] at g1
        exact ⟨by simpa [hl] using g1.cp, OwnV_cp⟩
      · simp [e2] at hV
        obtain ⟨k1, k2⟩ := h.tm k V' v' hV hv
        exact ⟨k1, k2.mono fun j b st hh => ⟨moveAu_other hh (by rintro j' hh'; injection hh' with hh'; exact e2 hh'.symm), rfl⟩⟩
  · refine (h.hp id o b ho hb).mono (CM.le_refl _) (fun _ _ h => h) (fun hh => ⟨moveAu_other hh (by simp), rfl⟩) (fun j b st hh => ⟨moveAu_other hh (by simp), rfl⟩)
  · obtain ⟨rs, h1, h2, h3⟩ := h.df
    exact ⟨rs, h1, h2, fun r hr => let ⟨x, y, z⟩ := h3 r hr; ⟨x, moveAu_none y, z⟩⟩

/-- The world grows: nothing that lay there is changed. -/
structure Grows (w w' : World) : Prop where
  size : w.heap.size ≤ w'.heap.size
  same : ∀ b, b < w.heap.size → w'.heap[b]? = w.heap[b]?
  tape : w'.tape = w.tape
  os : w'.os = w.os
  out : w'.output = w.output

theorem Grows.refl (w : World) : Grows w w := ⟨Nat.le_refl _, fun _ _ => rfl, rfl, rfl, rfl⟩
theorem Grows.trans {w w' w'' : World} (h : Grows w w') (h' : Grows w' w'') : Grows w w'' :=
  ⟨Nat.le_trans h.size h'.size, fun b hb => (h'.same b (Nat.lt_of_lt_of_le hb h.size)).trans (h.same b hb), h'.tape.trans h.tape, h'.os.trans h.os, h'.out.trans h.out⟩
theorem Grows.push (w : World) (o : Obj) : Grows w { w with heap := w.heap.push o } :=
  ⟨by simp, fun b hb => by simp [Array.getElem?_push, Nat.ne_of_lt hb], rfl, rfl, rfl⟩
theorem Grows.drew (w : World) (n : Nat) : Grows w { w with drawn := n } := ⟨Nat.le_refl _, fun _ _ => rfl, rfl, rfl, rfl⟩

theorem Grows.cell {w w' : World} (h : Grows w w') {b o : Nat} {v : Value} (hc : w.cell? ⟨b, o, none⟩ = some v) : w'.cell? ⟨b, o, none⟩ = some v := by
  have hb : b < w.heap.size := by
    unfold World.cell? at hc
    cases e : w.heap[b]? with
    | none => simp [e] at hc
    | some x => exact lt_of_heap e
  unfold World.cell? at *
  simp only at hc ⊢
  rw [h.same b hb]; exact hc

theorem Inv.grow {w' : World} (h : Inv κ Φ B au s a w) (g : Grows w w') : Inv κ Φ B au s a w' := by
  have hs : ∀ b h0 st, au b = some (h0, st) → w'.heap[b]? = w.heap[b]? := fun b h0 st e => g.same b (h.auw b h0 st e).1
  refine { h with phi := fun lb b o v e => g.cell (h.phi _ b o v e), auw := fun b h0 st e => ⟨Nat.lt_of_lt_of_le (h.auw b h0 st e).1 g.size, (h.auw b h0 st e).2⟩, size := Nat.le_trans h.size g.size, keep := fun b hb hm => (g.same b (Nat.lt_of_lt_of_le hb h.size)).trans (h.keep b hb hm), tm := fun i V v hV hv => ⟨(h.tm i V v hV hv).1, (h.tm i V v hV hv).2.mono fun j b st e => ⟨e, hs b _ st e⟩⟩, hp := fun id o b ho hb => (h.hp id o b ho hb).mono (CM.le_refl _) (fun _ _ h => h) (fun e => ⟨e, hs b _ _ e⟩) (fun j b st e => ⟨e, hs b _ _ e⟩), df := ?_, rd := fun l hl => ?_, lp := fun l r hl => ?_, wo := ⟨g.tape.trans h.wo.1, g.os.trans h.wo.2.1, g.out.trans h.wo.2.2⟩ }
  · obtain ⟨rs, h1, h2, h3⟩ := h.df
    exact ⟨rs, h1, h2, fun r hr => let ⟨x, y, z⟩ := h3 r hr; ⟨(g.same r (lt_of_heap x)).trans x, y, z⟩⟩
  · obtain ⟨r, hr⟩ := h.rd l hl
    exact ⟨r, (g.same l (lt_of_heap hr)).trans hr⟩
  · obtain ⟨r, hr⟩ := h.lp l r hl
    exact ⟨r, (g.same l (lt_of_heap hr)).trans hr⟩

end
end Go.Idl
end
section
namespace Go.Idl

/-- An operation is carried out, and behind it K holds of an ideal state that stands for what is there. -/
def Does (P : Program) (κ : Ctx) (o : Oper) (a : Act) (w : World) (K : St → Prop) : Prop :=
  ∃ nx w', (execOp a.eval o).run P w = .ok nx w' ∧ match nx with
    | .value v => ∃ s', K s' ∧ Rel κ s' (a.put o.dst v) w'
    | .skip => ∃ s', K s' ∧ Rel κ s' (a.put o.dst undef) w'
    | .enter f args => CallsIn Fence.wide 0 P f args w' fun e w'' => ∃ v s', e = .returned v ∧ K s' ∧ Rel κ s' (a.put o.dst v) w''
    | .round l f tmps asg body => RoundIn Fence.wide 0 P l f tmps asg body w' fun e w'' => ∃ v s', e = .returned v ∧ K s' ∧ Rel κ s' (a.put o.dst v) w''
    | _ => False

theorem run_v {P : Program} {x : Sem Value} {w w' : World} {v : Value} (h : x.run P w = .ok v w') : (do pure (.value (← x)) : Sem Next).run P w = .ok (.value v) w' := by
  rw [Sem.run_bind, h]; rfl

theorem run_u {P : Program} {x : Sem Unit} {w w' : World} (h : x.run P w = .ok () w') : (do x; pure .skip : Sem Next).run P w = .ok .skip w' := by
  rw [Sem.run_bind, h]; rfl

theorem run_program {P : Program} {w : World} : program.run P w = .ok P w := rfl

theorem run_underlying {P : Program} {t : TypeId} {d : TypeDesc} {w : World} (h : P.underlying t = some d) : (underlying t).run P w = .ok d w := by
  unfold underlying; rw [Sem.run_bind, run_program]; simp only [Result.andThen_ok, h]; rfl

theorem run_typeInfo {P : Program} {t : TypeId} {d : TypeInfo} {w : World} (h : P.info? t = some d) : (typeInfo t).run P w = .ok d w := by
  unfold typeInfo; rw [Sem.run_bind, run_program]; simp only [Result.andThen_ok, h]; rfl

theorem run_sizeOf {P : Program} {t : TypeId} {d : TypeInfo} {w : World} (h : P.info? t = some d) : (sizeOf t).run P w = .ok d.size w := by
  unfold sizeOf; rw [Sem.run_bind, run_typeInfo h]; rfl

theorem run_zeroValue {P : Program} {t : TypeId} {d : TypeInfo} {z : Value} {w : World} (h : P.info? t = some d) (hz : d.zero = some z) : (zeroValue t).run P w = .ok z w := by
  unfold zeroValue; rw [Sem.run_bind, run_typeInfo h]; simp only [Result.andThen_ok, hz]; rfl

theorem info_of_underlying {P : Program} {t : TypeId} {d : TypeDesc} (h : P.underlying t = some d) : ∃ i, P.info? t = some i := by
  unfold Program.underlying at h
  cases e : P.info? t with
  | none => simp [e] at h
  | some i => exact ⟨i, rfl⟩

theorem kind_info {P : Program} {t : TypeId} {k : Bool} (h : kindD P t = some k) : ∃ d i, P.underlying t = some d ∧ P.info? t = some i ∧ sizeD P t = i.size ∧ (∀ w, (isAgg t).run P w = .ok k w) := by
  unfold kindD at h
  cases e : P.underlying t with
  | none => simp [e] at h
  | some d =>
    obtain ⟨i, hi⟩ := info_of_underlying e
    refine ⟨d, i, rfl, hi, by simp [sizeD, hi], fun w => ?_⟩
    unfold isAgg; rw [Sem.run_bind, run_underlying e]
    rw [e] at h
    cases d <;> simp at h <;> subst h <;> rfl

theorem constD_rep {P : Program} {t : TypeId} {v : Value} {d : D} {Φ : CM} (h : constD P t v = some d) : RepD Φ d v ∧ okCell v := by
  unfold constD at h
  split at h <;> first | (injection h with h; subst h; first | exact ⟨.int _ _, trivial⟩ | exact ⟨.bool _, trivial⟩ | exact ⟨.str _, trivial⟩ | exact ⟨.sl0, trivial⟩ | exact ⟨.con _ trivial, trivial⟩) | simp at h

theorem constV_rep {P : Program} {t : TypeId} {v : Value} {Φ : CM} {B : List Nat} {au : Auth} {w : World} {h : Nat → Holder} :
    RepS Φ B (constV P t v) v ∧ OwnV au w h (constV P t v) v ∧ ((constV P t v).known = true → okCell v) ∧ (constV P t v).isTup = false := by
  unfold constV
  split
  · exact ⟨.nil, trivial, fun _ => trivial, rfl⟩
  · cases e : constD P t v with
    | none => exact ⟨.un _, trivial, fun h => by simp [V.known] at h, rfl⟩
    | some d => exact ⟨.d (constD_rep e).1, trivial, fun _ => (constD_rep (Φ := Φ) e).2, rfl⟩

section
variable {P : Program} {κ : Ctx} {Φ : CM} {B : List Nat} {au : Auth} {s : St} {a : Act} {w : World} {K : St → Prop} {o : Oper}

theorem ev_rep (h : Inv κ Φ B au s a w) (t : TypeId) (x : Operand) : RepS Φ B (ev P t s x) (a.eval x) := by
  cases x with
  | tmp i => exact (tm_get h i).1
  | const v => exact (constV_rep (au := au) (w := w) (h := fun _ => .obj 0)).1
  | «global» g => exact .un _
  | func f => exact .fn .nil

theorem ev_d (h : Inv κ Φ B au s a w) {t : TypeId} {x : Operand} {d : D} (e : ev P t s x = .d d) : RepD Φ d (a.eval x) := by
  have := ev_rep (P := P) h t x
  rw [e] at this
  cases this with | d h => exact h

theorem ev_cp_d (h : Inv κ Φ B au s a w) {t : TypeId} {x : Operand} {d : D} (e : (ev P t s x).cp = .d d) : RepD Φ d (a.eval x) := by
  have := (ev_rep (P := P) h t x).cp
  rw [e] at this
  cases this with | d h => exact h

theorem ev_d? (h : Inv κ Φ B au s a w) {t : TypeId} {x : Operand} {d : D} (e : (ev P t s x).d? = some d) : RepD Φ d (a.eval x) := by
  have := ev_rep (P := P) h t x
  generalize a.eval x = v at this
  generalize ev P t s x = V at e this
  cases this <;> simp [V.d?] at e
  · subst e; assumption
  · subst e; exact .sl0
  · subst e; assumption

theorem repD_int {k : IntKind} {n : Int} {v : Value} (h : RepD Φ (.int k n) v) : v = .int k n := by cases h; rfl
theorem repD_bool {b : Bool} {v : Value} (h : RepD Φ (.bool b) v) : v = .bool b := by cases h; rfl
theorem repD_str {b : ByteArray} {v : Value} (h : RepD Φ (.str b) v) : v = .string b := by cases h; rfl

theorem does_value {v : Value} {w' : World} {s' : St} (h : (execOp a.eval o).run P w = .ok (.value v) w') (hk : K s') (hr : Rel κ s' (a.put o.dst v) w') : Does P κ o a w K :=
  ⟨_, w', h, s', hk, hr⟩

theorem does_skip {w' : World} {s' : St} (h : (execOp a.eval o).run P w = .ok .skip w') (hk : K s') (hr : Rel κ s' (a.put o.dst undef) w') : Does P κ o a w K :=
  ⟨_, w', h, s', hk, hr⟩

/-- a value that owns nothing goes to its place -/
theorem does_plain {v : Value} {V : V} (h : Inv κ Φ B au s a w) (hx : (execOp a.eval o).run P w = .ok (.value v) w) (hS : RepS Φ B V v) (hO : ∀ h, OwnV au w h V v) (hk : K (s.put o.dst V)) : Does P κ o a w K :=
  does_value hx hk (Rel.put_plain h o.dst hS hO)

theorem mv_rel (h : Inv κ Φ B au s a w) (t : TypeId) (x : Operand) (dst : Option Nat) (take : Bool) : Rel κ (mv s x (ev P t s x) dst take) (a.put dst (a.eval x)) w := by
  unfold mv
  cases take with
  | false => simp only [Bool.false_eq_true, if_false]; exact Rel.put_plain h dst (ev_rep h t x).cp (fun _ => OwnV_cp)
  | true =>
    simp only [if_true]
    cases x with
    | tmp i =>
      cases dst with
      | none => exact ⟨Φ, B, au, h.strip i⟩
      | some d => exact ⟨Φ, B, _, h.take i d⟩
    | const v => exact ⟨Φ, B, au, h.put dst (ev_rep h t (.const v)) fun _ _ => (constV_rep (Φ := Φ) (B := B)).2.1⟩
    | «global» g => exact Rel.put_plain h dst (.un _) fun _ => trivial
    | func f => exact Rel.put_plain h dst (.fn .nil) fun _ => trivial

theorem does_move {x : Operand} {take : Bool} (h : Inv κ Φ B au s a w) (ho : o.op = .move x ∨ o.op = .assign x) (hk : K (mv s x (ev P o.type s x) o.dst take)) : Does P κ o a w K := by
  refine does_value (v := a.eval x) (w' := w) ?_ hk (mv_rel h _ x o.dst take)
  rcases ho with e | e <;> (unfold execOp; rw [e]; rfl)

theorem does_pick {c x y : Operand} {r : List Oper} (h : Inv κ Φ B au s a w) (ho : o.op = .pick c x y) (hk : stepK P o r s K) : Does P κ o a w K := by
  simp only [stepK, ho] at hk
  split at hk
  · rename_i t e
    have e1 := repD_bool (ev_d h e)
    have hx : (execOp a.eval o).run P w = .ok (.value (if t then a.eval x else a.eval y)) w := by
      unfold execOp; rw [ho]; simp only [e1]; cases t <;> rfl
    cases t with
    | true => exact does_plain h hx (ev_rep h _ x).cp (fun _ => OwnV_cp) (hk.1 rfl)
    | false => exact does_plain h hx (ev_rep h _ y).cp (fun _ => OwnV_cp) (hk.2 rfl)
  · exact hk.elim

/-- A new variable. -/
theorem Inv.alloc (h : Inv κ Φ B au s a w) {cs : List V} {c : Array Value} {el : TypeId} (hl : cs.length = c.size)
    (hc : ∀ (j : Nat) V v, cs[j]? = some V → c[j]? = some v → (V.known = true → okCell v) ∧ RepS Φ B V v ∧ ∀ au w h, OwnV au w h V v) :
    ∃ au', Inv κ Φ (B ++ [w.heap.size]) au' { s with hp := s.hp ++ [IObj.var cs] } a { w with heap := w.heap.push (.cells c el (0, 0)) } := by
  have g := h.grow (Grows.push w (.cells c el (0, 0)))
  have hB : ∀ (i b : Nat), B[i]? = some b → (B ++ [w.heap.size])[i]? = some b := fun i b e => by
    rw [List.getElem?_append_left (List.getElem?_eq_some_iff.1 e).1]; exact e
  have hnew : au w.heap.size = none := by
    cases e : au w.heap.size with
    | none => rfl
    | some x => exact absurd (h.auw _ _ _ e).1 (Nat.lt_irrefl _)
  refine ⟨fun b => if b = w.heap.size then some (.obj s.hp.length, 0) else au b, ?_⟩
  have hau : ∀ b h0 st, au b = some (h0, st) → (if b = w.heap.size then some (Holder.obj s.hp.length, 0) else au b) = some (h0, st) := fun b h0 st e => by
    rw [if_neg]; exact e
    rintro rfl; rw [hnew] at e; cases e
  refine { g with phia := fun lb b o v h0 st hp e => ?_, auw := fun b h0 st e => ?_, pre := ?_, tm := fun i V v hV hv => ?_, hl := by simp [h.hl], nb := ⟨h.nb.1, by have := h.nb.2; simp; omega⟩, hp := fun id o b ho hb => ?_, df := ?_ }
  · split at e
    · rename_i eb
      have := h.phi _ b o v hp
      unfold World.cell? at this
      rw [eb] at this
      simp at this
    · exact h.phia _ b o v h0 st hp e
  · split at e
    · rename_i eb; subst eb; exact ⟨by simp, .inr h.size⟩
    · exact g.auw b h0 st e
  · exact h.pre.trans (List.prefix_append _ _)
  · obtain ⟨k1, k2⟩ := g.tm i V v hV hv
    exact ⟨k1.mono (CM.le_refl _) hB, k2.mono fun j b st e => ⟨hau b _ st e, rfl⟩⟩
  · by_cases hid : id < s.hp.length
    · rw [List.getElem?_append_left hid] at ho
      have hid' : id < B.length := by rw [← h.hl]; exact hid
      rw [List.getElem?_append_left hid'] at hb
      exact (g.hp id o b ho hb).mono (CM.le_refl _) hB (fun e => ⟨hau b _ _ e, rfl⟩) (fun j b st e => ⟨hau b _ st e, rfl⟩)
    · have hid1 : id = s.hp.length := by
        have := (List.getElem?_eq_some_iff.1 ho).1; simp at this; omega
      subst hid1
      simp at ho
      subst ho
      rw [h.hl] at hb
      simp at hb
      subst hb
      refine ⟨by simp, c, el, by simp, hl.symm, fun j V hj => ?_⟩
      have hj' : j < c.size := by rw [← hl]; exact (List.getElem?_eq_some_iff.1 hj).1
      obtain ⟨q1, q2, q3⟩ := hc j V c[j] hj (Array.getElem?_eq_getElem hj')
      exact ⟨c[j], Array.getElem?_eq_getElem hj', q1, q2.mono (CM.le_refl _) hB, q3 _ _ _⟩
  · obtain ⟨rs, h1, h2, h3⟩ := g.df
    refine ⟨rs, h1, h2, fun r hr => ?_⟩
    obtain ⟨x, y, z⟩ := h3 r hr
    refine ⟨x, ?_, z⟩
    rw [if_neg]; exact y
    rintro rfl
    obtain ⟨rs', h1', h2', h3'⟩ := h.df
    rw [h1] at h1'
    have : rs = rs' := by
      have := congrArg (List.map fun d : Deferred => match d.target with | .collected r => r | _ => 0) h1'
      simpa [Function.comp_def] using this
    subst this
    have := lt_of_heap (h3' _ hr).1
    omega

theorem run_newVar {t : TypeId} {v : Value} {w : World} : (newVar t v).run P w = .ok ⟨w.heap.size, 0, none⟩ { w with heap := w.heap.push (.cells v.cells t (0, 0)) } := rfl

theorem does_new {t : TypeId} {v : Value} {cs : List V} (h : Inv κ Φ B au s a w) (hx : (execOp a.eval o).run P w = .ok (.value (.pointer (some ⟨w.heap.size, 0, none⟩))) { w with heap := w.heap.push (.cells v.cells t (0, 0)) })
    (hl : cs.length = v.cells.size) (hc : ∀ (j : Nat) V x, cs[j]? = some V → v.cells[j]? = some x → (V.known = true → okCell x) ∧ RepS Φ B V x ∧ ∀ au w h, OwnV au w h V x)
    (hk : K ({ s with hp := s.hp ++ [IObj.var cs] }.put o.dst (.ptr s.hp.length 0))) : Does P κ o a w K := by
  obtain ⟨au', g⟩ := h.alloc (el := t) hl hc
  refine does_value hx hk ⟨Φ, _, au', g.put o.dst (.ptr (b := w.heap.size) ?_) fun _ _ => trivial⟩
  rw [h.hl]; simp

theorem does_alloc {t : TypeId} {r : List Oper} (h : Inv κ Φ B au s a w) (ho : o.op = .alloc t) (hk : stepK P o r s K) : Does P κ o a w K := by
  simp only [stepK, ho] at hk
  split at hk
  · rename_i cs e
    unfold zeroVs at e
    split at e
    · rename_i z ez
      obtain ⟨i, hi, hz⟩ : ∃ i, P.info? t = some i ∧ i.zero = some z := by
        cases e2 : P.info? t with
        | none => simp [e2] at ez
        | some i => exact ⟨i, rfl, by simpa [e2] using ez⟩
      split at e
      · rename_i el
        injection e with e
        subst e
        refine does_new (t := t) (v := z) h ?_ (by simp [el]) ?_ hk
        · unfold execOp; rw [ho]; refine run_v ?_
          unfold Instr.alloc; rw [Sem.run_bind, run_zeroValue hi hz]; rfl
        · intro j V x hV hx
          simp only [List.getElem?_map, Option.map_eq_some_iff] at hV
          obtain ⟨⟨t', x'⟩, hz', rfl⟩ := hV
          rw [List.getElem?_zip_eq_some] at hz'
          have : x' = x := by have := hz'.2; rw [Array.getElem?_toList, hx] at this; injection this with this; exact this.symm
          subst this
          exact ⟨(constV_rep (Φ := Φ) (B := B) (au := au) (w := w) (h := fun _ => .obj 0)).2.2.1, (constV_rep (Φ := Φ) (B := B) (au := au) (w := w) (h := fun _ => .obj 0)).1, fun au' w' h' => (constV_rep (Φ := Φ) (B := B)).2.1⟩
      · simp at e
    · simp at e
  · exact hk.elim

/-- the cells of a value, ideal and real -/
theorem flat_rep {V : V} {v : Value} (h : RepS Φ B V v) (hk : V.known = true) : V.flat.length = v.cells.size ∧
    ∀ (j : Nat) V' x, V.flat[j]? = some V' → v.cells[j]? = some x → okCell x ∧ V'.known = true ∧ RepS Φ B V' x ∧ (V.cp = V → ∀ au w h, OwnV au w h V' x) := by
  cases h with
  | un => simp [V.known] at hk
  | tup => simp [V.known] at hk
  | @d x v hx =>
    have hf := hx.flat
    obtain ⟨h1, h2⟩ := hf.get
    have e : (V.d x).flat = x.flat.map .d := by cases x <;> rfl
    rw [e]
    refine ⟨by simp [h1], fun j V' y hV hy => ?_⟩
    simp only [List.getElem?_map, Option.map_eq_some_iff] at hV
    obtain ⟨d', hd', rfl⟩ := hV
    obtain ⟨q1, q2⟩ := h2 j d' y hd' (by rw [Array.getElem?_toList]; exact hy)
    exact ⟨q1, rfl, .d q2, fun _ _ _ _ => trivial⟩
  | nil => exact ⟨rfl, fun j V' y hV hy => by cases j <;> simp [V.flat, Value.cells] at hV hy; subst hV; subst hy; exact ⟨trivial, rfl, .nil, fun _ _ _ _ => trivial⟩⟩
  | st e ok q =>
    obtain ⟨h1, h2⟩ := e.get
    refine ⟨by simpa [V.flat, Value.cells] using h1, fun j V' y hV hy => ?_⟩
    simp only [V.flat, Value.cells] at hV hy
    have hy' := hy
    rw [List.getElem?_toArray] at hy'
    obtain ⟨q1, q2⟩ := q V' (List.mem_of_getElem? hV)
    refine ⟨ok y (List.mem_of_getElem? hy'), q2, h2 j V' y hV hy', fun _ au w h => ?_⟩
    cases V' <;> first | trivial | (simp [V.cp] at q1; done) | (simp [V.known] at q2; done)
  | @own z xs v hx =>
    refine ⟨by cases hx <;> rfl, fun j V' y hV hy => ?_⟩
    cases j with
    | succ j => simp [V.flat] at hV
    | zero =>
      simp [V.flat] at hV; subst hV
      have : y = v ∧ okCell v := by cases hx <;> (simp [Value.cells] at hy; exact ⟨hy.symm, trivial⟩)
      obtain ⟨rfl, hok⟩ := this
      exact ⟨hok, rfl, .own hx, fun e => by simp [V.cp] at e⟩
  | ptr e => exact ⟨rfl, fun j V' y hV hy => by cases j <;> simp [V.flat, Value.cells] at hV hy; subst hV; subst hy; exact ⟨trivial, rfl, .ptr e, fun _ _ _ _ => trivial⟩⟩
  | aptr e => exact ⟨rfl, fun j V' y hV hy => by cases j <;> simp [V.flat, Value.cells] at hV hy; subst hV; subst hy; exact ⟨trivial, rfl, .aptr e, fun _ _ _ _ => trivial⟩⟩
  | lptr e => exact ⟨rfl, fun j V' y hV hy => by cases j <;> simp [V.flat, Value.cells] at hV hy; subst hV; subst hy; exact ⟨trivial, rfl, .lptr e, fun _ _ _ _ => trivial⟩⟩
  | ref e l q => exact ⟨rfl, fun j V' y hV hy => by cases j <;> simp [V.flat, Value.cells] at hV hy; subst hV; subst hy; exact ⟨trivial, rfl, .ref e l q, fun _ _ _ _ => trivial⟩⟩
  | ref0 => exact ⟨rfl, fun j V' y hV hy => by cases j <;> simp [V.flat, Value.cells] at hV hy; subst hV; subst hy; exact ⟨trivial, rfl, .ref0, fun _ _ _ _ => trivial⟩⟩
  | fn e => exact ⟨rfl, fun j V' y hV hy => by cases j <;> simp [V.flat, Value.cells] at hV hy; subst hV; subst hy; exact ⟨trivial, rfl, .fn e, fun _ _ _ _ => trivial⟩⟩
  | yld e => exact ⟨rfl, fun j V' y hV hy => by cases j <;> simp [V.flat, Value.cells] at hV hy; subst hV; subst hy; exact ⟨trivial, rfl, .yld e, fun _ _ _ _ => trivial⟩⟩
  | map e => exact ⟨rfl, fun j V' y hV hy => by cases j <;> simp [V.flat, Value.cells] at hV hy; subst hV; subst hy; exact ⟨trivial, rfl, .map e, fun _ _ _ _ => trivial⟩⟩

theorem V.cp_cp (v : V) : v.cp.cp = v.cp := by
  cases v with
  | tup vs =>
    simp only [V.cp, List.map_map]
    congr 1
    refine List.map_congr_left fun v _ => ?_
    cases v <;> rfl
  | _ => rfl

theorem V.known_cp (v : V) : v.cp.known = v.known := by cases v <;> rfl

theorem does_box {t : TypeId} {x : Operand} {r : List Oper} (h : Inv κ Φ B au s a w) (ho : o.op = .box t x) (hk : stepK P o r s K) : Does P κ o a w K := by
  simp only [stepK, ho] at hk
  obtain ⟨hn, hk⟩ := hk
  have hr := (ev_rep (P := P) h t x).cp
  obtain ⟨f1, f2⟩ := flat_rep hr (by rw [V.known_cp]; exact hn)
  refine does_new (t := t) (v := a.eval x) h ?_ f1 ?_ hk
  · unfold execOp; rw [ho]; exact run_v rfl
  · intro j V y hV hy
    obtain ⟨q1, q2, q3, q4⟩ := f2 j V y hV hy
    exact ⟨fun _ => q1, q3, q4 (Idl.V.cp_cp _)⟩

end
end Go.Idl
end
section
namespace Go.Idl

section
variable {P : Program} {κ : Ctx} {Φ : CM} {B : List Nat} {au : Auth} {s : St} {a : Act} {w : World} {K : St → Prop} {o : Oper}

theorem addr_add (b off n : Nat) : (⟨b, off, none⟩ : Addr).add n = ⟨b, off + n, none⟩ := by
  unfold Addr.add; split <;> simp_all

theorem run_load {ad : Addr} {v : Value} (h : w.cell? ad = some v) : (load ad).run P w = .ok v w := by
  simp [load, Sem.run, h]

theorem run_loadCellsFrom {b off : Nat} {cs : List Value} : ∀ (i : Nat) (acc : Array Value), (∀ (j : Nat) v, cs[j]? = some v → w.cell? ⟨b, off + i + j, none⟩ = some v) →
    (loadCellsFrom ⟨b, off, none⟩ i cs.length acc).run P w = .ok (acc ++ cs.toArray) w := by
  induction cs with
  | nil => intro i acc _; simp [loadCellsFrom, Sem.run, pure]
  | cons c cs ih =>
    intro i acc h
    have h0 := h 0 c rfl
    simp only [List.length_cons, loadCellsFrom, Sem.run_bind, addr_add]
    rw [run_load (by simpa using h0)]
    simp only [Result.andThen_ok]
    rw [ih (i + 1) (acc.push c) (fun j v hj => by have := h (j + 1) v (by simpa using hj); rw [← this]; congr 2; omega)]
    simp

theorem run_loadCells {b off : Nat} {cs : List Value} (h : ∀ (j : Nat) v, cs[j]? = some v → w.cell? ⟨b, off + j, none⟩ = some v) :
    (loadCells ⟨b, off, none⟩ cs.length).run P w = .ok cs.toArray w := by
  unfold loadCells; rw [run_loadCellsFrom 0 #[] (fun j v hj => by rw [← h j v hj]; congr 2)]; simp

theorem CellsAt.cells {lb : Bool} {ds : List D} {b off : Nat} (h : CellsAt Φ lb b off ds) : ∃ cs : List Value, cs.length = ds.length ∧ (∀ (j : Nat) v, cs[j]? = some v → Φ lb b (off + j) = some v) ∧ RepL Φ ds cs := by
  induction ds generalizing off with
  | nil => exact ⟨[], rfl, by simp, .nil⟩
  | cons d ds ih =>
    cases h with
    | cons e ok hd ht =>
      obtain ⟨cs, h1, h2, h3⟩ := ih ht
      refine ⟨_ :: cs, by simp [h1], fun j v hj => ?_, .cons ok hd h3⟩
      cases j with
      | zero => simp at hj; subst hj; exact e
      | succ j => simp at hj; have := h2 j v hj; rw [← this]; congr 1; omega

theorem CellsAt.sub {lb : Bool} {ds : List D} {b off : Nat} (h : CellsAt Φ lb b off ds) (j n : Nat) : CellsAt Φ lb b (off + j) ((ds.drop j).take n) := by
  refine CellsAt.of fun k d hk => ?_
  rw [List.getElem?_take] at hk
  split at hk
  · rw [List.getElem?_drop] at hk
    obtain ⟨c, h1, h2, h3⟩ := h.get _ d hk
    exact ⟨c, by rw [← h1]; congr 1; omega, h2, h3⟩
  · cases hk

theorem gather {cs : List D} {b off : Nat} (hc : ∀ (j : Nat) d, cs[j]? = some d → ∃ v, w.cell? ⟨b, off + j, none⟩ = some v ∧ okCell v ∧ RepD Φ d v) :
    ∀ {ds : List D} (j : Nat), (∀ (k : Nat) d, ds[k]? = some d → cs[j + k]? = some d) →
      ∃ vs : List Value, vs.length = ds.length ∧ (∀ (k : Nat) v, vs[k]? = some v → w.cell? ⟨b, off + j + k, none⟩ = some v) ∧ RepL Φ ds vs
  | [], _, _ => ⟨[], rfl, by simp, .nil⟩
  | y :: ys, j, hds => by
    obtain ⟨v, q1, q2, q3⟩ := hc j y (by have := hds 0 y rfl; simpa using this)
    obtain ⟨vs, r1, r2, r3⟩ := gather hc (ds := ys) (j + 1) (fun k d hk => by have := hds (k + 1) d (by simpa using hk); rw [← this]; congr 1; omega)
    refine ⟨v :: vs, by simp [r1], fun k x hk => ?_, .cons q2 q3 r3⟩
    cases k with
    | zero => simp at hk; subst hk; exact q1
    | succ k => simp at hk; rw [← r2 k x hk]; congr 2; omega

/-- A part of a datum that lies in memory is loaded. -/
theorem load_part {b off : Nat} {x : D} (hc : ∀ (j : Nat) d, x.flat[j]? = some d → ∃ v, w.cell? ⟨b, off + j, none⟩ = some v ∧ okCell v ∧ RepD Φ d v) {t : TypeId} {j : Nat} {d : D} (e : partD P t x j = some d) :
    ∃ v, (loadVar t ⟨b, off + j, none⟩).run P w = .ok v w ∧ RepD Φ d v := by
  unfold partD at e
  cases hk : kindD P t with
  | none => simp [hk] at e
  | some k =>
    obtain ⟨td, i, _, hi, hz, hagg⟩ := kind_info hk
    simp only [hk] at e
    cases k with
    | false =>
      obtain ⟨c, h1, h2, h3⟩ := hc j d e
      refine ⟨c, ?_, h3⟩
      unfold loadVar; rw [Sem.run_bind, hagg]; simp only [Result.andThen_ok, Bool.false_eq_true, if_false]
      exact run_load h1
    | true =>
      simp only at e
      split at e
      · rename_i cs
        have key : ∀ ds : List D, (∀ (k : Nat) d, ds[k]? = some d → cs[j + k]? = some d) → ds.length = sizeD P t → ∃ v, (loadVar t ⟨b, off + j, none⟩).run P w = .ok v w ∧ RepD Φ (.agg ds) v := by
          intro ds hds hl
          have hcells := gather (ds := ds) (cs := cs) hc j hds
          obtain ⟨vs, g1, g2, g3⟩ := hcells
          refine ⟨.agg vs.toArray, ?_, .agg g3⟩
          unfold loadVar; rw [Sem.run_bind, hagg]; simp only [Result.andThen_ok, if_true]
          rw [Sem.run_bind, run_sizeOf hi]; simp only [Result.andThen_ok]
          rw [Sem.run_bind, ← hz, ← hl, ← g1, run_loadCells (fun k v hk => g2 k v hk)]; rfl
        split at e
        · rename_i hj; injection e with e; subst e
          exact key cs (fun k d hk => by rw [hj.1, Nat.zero_add]; exact hk) hj.2
        · split at e
          · rename_i hj; injection e with e; subst e
            exact key _ (fun k d hk => by
              rw [List.getElem?_take] at hk
              split at hk
              · rwa [List.getElem?_drop] at hk
              · cases hk) (by simp [List.length_take, List.length_drop]; omega)
          · cases e
      · cases e

/-- An array's block, seen. -/
theorem Inv.arrAt (h : Inv κ Φ B au s a w) {id z : Nat} {xs : List D} (e : s.hp[id]? = some (.arr z xs)) (hne : xs ≠ []) :
    ∃ b c el, B[id]? = some b ∧ au b = some (.obj id, 0) ∧ w.heap[b]? = some (.cells c el (0, 0)) ∧ c.size = xs.length * z ∧
      ∀ (i : Nat) x, xs[i]? = some x → x.flat.length = z ∧ ∀ (j : Nat) d, x.flat[j]? = some d → ∃ v, c[i * z + j]? = some v ∧ okCell v ∧ RepD Φ d v := by
  have hid : id < B.length := by rw [← h.hl]; exact (List.getElem?_eq_some_iff.1 e).1
  have hb : B[id]? = some B[id] := List.getElem?_eq_getElem hid
  obtain ⟨h1, c, el, h2, h3, h4⟩ := h.hp id _ _ e hb hne
  exact ⟨_, c, el, hb, h1, h2, h3, h4⟩

theorem takes_none : ∀ r : List Oper, takes none r = false
  | [] => rfl
  | o :: r => by
    simp only [takes, takes_none r, Bool.or_false]
    split <;> first | rfl | simp
    split <;> rfl

theorem allD_get : ∀ {vs : List V} {ds : List D}, allD vs = some ds → vs.length = ds.length ∧ ∀ (j : Nat) d, ds[j]? = some d → ∃ v, vs[j]? = some v ∧ v.d? = some d
  | [], _, h => by simp [allD] at h; subst h; simp
  | v :: vs, ds, h => by
    simp only [allD] at h
    split at h
    · rename_i x y e1 e2
      injection h with h; subst h
      obtain ⟨h1, h2⟩ := allD_get e2
      refine ⟨by simp [h1], fun j d hj => ?_⟩
      cases j with
      | zero => simp at hj; subst hj; exact ⟨v, rfl, e1⟩
      | succ j => simpa using h2 j d (by simpa using hj)
    · cases h

theorem rep_d? {V : V} {v : Value} {d : D} (h : RepS Φ B V v) (e : V.d? = some d) : RepD Φ d v := by
  cases h <;> simp [V.d?] at e
  · subst e; assumption
  · subst e; exact .sl0
  · subst e; assumption

theorem allKnown_get : ∀ {vs : List V}, allKnown vs = true → ∀ (j : Nat) V, vs[j]? = some V → V.known = true
  | [], _, j, V, h => by simp at h
  | v :: vs, h, j, V, hj => by
    simp only [allKnown, Bool.and_eq_true] at h
    cases j with
    | zero => simp at hj; subst hj; exact h.1
    | succ j => exact allKnown_get h.2 j V (by simpa using hj)

theorem known_cp_cp {V : V} (h : V.known = true) : V.cp.cp = V.cp ∧ V.cp.known = true := ⟨Idl.V.cp_cp V, by rw [Idl.V.known_cp]; exact h⟩

/-- cells make a struct -/
theorem mkAgg_rep {cs : List V} {vs : List Value} (hk : allKnown cs = true) (hl : cs.length = vs.length) (h : ∀ (j : Nat) V v, cs[j]? = some V → vs[j]? = some v → okCell v ∧ RepS Φ B V v) :
    RepS Φ B (mkAgg cs) (.agg vs.toArray) ∧ ∀ au w h v, OwnV au w h (mkAgg cs) v := by
  unfold mkAgg
  cases e : allD cs with
  | some ds =>
    obtain ⟨q1, q2⟩ := allD_get e
    refine ⟨.d (.agg (RepL.of (by rw [← q1]; exact hl) fun j d c hd hc => ?_)), fun _ _ _ _ => trivial⟩
    obtain ⟨V, k1, k2⟩ := q2 j d hd
    obtain ⟨m1, m2⟩ := h j V c k1 hc
    exact ⟨m1, rep_d? m2 k2⟩
  | none =>
    refine ⟨.st (RepSL.of (by simpa using hl) fun j V c hV hc => ?_) (fun c hc => ?_) (fun V hV => ?_), fun _ _ _ _ => trivial⟩
    · simp only [List.getElem?_map, Option.map_eq_some_iff] at hV
      obtain ⟨V', h1, rfl⟩ := hV
      exact (h j V' c h1 hc).2.cp
    · obtain ⟨j, hj, rfl⟩ := List.getElem_of_mem hc
      have hj' : j < cs.length := by omega
      exact (h j _ _ (List.getElem?_eq_getElem hj') (List.getElem?_eq_getElem hj)).1
    · obtain ⟨V', hV', rfl⟩ := List.mem_map.1 hV
      obtain ⟨j, hj, rfl⟩ := List.getElem_of_mem hV'
      exact known_cp_cp (allKnown_get hk j _ (List.getElem?_eq_getElem hj))

/-- A variable's block, seen. -/
theorem Inv.varAt (h : Inv κ Φ B au s a w) {id : Nat} {cs : List V} (e : s.hp[id]? = some (.var cs)) :
    ∃ b c el, B[id]? = some b ∧ au b = some (.obj id, 0) ∧ w.heap[b]? = some (.cells c el (0, 0)) ∧ c.size = cs.length ∧
      ∀ (j : Nat) V, cs[j]? = some V → ∃ v, c[j]? = some v ∧ (V.known = true → okCell v) ∧ RepS Φ B V v ∧ OwnV au w (fun _ => .cell id j) V v := by
  have hid : id < B.length := by rw [← h.hl]; exact (List.getElem?_eq_some_iff.1 e).1
  have hb : B[id]? = some B[id] := List.getElem?_eq_getElem hid
  obtain ⟨h1, c, el, h2, h3, h4⟩ := h.hp id _ _ e hb
  exact ⟨_, c, el, hb, h1, h2, h3, h4⟩

theorem RepS.ptr_inv {id off : Nat} {v : Value} {b : Nat} (h : RepS Φ B (.ptr id off) v) (hb : B[id]? = some b) : v = .pointer (some ⟨b, off, none⟩) := by
  cases h with | ptr e => rw [e] at hb; injection hb with hb; subst hb; rfl

theorem RepD.okCell_scalar {d : D} {v : Value} (h : RepD Φ d v) (hn : ∀ cs, d ≠ .agg cs) : okCell v := by
  cases h with
  | agg _ => exact absurd rfl (hn _)
  | con v hv => exact hv
  | _ => trivial

theorem run_loadAt {t : TypeId} {ad : Addr} : Instr.loadAt t (.pointer (some ad)) = loadVar t ad := rfl

/-- What a cell owns goes over to a slot. -/
def cellAu (au : Auth) (id j : Nat) (h' : Holder) : Auth := fun b => match au b with
  | some (.cell i k, st) => if i = id ∧ k = j then some (h', st) else some (.cell i k, st)
  | x => x

theorem cellAu_other {id k : Nat} {h' : Holder} {b st : Nat} {h : Holder} (hh : au b = some (h, st)) (hn : h ≠ .cell id k) : cellAu au id k h' b = some (h, st) := by
  unfold cellAu; rw [hh]
  cases h with
  | cell i j => simp only; rw [if_neg]; rintro ⟨rfl, rfl⟩; exact hn rfl
  | slot _ _ => rfl
  | obj _ => rfl
theorem cellAu_same {id k : Nat} {h' : Holder} {b st : Nat} (hh : au b = some (.cell id k, st)) : cellAu au id k h' b = some (h', st) := by
  unfold cellAu; rw [hh]; simp
theorem cellAu_inv {id k : Nat} {h' : Holder} {b st : Nat} {h : Holder} (hh : cellAu au id k h' b = some (h, st)) : ∃ h0, au b = some (h0, st) := by
  unfold cellAu at hh
  split at hh
  · rename_i e
    split at hh <;> (injection hh with hh; injection hh with _ hst; subst hst; exact ⟨_, e⟩)
  · exact ⟨h, hh⟩
theorem cellAu_none {id k : Nat} {h' : Holder} {b : Nat} (hh : au b = none) : cellAu au id k h' b = none := by unfold cellAu; rw [hh]

/-- A cell's value is taken out to a slot: the cell keeps a bare copy. -/
theorem Inv.takeCell (h : Inv κ Φ B au s a w) {id off : Nat} {cs : List V} {V : V} {v : Value} {b : Nat} (e : s.hp[id]? = some (.var cs)) (hV : cs[off]? = some V) (hb : B[id]? = some b) (hv : w.cell? ⟨b, off, none⟩ = some v) (hnt : V.isTup = false) (d : Nat) :
    Inv κ Φ B (cellAu au id off (.slot d 0)) { s with hp := s.hp.set id (.var (cs.set off V.cp)), tm := s.tm.set d V } { a with tmps := a.tmps.setIfInBounds d v } w := by
  obtain ⟨b', c, el, hb', h1, h2, h3, h4⟩ := h.varAt e
  rw [hb] at hb'; injection hb' with hb'; subst hb'
  obtain ⟨v', g1, g2, g3, g4⟩ := h4 off V hV
  have : v' = v := by rw [cell_of h2] at hv; rw [g1] at hv; injection hv
  subst this
  refine { h with phia := fun lb b o v h0 st hp ha => ?_, auw := fun b h0 st ha => ?_, tl := by simpa using h.tl, tm := fun k V' v' hV' hv' => ?_, hl := by simpa using h.hl, nb := ⟨h.nb.1, by simpa using h.nb.2⟩, hp := fun id' o' b' ho hb' => ?_, df := ?_ }
  · obtain ⟨h1, e⟩ := cellAu_inv ha; exact h.phia _ b o v h1 st hp e
  · obtain ⟨h1, e⟩ := cellAu_inv ha; exact h.auw b h1 st e
  · simp only [List.getElem?_set] at hV'
    simp only [Array.getElem?_setIfInBounds] at hv'
    by_cases e2 : d = k
    · subst e2
      by_cases hl : d < s.tm.length
      · have hl' : d < a.tmps.size := by rw [← h.tl]; exact hl
        simp [hl] at hV'; simp [hl'] at hv'; subst hV'; subst hv'
        refine ⟨g3, ?_⟩
        cases V <;> simp only [OwnV] at g4 ⊢
        · exact g4.mono fun b st hh => ⟨cellAu_same hh, rfl⟩
        · simp [V.isTup] at hnt
      · simp [hl] at hV'
    · simp [e2] at hV' hv'
      obtain ⟨k1, k2⟩ := h.tm k V' v' hV' hv'
      exact ⟨k1, k2.mono fun j b st hh => ⟨cellAu_other hh (by simp), rfl⟩⟩
  · simp only [List.getElem?_set] at ho
    by_cases e2 : id = id'
    · subst e2
      have hl : id < s.hp.length := (List.getElem?_eq_some_iff.1 e).1
      simp [hl] at ho
      subst ho
      rw [hb] at hb'; injection hb' with hb'; subst hb'
      refine ⟨cellAu_other h1 (by simp), c, el, h2, by simpa using h3, fun j V2 hj => ?_⟩
      rw [List.getElem?_set] at hj
      by_cases e3 : off = j
      · subst e3
        have hl2 : off < cs.length := (List.getElem?_eq_some_iff.1 hV).1
        simp [hl2] at hj; subst hj
        exact ⟨v', g1, fun hk => g2 (by rwa [V.known_cp] at hk), g3.cp, OwnV_cp⟩
      · simp [e3] at hj
        obtain ⟨x, q1, q2, q3, q4⟩ := h4 j V2 hj
        exact ⟨x, q1, q2, q3, q4.mono fun _ b st hh => ⟨cellAu_other hh (by intro hh'; injection hh' with _ hh'; exact e3 hh'.symm), rfl⟩⟩
    · simp [e2] at ho
      exact (h.hp id' o' b' ho hb').mono (CM.le_refl _) (fun _ _ h => h) (fun hh => ⟨cellAu_other hh (by simp), rfl⟩) (fun j b st hh => ⟨cellAu_other hh (by intro hh'; injection hh' with hh' _; exact e2 hh'.symm), rfl⟩)
  · obtain ⟨rs, h1, h2, h3⟩ := h.df
    exact ⟨rs, h1, h2, fun r hr => let ⟨x, y, z⟩ := h3 r hr; ⟨x, cellAu_none y, z⟩⟩

theorem OwnV_of_cp {V : V} (e : V.cp = V) (hn : V.isTup = false) : ∀ au w h v, OwnV au w h V v := by
  intro au w h v
  cases V <;> simp [V.cp, V.isTup] at e hn <;> trivial

theorem RepL.toCells {ds : List D} : ∀ {n off : Nat} {c : Array Value}, ds.length = n → (∀ (j : Nat) d, ds[j]? = some d → ∃ v, c[off + j]? = some v ∧ okCell v ∧ RepD Φ d v) →
    ∃ vs : List Value, vs.length = n ∧ (∀ (j : Nat) v, vs[j]? = some v → c[off + j]? = some v) ∧ RepL Φ ds vs := by
  induction ds with
  | nil => intro n off c hl _; exact ⟨[], by simpa using hl, by simp, .nil⟩
  | cons d ds ih =>
    intro n off c hl h
    obtain ⟨v, h1, h2, h3⟩ := h 0 d rfl
    obtain ⟨vs, g1, g2, g3⟩ := ih (n := ds.length) (off := off + 1) (c := c) rfl (fun j d hj => by
      obtain ⟨v, q1, q2, q3⟩ := h (j + 1) d (by simpa using hj)
      exact ⟨v, by rw [← q1]; congr 1; omega, q2, q3⟩)
    refine ⟨v :: vs, by simp [g1, ← hl], fun j x hj => ?_, .cons h2 h3 g3⟩
    cases j with
    | zero => simp at hj; subst hj; exact h1
    | succ j => simp at hj; rw [← g2 j x hj]; congr 1; omega

theorem run_loadAgg {t : TypeId} {b off : Nat} {c : Array Value} {el : TypeId} {vs : List Value} (hk : kindD P t = some true) (hw : w.heap[b]? = some (.cells c el (0, 0))) (hl : vs.length = sizeD P t)
    (hd : ∀ (j : Nat) v, vs[j]? = some v → c[off + j]? = some v) : (loadVar t ⟨b, off, none⟩).run P w = .ok (.agg vs.toArray) w := by
  obtain ⟨td, i, _, hi, hz, hagg⟩ := kind_info hk
  unfold loadVar; rw [Sem.run_bind, hagg]; simp only [Result.andThen_ok, if_true]
  rw [Sem.run_bind, run_sizeOf hi]; simp only [Result.andThen_ok]
  rw [Sem.run_bind, ← hz, ← hl, run_loadCells (fun k v hk => by rw [cell_of hw]; exact hd k v hk)]; rfl

/-- A struct is loaded out of a block of cells. -/
theorem load_agg {t : TypeId} {b off : Nat} {c : Array Value} {el : TypeId} {ds : List D} (hk : kindD P t = some true) (hw : w.heap[b]? = some (.cells c el (0, 0))) (hl : ds.length = sizeD P t)
    (hd : ∀ (j : Nat) d, ds[j]? = some d → ∃ v, c[off + j]? = some v ∧ okCell v ∧ RepD Φ d v) : ∃ v, (loadVar t ⟨b, off, none⟩).run P w = .ok v w ∧ RepD Φ (.agg ds) v := by
  obtain ⟨td, i, _, hi, hz, hagg⟩ := kind_info hk
  obtain ⟨vs, g1, g2, g3⟩ := RepL.toCells hl hd
  refine ⟨.agg vs.toArray, ?_, .agg g3⟩
  unfold loadVar; rw [Sem.run_bind, hagg]; simp only [Result.andThen_ok, if_true]
  rw [Sem.run_bind, run_sizeOf hi]; simp only [Result.andThen_ok]
  rw [Sem.run_bind, ← hz, ← g1, run_loadCells (fun k v hk => by rw [cell_of hw]; exact g2 k v hk)]; rfl

theorem load_scalar {t : TypeId} {b off : Nat} {v : Value} (hk : kindD P t = some false) (hw : w.cell? ⟨b, off, none⟩ = some v) : (loadVar t ⟨b, off, none⟩).run P w = .ok v w := by
  obtain ⟨td, i, _, hi, hz, hagg⟩ := kind_info hk
  unfold loadVar; rw [Sem.run_bind, hagg]; simp only [Result.andThen_ok, Bool.false_eq_true, if_false]
  exact run_load hw

theorem V.d?_known {v : V} {d : D} (h : v.d? = some d) : v.known = true := by cases v <;> simp_all [V.d?, V.known]

theorem does_load {t : TypeId} {x : Operand} {r : List Oper} (h : Inv κ Φ B au s a w) (ho : o.op = .load t x) (hk : stepK P o r s K) : Does P κ o a w K := by
  simp only [stepK, ho] at hk
  have hx : ∀ {ad v}, a.eval x = .pointer (some ad) → (loadVar t ad).run P w = .ok v w → (execOp a.eval o).run P w = .ok (.value v) w := by
    intro ad v e1 e2
    unfold execOp; rw [ho]; refine run_v ?_
    simp only [e1, run_loadAt]; exact e2
  have hr := ev_rep (P := P) h 0 x
  unfold loadK at hk
  split at hk
  · rename_i z xs i j e
    rw [e] at hr
    split at hk
    · rename_i d ed
      cases hxi : xs[i]? with
      | none => simp [hxi] at ed
      | some xd =>
        simp [hxi] at ed
        generalize hv : a.eval x = v at hr
        cases hr with
        | lptr he =>
          rename_i b off
          obtain ⟨e1, e2⟩ := he.get i xd hxi
          obtain ⟨v, g1, g2⟩ := load_part (w := w) (fun j d hj => by obtain ⟨c, q1, q2, q3⟩ := e2.get j d hj; exact ⟨c, h.phi _ _ _ _ q1, q2, q3⟩) ed
          exact does_plain h (hx hv g1) (.d g2) (fun _ => trivial) hk
    · exact hk.elim
  · rename_i id off e
    rw [e] at hr
    split at hk
    · rename_i cs ecs
      obtain ⟨b, c, el, hb, h1, h2, h3, h4⟩ := h.varAt ecs
      have hp := hr.ptr_inv hb
      split at hk
      · rename_i ekind
        obtain ⟨hl, hkn, hk⟩ := hk
        have hget : ∀ (j : Nat) V, ((cs.drop off).take (sizeD P t))[j]? = some V → ∃ v, c[off + j]? = some v ∧ okCell v ∧ RepS Φ B V v := fun j V hV => by
          have hk' := allKnown_get hkn j V hV
          rw [List.getElem?_take] at hV
          split at hV
          · rw [List.getElem?_drop] at hV
            obtain ⟨v, m1, m2, m3, _⟩ := h4 _ V hV
            exact ⟨v, m1, m2 hk', m3⟩
          · cases hV
        have hsz : off + sizeD P t ≤ c.size ∨ sizeD P t = 0 := by
          by_cases h0 : sizeD P t = 0
          · exact .inr h0
          · left; rw [h3]; simp at hl; omega
        have hvl : ((c.toList.drop off).take (sizeD P t)).length = sizeD P t := by
          rcases hsz with h0 | h0
          · simp; omega
          · rw [h0]; simp
        have hvg : ∀ (j : Nat) v, ((c.toList.drop off).take (sizeD P t))[j]? = some v → c[off + j]? = some v := fun j v hj => by
          rw [List.getElem?_take] at hj
          split at hj
          · rw [List.getElem?_drop, Array.getElem?_toList] at hj; exact hj
          · cases hj
        obtain ⟨r1, r2⟩ := mkAgg_rep (Φ := Φ) (B := B) (vs := (c.toList.drop off).take (sizeD P t)) hkn (by rw [hl, hvl]) fun j V v hV hv => by
          obtain ⟨v', m1, m2, m3⟩ := hget j V hV
          rw [hvg j v hv] at m1; injection m1 with m1; subst m1; exact ⟨m2, m3⟩
        exact does_plain h (hx hp (run_loadAgg ekind h2 hvl hvg)) r1 (fun _ => r2 _ _ _ _) hk
      · rename_i ekind
        split at hk
        · rename_i V eV
          obtain ⟨v, m1, m2, m3, m4⟩ := h4 off V eV
          have hc : w.cell? ⟨b, off, none⟩ = some v := by rw [cell_of h2]; exact m1
          have hload := load_scalar (P := P) ekind hc
          obtain ⟨hn, hk⟩ := hk
          cases htk : takes o.dst r with
          | false =>
            rw [htk] at hk
            simp only [Bool.false_eq_true, if_false] at hk
            exact does_plain h (hx hp hload) m3.cp (fun _ => OwnV_cp) hk
          | true =>
            rw [htk] at hk
            simp only [if_true] at hk
            cases hd : o.dst with
            | none => rw [hd, takes_none] at htk; cases htk
            | some d =>
              rw [hd] at hk
              refine does_value (hx hp hload) hk ⟨Φ, B, cellAu au id off (.slot d 0), ?_⟩
              rw [hd]
              exact h.takeCell ecs eV hb hc hn d
        · exact hk.elim
      · exact hk.elim
    · exact hk.elim
  · rename_i id z i j e
    rw [e] at hr
    split at hk
    · rename_i z' xs exs
      split at hk
      · rename_i d ed
        obtain ⟨b, c, el, hb, h1, h2, h3, h4⟩ := h.arrAt exs (by rintro rfl; simp at ed)
        cases hxi : xs[i]? with
        | none => simp [hxi] at ed
        | some xd =>
          simp [hxi] at ed
          obtain ⟨q1, q2⟩ := h4 i xd hxi
          generalize hv : a.eval x = v at hr
          cases hr with
          | aptr e2 =>
            rw [hb] at e2; injection e2 with e2; subst e2
            obtain ⟨hz, hk⟩ := hk
            subst hz
            obtain ⟨v, g1, g2⟩ := load_part (P := P) (w := w) (b := b) (off := i * z) (fun j d hj => by obtain ⟨c', k1, k2, k3⟩ := q2 j d hj; exact ⟨c', by rw [cell_of h2]; exact k1, k2, k3⟩) ed
            exact does_plain h (hx hv g1) (.d g2) (fun _ => trivial) hk
      · exact hk.elim
    · exact hk.elim
  · exact hk.elim

end
end Go.Idl
end
section
namespace Go.Idl

/-- A row of cells is written into a block. -/
structure Writes (w w' : World) (b : Nat) (c : Array Value) (el : TypeId) (off : Nat) (vs : List Value) : Prop where
  size : w'.heap.size = w.heap.size
  here : ∃ c' : Array Value, w'.heap[b]? = some (.cells c' el (0, 0)) ∧ c'.size = c.size ∧ (∀ k, off ≤ k → k < off + vs.length → c'[k]? = vs[k - off]?) ∧ (∀ k, k < off ∨ off + vs.length ≤ k → c'[k]? = c[k]?)
  there : ∀ b', b' ≠ b → w'.heap[b']? = w.heap[b']?
  tape : w'.tape = w.tape
  os : w'.os = w.os
  out : w'.output = w.output

theorem heap_setCell_ne {w : World} {b o b' : Nat} {v : Value} (h : b' ≠ b) : (w.setCell ⟨b, o, none⟩ v).heap[b']? = w.heap[b']? := by
  simp only [World.setCell]
  rw [Array.getElem?_modify]
  simp [Ne.symm h]

theorem heap_setCell_eq {w : World} {b o : Nat} {c : Array Value} {el : TypeId} {fr : Nat × Nat} {v : Value} (h : w.heap[b]? = some (.cells c el fr)) : (w.setCell ⟨b, o, none⟩ v).heap[b]? = some (.cells (c.setIfInBounds o v) el fr) := by
  simp only [World.setCell]
  rw [Array.getElem?_modify]
  simp [h]

theorem run_store {P : Program} {w : World} {b o : Nat} {c : Array Value} {el : TypeId} {v : Value} (h : w.heap[b]? = some (.cells c el (0, 0))) (ho : o < c.size) (hv : okCell v) :
    (store ⟨b, o, none⟩ v).run P w = .ok () (w.setCell ⟨b, o, none⟩ v) := by
  have hc : w.cell? ⟨b, o, none⟩ = some c[o] := by rw [cell_of h]; exact Array.getElem?_eq_getElem ho
  have hf := frozen_of (w := w) (o := o) h
  cases v <;> simp [okCell] at hv <;> simp [store, Sem.run, hc, hf]

theorem run_storeCells {P : Program} {b off : Nat} {el : TypeId} : ∀ (vs : List Value) (i : Nat) (w : World) (c : Array Value), w.heap[b]? = some (.cells c el (0, 0)) → off + i + vs.length ≤ c.size → (∀ v ∈ vs, okCell v) →
    ∃ w', (storeCells ⟨b, off, none⟩ vs i).run P w = .ok () w' ∧ Writes w w' b c el (off + i) vs
  | [], i, w, c, h, _, _ => ⟨w, rfl, rfl, ⟨c, h, rfl, fun k h1 h2 => absurd h2 (by simp; omega), fun _ _ => rfl⟩, fun _ _ => rfl, rfl, rfl, rfl⟩
  | v :: vs, i, w, c, h, hl, hv => by
    simp only [List.length_cons] at hl
    have h1 := run_store (P := P) (o := off + i) h (by omega) (hv v (by simp))
    have h2 := heap_setCell_eq (o := off + i) (v := v) h
    obtain ⟨w', g1, g2⟩ := run_storeCells (P := P) (b := b) (off := off) vs (i + 1) _ _ h2 (by simp; omega) (fun x hx => hv x (by simp [hx]))
    refine ⟨w', ?_, ?_⟩
    · simp only [storeCells, Sem.run_bind, addr_add]
      rw [h1]; simp only [Result.andThen_ok]; exact g1
    · obtain ⟨c', k1, k2, k3, k4⟩ := g2.here
      refine ⟨g2.size.trans (by simp [World.setCell]), ⟨c', k1, by simpa using k2, fun k h1 h2 => ?_, fun k hk => ?_⟩, fun b' hb => (g2.there b' hb).trans (heap_setCell_ne hb), g2.tape, g2.os, g2.out⟩
      · simp only [List.length_cons] at h2
        by_cases e : k = off + i
        · subst e
          rw [k4 _ (.inl (by omega))]
          simp [Array.getElem?_setIfInBounds, show off + i < c.size by omega]
        · rw [k3 k (by omega) (by omega)]
          obtain ⟨m, rfl⟩ : ∃ m, k = off + i + (m + 1) := ⟨k - (off + i) - 1, by omega⟩
          rw [show off + i + (m + 1) - (off + (i + 1)) = m by omega, show off + i + (m + 1) - (off + i) = m + 1 by omega]; simp
      · simp only [List.length_cons] at hk
        rw [k4 k (by omega), Array.getElem?_setIfInBounds, if_neg (by omega)]

section
variable {P : Program} {κ : Ctx} {Φ : CM} {B : List Nat} {au : Auth} {s : St} {a : Act} {w : World} {K : St → Prop} {o : Oper}

/-- A block of an object's is written: nobody else feels it. -/
theorem Inv.write (h : Inv κ Φ B au s a w) {id b : Nat} {o' : IObj} {w' : World} (hb : B[id]? = some b) (ha : au b = some (.obj id, 0))
    (hs : w'.heap.size = w.heap.size) (ht : ∀ b', b' ≠ b → w'.heap[b']? = w.heap[b']?) (h1 : w'.tape = w.tape) (h2 : w'.os = w.os) (h3 : w'.output = w.output)
    (hl : ∀ r, w.heap[b]? = some (.loop r) → ∃ r', w'.heap[b]? = some (.loop r'))
    (hO : RepO Φ B au w' id b o') : Inv κ Φ B au { s with hp := s.hp.set id o' } a w' := by
  have hne : ∀ b' h0 st, au b' = some (h0, st) → h0 ≠ .obj id → w'.heap[b']? = w.heap[b']? := fun b' h0 st e hn => ht b' (by rintro rfl; rw [ha] at e; injection e with e; injection e with e _; exact hn e.symm)
  refine { h with phi := fun lb b' o v e => ?_, auw := fun b' h0 st e => ?_, size := by rw [hs]; exact h.size, keep := fun b' hb' hm => ?_, tm := fun i V v hV hv => ?_, hl := by simpa using h.hl, nb := ⟨h.nb.1, by simpa using h.nb.2⟩, hp := fun id' o b' ho hb' => ?_, df := ?_, rd := fun l hl' => ?_, lp := fun l r hl' => ?_, wo := ⟨h1.trans h.wo.1, h2.trans h.wo.2.1, h3.trans h.wo.2.2⟩ }
  · have : b' ≠ b := by rintro rfl; exact absurd (h.phia _ _ _ _ _ _ e ha) (Nat.not_lt_zero _)
    have hc := h.phi _ b' o v e
    unfold World.cell? at *
    simp only at hc ⊢
    rw [ht b' this]; exact hc
  · rw [hs]; exact h.auw b' h0 st e
  · rw [ht b' ?_]; exact h.keep b' hb' hm
    rintro rfl
    rcases (h.auw _ _ _ ha).2 with x | x
    · exact hm x
    · omega
  · obtain ⟨k1, k2⟩ := h.tm i V v hV hv
    exact ⟨k1, k2.mono fun j b st e => ⟨e, hne b _ st e (by simp)⟩⟩
  · by_cases e : id = id'
    · subst e
      have hlt : id < s.hp.length := by rw [h.hl]; exact (List.getElem?_eq_some_iff.1 hb).1
      simp [hlt] at ho; subst ho
      rw [hb] at hb'; injection hb' with hb'; subst hb'
      exact hO
    · simp [e] at ho
      exact (h.hp id' o b' ho hb').mono (CM.le_refl _) (fun _ _ h => h) (fun hh => ⟨hh, hne b' _ _ hh (by intro x; injection x with x; exact e x.symm)⟩) (fun j b st hh => ⟨hh, hne b _ st hh (by simp)⟩)
  · obtain ⟨rs, k1, k2, k3⟩ := h.df
    refine ⟨rs, k1, k2, fun r hr => ?_⟩
    obtain ⟨x, y, z⟩ := k3 r hr
    exact ⟨(ht r (by rintro rfl; rw [y] at ha; cases ha)).trans x, y, z⟩
  · obtain ⟨r, hr⟩ := h.rd l hl'
    by_cases e : l = b
    · subst e; exact hl r hr
    · exact ⟨r, (ht l e).trans hr⟩
  · obtain ⟨r, hr⟩ := h.lp l r hl'
    by_cases e : l = b
    · subst e; exact hl r hr
    · exact ⟨r, (ht l e).trans hr⟩

/-- What a slot owns is given away. -/
theorem Inv.give (h : Inv κ Φ B au s a w) (i : Nat) (h' : Nat → Holder) : Inv κ Φ B (moveAu au i h') { s with tm := s.tm.set i (s.tm.getD i .un).cp } a w := by
  have hs := h.strip i
  refine { hs with phia := fun lb b o v h0 st hp ha => ?_, auw := fun b h0 st ha => ?_, tl := by simpa using h.tl, tm := fun k V' v' hV hv => ?_, hp := fun id o b ho hb => ?_, df := ?_ }
  · obtain ⟨h1, e⟩ := moveAu_inv ha; exact h.phia _ b o v h1 st hp e
  · obtain ⟨h1, e⟩ := moveAu_inv ha; exact h.auw b h1 st e
  · obtain ⟨k1, k2⟩ := hs.tm k V' v' hV hv
    refine ⟨k1, ?_⟩
    by_cases e2 : i = k
    · subst e2
      have hl : i < s.tm.length := by
        have := (Array.getElem?_eq_some_iff.1 hv).1; rw [h.tl]; exact this
      simp [hl] at hV
      subst hV
      exact OwnV_cp
    · exact k2.mono fun j b st hh => ⟨moveAu_other hh (by rintro j' hh'; injection hh' with hh'; exact e2 hh'.symm), rfl⟩
  · refine (h.hp id o b ho hb).mono (CM.le_refl _) (fun _ _ h => h) (fun hh => ⟨moveAu_other hh (by simp), rfl⟩) (fun j b st hh => ⟨moveAu_other hh (by simp), rfl⟩)
  · obtain ⟨rs, h1, h2, h3⟩ := h.df
    exact ⟨rs, h1, h2, fun r hr => let ⟨x, y, z⟩ := h3 r hr; ⟨x, moveAu_none y, z⟩⟩

theorem run_storeAt {t : TypeId} {b off : Nat} {c : Array Value} {el : TypeId} {v : Value} (hk : (kindD P t).isSome = true) (hn : v.cells.size = sizeD P t) (hw : w.heap[b]? = some (.cells c el (0, 0))) (hl : off + sizeD P t ≤ c.size)
    (hv : ∀ x ∈ v.cells.toList, okCell x) : ∃ w', (Instr.storeAt t (.pointer (some ⟨b, off, none⟩)) v).run P w = .ok () w' ∧ Writes w w' b c el off v.cells.toList := by
  obtain ⟨k, hk⟩ := Option.isSome_iff_exists.1 hk
  obtain ⟨td, i, _, hi, hz, hagg⟩ := kind_info hk
  obtain ⟨w', g1, g2⟩ := run_storeCells (P := P) (off := off) v.cells.toList 0 w c hw (by rw [Array.length_toList, hn]; omega) hv
  refine ⟨w', ?_, g2⟩
  show (storeVar t ⟨b, off, none⟩ v).run P w = _
  unfold storeVar
  rw [Sem.run_bind, run_sizeOf hi]; simp only [Result.andThen_ok]
  rw [if_neg (by rw [hn, hz]; simp)]
  exact g1

theorem own_cell {z : Nat} {xs : List D} {v : Value} (h : RepS Φ B (.own z xs) v) {k : Nat} (hk : k < v.cells.size) : v.cells[k] = v := by
  cases h with | own hh => cases hh <;> simp [Value.cells]

/-- a store into a variable -/
theorem does_store_var {t : TypeId} {x y : Operand} {r : List Oper} {id off : Nat} {cs : List V} (h : Inv κ Φ B au s a w) (ho : o.op = .store t x y) (e : ev P 0 s x = .ptr id off) (ecs : s.hp[id]? = some (.var cs))
    (hkd : (kindD P t).isSome = true) (hfl : (ev P t s y).flat.length = sizeD P t) (hof : off + sizeD P t ≤ cs.length) (hkn : (ev P t s y).known = true)
    (hk : K (({ s with hp := s.hp.set id (.var (cs.take off ++ (ev P t s y).flat ++ cs.drop (off + sizeD P t))), tm := s.at_ y (ev P t s y).cp } : St).put o.dst .un)) : Does P κ o a w K := by
  have hr := ev_rep (P := P) h 0 x
  rw [e] at hr
  obtain ⟨b, c, el, hb, h1, h2, h3, h4⟩ := h.varAt ecs
  have hp := hr.ptr_inv hb
  have hy := ev_rep (P := P) h t y
  obtain ⟨f1, f2⟩ := flat_rep hy hkn
  have hcells : ∀ x ∈ (a.eval y).cells.toList, okCell x := by
    intro x hx
    obtain ⟨j, hj, rfl⟩ := List.getElem_of_mem hx
    have hj' : j < (ev P t s y).flat.length := by rw [f1]; simpa using hj
    exact (f2 j _ _ (List.getElem?_eq_getElem hj') (by rw [← Array.getElem?_toList]; exact List.getElem?_eq_getElem hj)).1
  obtain ⟨w', g1, g2⟩ := run_storeAt (P := P) (t := t) (off := off) hkd (by rw [← f1]; exact hfl) h2 (by rw [h3]; exact hof) hcells
  have hx : (execOp a.eval o).run P w = .ok .skip w' := by
    unfold execOp; rw [ho]; refine run_u ?_
    simp only [hp]; exact g1
  -- whose is what is stored
  obtain ⟨au', hi, hown⟩ : ∃ au', Inv κ Φ B au' { s with tm := s.at_ y (ev P t s y).cp } a w ∧ (∀ b h0 st, au b = some (h0, st) → (∀ i j, h0 ≠ .slot i j) → au' b = some (h0, st)) ∧
      (∀ z xs, ev P t s y = .own z xs → TailOK au' w (.cell id off) z (a.eval y)) := by
    cases y with
    | tmp i =>
      refine ⟨_, h.give i (fun _ => .cell id off), fun b h0 st e hn => moveAu_other e (fun j => hn i j), fun z xs ez => ?_⟩
      have := (tm_get h i).2
      have ez' : s.tm.getD i .un = .own z xs := ez
      rw [ez'] at this
      exact TailOK.mono this fun b st e => ⟨moveAu_slot e, rfl⟩
    | const v =>
      refine ⟨au, h, fun _ _ _ e _ => e, fun z xs ez => ?_⟩
      have := (constV_rep (P := P) (t := t) (v := v) (Φ := Φ) (B := B) (au := au) (w := w) (h := fun _ => .cell id off)).2.1
      have ez' : constV P t v = .own z xs := ez
      rw [ez'] at this; exact this
    | «global» g => exact ⟨au, h, fun _ _ _ e _ => e, fun z xs ez => by cases ez⟩
    | func f => exact ⟨au, h, fun _ _ _ e _ => e, fun z xs ez => by cases ez⟩
  obtain ⟨hother, htail⟩ := hown
  have ha' := hother b _ _ h1 (by simp)
  obtain ⟨c', q1, q2, q3, q4⟩ := g2.here
  have hnb : ∀ b' h0 st, au' b' = some (h0, st) → h0 ≠ .obj id → w'.heap[b']? = w.heap[b']? := fun b' h0 st e hn => g2.there b' (by rintro rfl; rw [ha'] at e; injection e with e; injection e with e _; exact hn e.symm)
  have hO : RepO Φ B au' w' id b (.var (cs.take off ++ (ev P t s y).flat ++ cs.drop (off + sizeD P t))) := by
    have hlen : (a.eval y).cells.toList.length = sizeD P t := by rw [Array.length_toList, ← f1, hfl]
    refine ⟨ha', c', el, q1, by rw [q2, h3]; simp [hfl]; omega, fun j V hj => ?_⟩
    by_cases hj1 : j < off
    · rw [List.append_assoc, List.getElem?_append_left (by simp; omega), List.getElem?_take, if_pos hj1] at hj
      obtain ⟨v, m1, m2, m3, m4⟩ := h4 j V hj
      exact ⟨v, by rw [q4 j (.inl hj1)]; exact m1, m2, m3, m4.mono fun _ b' st e => ⟨hother b' _ st e (by simp), hnb b' _ st (hother b' _ st e (by simp)) (by simp)⟩⟩
    · by_cases hj2 : j < off + sizeD P t
      · rw [List.append_assoc, List.getElem?_append_right (by simp; omega)] at hj
        rw [show (cs.take off).length = off by simp; omega, List.getElem?_append_left (by omega)] at hj
        have hjc : j - off < (a.eval y).cells.size := by rw [← f1]; exact (List.getElem?_eq_some_iff.1 hj).1
        have hv : (a.eval y).cells[j - off]? = some (a.eval y).cells[j - off] := Array.getElem?_eq_getElem hjc
        obtain ⟨m1, m2, m3, m4⟩ := f2 _ V _ hj hv
        refine ⟨_, by rw [q3 j (by omega) (by rw [hlen]; omega), Array.getElem?_toList]; exact hv, fun _ => m1, m3, ?_⟩
        cases hV : ev P t s y with
        | own z xs =>
          rw [hV] at hj f1
          simp [Idl.V.flat] at hj f1
          have : j = off := by
            have := (List.getElem?_eq_some_iff.1 hj).1; simp at this; omega
          subst this
          simp at hj; subst hj
          have ht := htail z xs hV
          have e5 : (a.eval y).cells[j - j] = a.eval y := by
            exact own_cell (by rw [← hV]; exact hy) _
          rw [e5]
          refine ht.mono fun b' st e => ⟨e, hnb b' _ st e (by simp)⟩
        | tup vs => rw [hV] at hkn; simp [Idl.V.known] at hkn
        | _ => exact m4 (by rw [hV]; rfl) _ _ _
      · rw [List.getElem?_append_right (by simp [hfl]; omega)] at hj
        rw [show (cs.take off ++ (ev P t s y).flat).length = off + sizeD P t by simp [hfl]; omega, List.getElem?_drop, show off + sizeD P t + (j - (off + sizeD P t)) = j by omega] at hj
        obtain ⟨v, m1, m2, m3, m4⟩ := h4 j V hj
        exact ⟨v, by rw [q4 j (.inr (by rw [hlen]; omega))]; exact m1, m2, m3, m4.mono fun _ b' st e => ⟨hother b' _ st e (by simp), hnb b' _ st (hother b' _ st e (by simp)) (by simp)⟩⟩
  have hfin := hi.write (o' := .var (cs.take off ++ (ev P t s y).flat ++ cs.drop (off + sizeD P t))) hb ha' g2.size g2.there g2.tape g2.os g2.out (fun r hr => by rw [h2] at hr; cases hr) hO
  exact does_skip hx hk ⟨Φ, B, au', hfin.put o.dst (.un _) fun _ _ => trivial⟩

end
end Go.Idl
end
section
namespace Go.Idl

theorem setAt_flat {x : D} {j : Nat} {y : List D} (hl : j + y.length ≤ x.flat.length) (hn : (∃ cs, x = .agg cs) ∨ y = []) :
    (x.setAt j y).flat.length = x.flat.length ∧ ∀ k, (x.setAt j y).flat[k]? = if j ≤ k ∧ k < j + y.length then y[k - j]? else x.flat[k]? := by
  rcases hn with ⟨cs, rfl⟩ | rfl
  · simp only [D.setAt, D.flat] at *
    refine ⟨by simp; omega, fun k => ?_⟩
    split
    · rename_i h
      rw [List.append_assoc, List.getElem?_append_right (by simp; omega), List.getElem?_append_left (by simp; omega)]
      congr 1; simp; omega
    · rename_i h
      by_cases hk : k < j
      · rw [List.append_assoc, List.getElem?_append_left (by simp; omega), List.getElem?_take, if_pos hk]
      · rw [List.getElem?_append_right (by simp; omega), List.getElem?_drop]
        congr 1; simp; omega
  · cases x <;> simp [D.setAt, D.flat] <;> (intro k h1 h2; omega)

section
variable {P : Program} {κ : Ctx} {Φ : CM} {B : List Nat} {au : Auth} {s : St} {a : Act} {w : World} {K : St → Prop} {o : Oper}

theorem does_store {t : TypeId} {x y : Operand} {r : List Oper} (h : Inv κ Φ B au s a w) (ho : o.op = .store t x y) (hk : stepK P o r s K) : Does P κ o a w K := by
  simp only [stepK, ho] at hk
  unfold storeK at hk
  split at hk
  · rename_i id off e
    split at hk
    · rename_i cs ecs
      obtain ⟨h1, h2, h3, h4, h5⟩ := hk
      exact does_store_var (r := r) h ho e ecs h1 h2 h3 h4 h5
    · exact hk.elim
  · rename_i id z i j e
    split at hk
    · rename_i z' xs yd exs eyd
      split at hk
      · rename_i xd exd
        obtain ⟨hkd, rfl, hfl, hj, hk⟩ := hk
        have hr := ev_rep (P := P) h 0 x
        rw [e] at hr
        obtain ⟨b, c, el, hb, h1, h2, h3, h4⟩ := h.arrAt exs (by rintro rfl; simp at exd)
        have hp : a.eval x = .pointer (some ⟨b, i * z + j, none⟩) := by
          generalize a.eval x = v at hr
          cases hr with | aptr e2 => rw [hb] at e2; injection e2 with e2; rw [e2]
        have hy := ev_d? (P := P) h eyd
        have hyl := hy.flat
        obtain ⟨f1, f2⟩ := hyl.get
        have hil : i < xs.length := (List.getElem?_eq_some_iff.1 exd).1
        have hiz : i * z + z ≤ xs.length * z := by
          have : (i + 1) * z ≤ xs.length * z := Nat.mul_le_mul_right z hil
          rw [Nat.add_mul] at this; omega
        have hcells : ∀ x ∈ (a.eval y).cells.toList, okCell x := by
          intro x hx
          obtain ⟨k, hk, rfl⟩ := List.getElem_of_mem hx
          have hk' : k < yd.flat.length := by rw [f1]; exact hk
          exact (f2 k _ _ (List.getElem?_eq_getElem hk') (List.getElem?_eq_getElem hk)).1
        obtain ⟨w', g1, g2⟩ := run_storeAt (P := P) (t := t) (off := i * z + j) hkd (by rw [← hfl, f1]; simp) h2 (by rw [h3]; omega) hcells
        have hx : (execOp a.eval o).run P w = .ok .skip w' := by
          unfold execOp; rw [ho]; refine run_u ?_
          simp only [hp]; exact g1
        obtain ⟨c', q1, q2, q3, q4⟩ := g2.here
        have hlen : (a.eval y).cells.toList.length = sizeD P t := by rw [← f1, hfl]
        obtain ⟨hxz, hxc⟩ := h4 i xd exd
        -- the new element
        have hnew : ∃ x', x' = (if j = 0 ∧ sizeD P t = z then yd else xd.setAt j yd.flat) ∧ x'.flat.length = z ∧ ∀ k, x'.flat[k]? = if j ≤ k ∧ k < j + sizeD P t then yd.flat[k - j]? else xd.flat[k]? := by
          refine ⟨_, rfl, ?_⟩
          split
          · rename_i hh
            obtain ⟨rfl, hz⟩ := hh
            refine ⟨by rw [hfl, hz], fun k => ?_⟩
            split
            · simp
            · rw [List.getElem?_eq_none (by omega), List.getElem?_eq_none (by omega)]
          · rename_i hh
            obtain ⟨m1, m2⟩ := setAt_flat (x := xd) (j := j) (y := yd.flat) (by rw [hfl, hxz]; exact hj) (by
              cases xd with
              | agg cs => exact .inl ⟨cs, rfl⟩
              | _ =>
                right
                simp [D.flat] at hxz
                have : yd.flat.length = 0 := by
                  rw [hfl]
                  by_cases hs0 : sizeD P t = 0
                  · exact hs0
                  · exact absurd ⟨by omega, by omega⟩ hh
                exact List.length_eq_zero_iff.1 this)
            exact ⟨m1.trans hxz, fun k => by rw [m2, hfl]⟩
        obtain ⟨x', ex', hx'z, hx'c⟩ := hnew
        rw [← ex'] at hk
        have hO : RepO Φ B au w' id b (.arr z (xs.set i x')) := by
          refine fun _ => ⟨h1, c', el, q1, by rw [q2, h3]; simp, fun i' xv hxv => ?_⟩
          rw [List.getElem?_set] at hxv
          by_cases ei : i = i'
          · subst ei
            simp [hil] at hxv; subst hxv
            refine ⟨hx'z, fun k d hd => ?_⟩
            have hkz : k < z := by rw [← hx'z]; exact (List.getElem?_eq_some_iff.1 hd).1
            rw [hx'c] at hd
            split at hd
            · rename_i hkr
              have hk2 : k - j < (a.eval y).cells.toList.length := by rw [← f1]; exact (List.getElem?_eq_some_iff.1 hd).1
              obtain ⟨m1, m2⟩ := f2 _ d _ hd (List.getElem?_eq_getElem hk2)
              refine ⟨_, ?_, m1, m2⟩
              rw [q3 _ (by omega) (by rw [hlen]; omega), show i * z + k - (i * z + j) = k - j by omega]
              exact List.getElem?_eq_getElem hk2
            · rename_i hkr
              obtain ⟨v, m1, m2, m3⟩ := hxc k d hd
              exact ⟨v, by rw [q4 _ (by rw [hlen]; omega)]; exact m1, m2, m3⟩
          · simp [ei] at hxv
            obtain ⟨m1, m2⟩ := h4 i' xv hxv
            refine ⟨m1, fun k d hd => ?_⟩
            obtain ⟨v, k1, k2, k3⟩ := m2 k d hd
            have hkz : k < z := by rw [← m1]; exact (List.getElem?_eq_some_iff.1 hd).1
            refine ⟨v, ?_, k2, k3⟩
            rw [q4]; exact k1
            rw [hlen]
            rcases Nat.lt_or_gt_of_ne ei with hlt | hgt
            · right
              have : (i + 1) * z ≤ i' * z := Nat.mul_le_mul_right z hlt
              rw [Nat.add_mul] at this; omega
            · left
              have : (i' + 1) * z ≤ i * z := Nat.mul_le_mul_right z hgt
              rw [Nat.add_mul] at this; omega
        have hfin := h.write (o' := .arr z (xs.set i x')) hb h1 g2.size g2.there g2.tape g2.os g2.out (fun r hr => by rw [h2] at hr; cases hr) hO
        exact does_skip hx hk ⟨Φ, B, au, hfin.put o.dst (.un _) fun _ _ => trivial⟩
      · exact hk.elim
    · exact hk.elim
  · exact hk.elim

theorem run_fieldAt {t : TypeId} {f n : Nat} {ft : TypeId} {b off : Nat} (e : fieldOff P t f = some (n, ft)) :
    (Instr.fieldAt t (.pointer (some ⟨b, off, none⟩)) f).run P w = .ok (.pointer (some ⟨b, off + n, none⟩)) w := by
  unfold fieldOff at e
  cases hu : P.underlying t with
  | none => simp [hu] at e
  | some d =>
    cases d <;> simp [hu] at e
    rename_i fs
    cases hf : fs[f]? with
    | none => simp [hf] at e
    | some x =>
      simp only [hf] at e
      cases hi : P.info? x.type with
      | none => simp [hi] at e
      | some i =>
        simp only [hi] at e
        split at e
        · simp at e
        · rename_i hz
          simp at e
          obtain ⟨rfl, rfl⟩ := e
          unfold Instr.fieldAt
          rw [Sem.run_bind, run_underlying hu]; simp only [Result.andThen_ok, hf]
          simp only [Instr.sureAddr, pure_bind, Sem.run_bind]
          unfold fieldPlace
          rw [Sem.run_bind, run_sizeOf hi]; simp only [Result.andThen_ok]
          rw [if_neg hz, addr_add]; rfl

theorem does_fieldAddr {t : TypeId} {x : Operand} {f : Nat} {r : List Oper} (h : Inv κ Φ B au s a w) (ho : o.op = .fieldAddr t x f) (hk : stepK P o r s K) : Does P κ o a w K := by
  simp only [stepK, ho] at hk
  have hr := ev_rep (P := P) h 0 x
  have hx : ∀ {b off n ft}, a.eval x = .pointer (some ⟨b, off, none⟩) → fieldOff P t f = some (n, ft) → (execOp a.eval o).run P w = .ok (.value (.pointer (some ⟨b, off + n, none⟩))) w := by
    intro b off n ft e1 e2
    unfold execOp; rw [ho]; refine run_v ?_
    simp only [e1]; exact run_fieldAt e2
  split at hk
  · rename_i id off n ft e1 e2
    rw [e1] at hr
    generalize hv : a.eval x = v at hr
    cases hr with | ptr hb => exact does_plain h (hx hv e2) (.ptr hb) (fun _ => trivial) hk
  · rename_i z xs i j n ft e1 e2
    rw [e1] at hr
    generalize hv : a.eval x = v at hr
    cases hr with
    | lptr he =>
      have := hx hv e2
      rw [Nat.add_assoc] at this
      exact does_plain h this (.lptr he) (fun _ => trivial) hk
  · rename_i id z i j n ft e1 e2
    rw [e1] at hr
    generalize hv : a.eval x = v at hr
    cases hr with
    | aptr hb =>
      have := hx hv e2
      rw [Nat.add_assoc] at this
      exact does_plain h this (.aptr hb) (fun _ => trivial) hk
  · exact hk.elim

theorem run_part {t : TypeId} {cs : List Value} {ds : List D} {j : Nat} {d : D} (hl : RepL Φ ds cs) (e : partD P t (.agg ds) j = some d) : ∃ v, (part t cs.toArray j).run P w = .ok v w ∧ RepD Φ d v := by
  obtain ⟨h1, h2⟩ := hl.get
  unfold partD at e
  cases hk : kindD P t with
  | none => simp [hk] at e
  | some k =>
    obtain ⟨td, i, _, hi, hz, hagg⟩ := kind_info hk
    simp only [hk] at e
    unfold part
    rw [Sem.run_bind, hagg]; simp only [Result.andThen_ok]
    cases k with
    | false =>
      simp only [D.flat] at e
      have hj : j < cs.length := by rw [← h1]; exact (List.getElem?_eq_some_iff.1 e).1
      refine ⟨cs[j], ?_, (h2 j d _ e (List.getElem?_eq_getElem hj)).2⟩
      simp [hj]
    | true =>
      simp only at e
      simp only [if_true]
      rw [Sem.run_bind, run_sizeOf hi]; simp only [Result.andThen_ok]
      have key : ∀ (ds' : List D), ds' = (ds.drop j).take i.size → RepD Φ (.agg ds') (.agg (cs.toArray.extract j (j + i.size))) := by
        rintro ds' rfl
        have : cs.toArray.extract j (j + i.size) = ((cs.drop j).take i.size).toArray := by simp [List.extract_eq_take_drop]
        rw [this]
        refine .agg (RepL.of (by simp [h1]) fun k d c hd hc => ?_)
        rw [List.getElem?_take] at hd hc
        split at hd
        · rename_i hk; simp only [hk, if_true] at hc; rw [List.getElem?_drop] at hd hc; exact h2 _ d c hd hc
        · cases hd
      rw [hz] at e
      split at e
      · rename_i hj; injection e with e; subst e
        exact ⟨_, rfl, key ds (by rw [hj.1, List.drop_zero, List.take_of_length_le (by omega)])⟩
      · split at e
        · injection e with e; subst e; exact ⟨_, rfl, key _ rfl⟩
        · cases e

theorem run_partV {t : TypeId} {cs : List Value} {Vs : List V} {j : Nat} {V : V} (hl : RepSL Φ B Vs cs) (ok : ∀ c ∈ cs, okCell c) (q : ∀ V ∈ Vs, V.cp = V ∧ V.known = true) (e : partV P t Vs j = some V) :
    ∃ v, (part t cs.toArray j).run P w = .ok v w ∧ RepS Φ B V v ∧ ∀ au w h, OwnV au w h V v := by
  obtain ⟨h1, h2⟩ := hl.get
  unfold partV at e
  cases hk : kindD P t with
  | none => simp [hk] at e
  | some k =>
    obtain ⟨td, i, _, hi, hz, hagg⟩ := kind_info hk
    simp only [hk] at e
    unfold part
    rw [Sem.run_bind, hagg]; simp only [Result.andThen_ok]
    cases k with
    | false =>
      cases hj : Vs[j]? with
      | none => simp [hj] at e
      | some V' =>
        simp [hj] at e; subst e
        have hlt : j < cs.length := by rw [← h1]; exact (List.getElem?_eq_some_iff.1 hj).1
        refine ⟨cs[j], ?_, (h2 j V' _ hj (List.getElem?_eq_getElem hlt)).cp, fun _ _ _ => OwnV_cp⟩
        simp [hlt]
    | true =>
      simp only at e
      split at e
      · rename_i hlen
        injection e with e; subst e
        simp only [if_true]
        rw [Sem.run_bind, run_sizeOf hi]; simp only [Result.andThen_ok]
        have hx : cs.toArray.extract j (j + i.size) = ((cs.drop j).take (sizeD P t)).toArray := by rw [hz]; simp [List.extract_eq_take_drop]
        have hkn : allKnown ((Vs.drop j).take (sizeD P t)) = true := by
          have aux : ∀ l : List Idl.V, (∀ V ∈ l, V.known = true) → allKnown l = true := by
            intro l
            induction l with
            | nil => intro _; rfl
            | cons x l ih => intro h; simp only [allKnown, Bool.and_eq_true]; exact ⟨h x (by simp), ih fun V hV => h V (by simp [hV])⟩
          exact aux _ fun V hV => (q V (List.mem_of_mem_drop (List.mem_of_mem_take hV))).2
        obtain ⟨r1, r2⟩ := mkAgg_rep (Φ := Φ) (B := B) (vs := (cs.drop j).take (sizeD P t)) hkn (by simp [h1]) fun k V v hV hv => by
          rw [List.getElem?_take] at hV hv
          split at hV
          · rename_i hk'
            rw [if_pos hk'] at hv
            rw [List.getElem?_drop] at hV hv
            exact ⟨ok v (List.mem_of_getElem? hv), h2 _ V v hV hv⟩
          · cases hV
        refine ⟨.agg (cs.toArray.extract j (j + i.size)), rfl, by rw [hx]; exact r1, fun au w h => r2 au w h _⟩
      · cases e

theorem does_field {t : TypeId} {x : Operand} {f : Nat} {r : List Oper} (h : Inv κ Φ B au s a w) (ho : o.op = .field t x f) (hk : stepK P o r s K) : Does P κ o a w K := by
  simp only [stepK, ho] at hk
  split at hk
  · rename_i d n ft e1 e2
    split at hk
    · rename_i y ey
      obtain ⟨hd, hk⟩ := hk
      have hr := ev_d h e1
      cases d <;> simp only at hd
      rename_i ds
      generalize hv : a.eval x = v at hr
      cases hr with
      | agg hl =>
        obtain ⟨v, g1, g2⟩ := run_part (w := w) hl ey
        refine does_plain h ?_ (.d g2) (fun _ => trivial) hk
        unfold execOp; rw [ho]; refine run_v ?_
        unfold fieldOff at e2
        cases hu : P.underlying t with
        | none => simp [hu] at e2
        | some d =>
          cases d <;> simp [hu] at e2
          rename_i fs
          cases hf : fs[f]? with
          | none => simp [hf] at e2
          | some x' =>
            simp only [hf] at e2
            cases hi : P.info? x'.type with
            | none => simp [hi] at e2
            | some i =>
              simp only [hi] at e2
              split at e2
              · simp at e2
              · simp at e2
                obtain ⟨rfl, rfl⟩ := e2
                unfold Instr.field
                rw [Sem.run_bind, run_underlying hu]; simp only [Result.andThen_ok, hf, hv, asAgg, pure_bind]
                exact g1
    · exact hk.elim
  · rename_i Vs n ft e1 e2
    split at hk
    · rename_i y ey
      have hr := ev_rep (P := P) h t x
      rw [e1] at hr
      generalize hv : a.eval x = v at hr
      cases hr with
      | st hl ok q =>
        obtain ⟨v, g1, g2, g3⟩ := run_partV (w := w) hl ok q ey
        refine does_plain h ?_ g2 (fun _ => g3 _ _ _) hk
        unfold execOp; rw [ho]; refine run_v ?_
        unfold fieldOff at e2
        cases hu : P.underlying t with
        | none => simp [hu] at e2
        | some d =>
          cases d <;> simp [hu] at e2
          rename_i fs
          cases hf : fs[f]? with
          | none => simp [hf] at e2
          | some x' =>
            simp only [hf] at e2
            cases hi : P.info? x'.type with
            | none => simp [hi] at e2
            | some i =>
              simp only [hi] at e2
              split at e2
              · simp at e2
              · simp at e2
                obtain ⟨rfl, rfl⟩ := e2
                unfold Instr.field
                rw [Sem.run_bind, run_underlying hu]; simp only [Result.andThen_ok, hf, hv, asAgg, pure_bind]
                exact g1
    · exact hk.elim
  · exact hk.elim

theorem elI_inv {t : TypeId} {z y : Nat} (e : elI P t = some (z, y)) : ∃ el i zv, P.underlying t = some (.slice el) ∧ P.info? el = some i ∧ i.zero = some zv ∧ i.size = z ∧ i.bytes = y ∧ zv.cells.size = z := by
  unfold elI at e
  cases hu : P.underlying t with
  | none => simp [hu] at e
  | some d =>
    cases d <;> simp [hu] at e
    rename_i el
    cases hi : P.info? el with
    | none => simp [hi] at e
    | some i =>
      simp only [hi] at e
      cases hz : i.zero with
      | none => simp [hz] at e
      | some zv =>
        simp only [hz] at e
        split at e
        · rename_i hs
          simp at e
          exact ⟨el, i, zv, rfl, hi, hz, e.1, e.2, hs.trans e.1⟩
        · cases e

theorem elI_map {t : TypeId} {z : Nat} (e : (elI P t).map (·.1) = some z) : ∃ el i zv, P.underlying t = some (.slice el) ∧ P.info? el = some i ∧ i.zero = some zv ∧ i.size = z := by
  cases h : elI P t with
  | none => simp [h] at e
  | some p =>
    obtain ⟨z', y⟩ := p
    simp [h] at e; subst e
    obtain ⟨el, i, zv, a, b, c, d, _⟩ := elI_inv h
    exact ⟨el, i, zv, a, b, c, d⟩

theorem does_indexAddr {t : TypeId} {x ix : Operand} {r : List Oper} (h : Inv κ Φ B au s a w) (ho : o.op = .indexAddr t x ix) (hk : stepK P o r s K) : Does P κ o a w K := by
  simp only [stepK, ho] at hk
  have hr := (ev_rep (P := P) h t x).cp
  split at hk
  · rename_i z xs k n e1 e2
    obtain ⟨hz, h0, h1, hk⟩ := hk
    obtain ⟨el, i, zv, hu, hi, _, hsz⟩ := elI_map hz
    have hn := repD_int (ev_d h e2)
    rw [e1] at hr
    generalize hv : a.eval x = v at hr
    cases hr with
    | d hd =>
      cases hd with
      | sl0 => simp at h1; omega
      | sl hne hcap hel =>
        rename_i b off cap
        refine does_plain (v := .pointer (some ⟨b, off + n.toNat * z + 0, none⟩)) h ?_ (.lptr hel) (fun _ => trivial) hk
        unfold execOp; rw [ho]; refine run_v ?_
        unfold Instr.indexAt
        simp only [hn, hv, asIntOf, pure_bind]
        rw [Sem.run_bind, run_underlying hu]; simp only [Result.andThen_ok, pure_bind]
        rw [Sem.run_bind, run_underlying hu]; simp only [Result.andThen_ok]
        rw [if_pos ⟨h0, h1⟩, Sem.run_bind, run_sizeOf hi]; simp only [Result.andThen_ok, addr_add, hsz, Nat.add_zero]; rfl
  · rename_i id z off len cap k n e1 e2
    obtain ⟨hz, h0, h1, hk⟩ := hk
    obtain ⟨el, i, zv, hu, hi, _, hsz⟩ := elI_map hz
    have hn := repD_int (ev_d h e2)
    rw [e1] at hr
    generalize hv : a.eval x = v at hr
    cases hr with
    | ref0 => omega
    | ref hb hcap had =>
      rename_i b ad
      obtain rfl := had (by omega)
      have hxx : (execOp a.eval o).run P w = .ok (.value (.pointer (some ⟨b, (off + n.toNat) * z, none⟩))) w := by
        unfold execOp; rw [ho]; refine run_v ?_
        unfold Instr.indexAt
        simp only [hn, hv, asIntOf, pure_bind]
        rw [Sem.run_bind, run_underlying hu]; simp only [Result.andThen_ok, pure_bind]
        rw [Sem.run_bind, run_underlying hu]; simp only [Result.andThen_ok]
        rw [if_pos ⟨h0, h1⟩, Sem.run_bind, run_sizeOf hi]; simp only [Result.andThen_ok, addr_add, hsz, Nat.add_mul]; rfl
      split at hk
      · exact does_plain h hxx (.ptr hb) (fun _ => trivial) hk
      · exact does_plain (V := .aptr id z (off + n.toNat) 0) h hxx (by have := RepS.aptr (Φ := Φ) (z := z) (i := off + n.toNat) (j := 0) hb; simpa using this) (fun _ => trivial) hk
  · rename_i id off k n e1 e2
    split at hk
    · rename_i m z ea
      obtain ⟨h0, h1, hk⟩ := hk
      have hn := repD_int (ev_d h e2)
      rw [e1] at hr
      generalize hv : a.eval x = v at hr
      cases hr with
      | ptr hb =>
        rename_i b
        refine does_plain (v := .pointer (some ⟨b, off + n.toNat * z, none⟩)) h ?_ (.ptr hb) (fun _ => trivial) hk
        unfold arrI at ea
        cases hu : P.underlying t with
        | none => simp [hu] at ea
        | some d =>
          cases d <;> simp [hu] at ea
          rename_i el
          cases hi : P.info? el with
          | none => simp [hi] at ea
          | some i =>
            simp [hi] at ea
            obtain ⟨rfl, rfl⟩ := ea
            unfold execOp; rw [ho]; refine run_v ?_
            unfold Instr.indexAt
            simp only [hn, hv, asIntOf, pure_bind]
            rw [Sem.run_bind, run_underlying hu]; simp only [Result.andThen_ok, Instr.sureAddr, pure_bind]
            rw [Sem.run_bind, run_underlying hu]; simp only [Result.andThen_ok]
            rw [if_pos ⟨h0, h1⟩, Sem.run_bind, run_sizeOf hi]; simp only [Result.andThen_ok, addr_add]; rfl
    · exact hk.elim
  · exact hk.elim

end
end Go.Idl
end
section
namespace Go.Idl

section
variable {P : Program} {κ : Ctx} {Φ : CM} {B : List Nat} {au : Auth} {s : St} {a : Act} {w : World} {K : St → Prop} {o : Oper}

theorem run_intOp {op : BinOp} {t : TypeId} {k : IntKind} {x y : Int} {d : D} (e : intOp op k x y = some d) : ∃ v, (binOp op t (.int k x) (.int k y)).run P w = .ok v w ∧ RepD Φ d v := by
  cases op <;> simp [intOp] at e <;> subst e
  · exact ⟨_, by simp [binOp, Op.intArith, pure, Sem.run], .int _ _⟩
  · exact ⟨_, by simp [binOp, Op.intArith, pure, Sem.run], .int _ _⟩
  · exact ⟨_, by simp [binOp, Op.intArith, pure, Sem.run], .int _ _⟩
  · exact ⟨_, by simp [binOp, Op.intBits, pure, Sem.run], .int _ _⟩
  · exact ⟨_, by simp [binOp, Op.intBits, pure, Sem.run], .int _ _⟩
  · exact ⟨_, by simp [binOp, Op.intBits, pure, Sem.run], .int _ _⟩
  · exact ⟨_, by simp [binOp, Op.intBits, pure, Sem.run], .int _ _⟩
  · refine ⟨.bool (decide (x = y)), ?_, .bool _⟩
    simp only [binOp, Op.intCmp, ne_eq, not_true_eq_false, if_false, Sem.run, pure]
    congr 2
  · refine ⟨.bool (!decide (x = y)), ?_, .bool _⟩
    simp only [binOp, Op.intCmp, ne_eq, not_true_eq_false, if_false, Sem.run, pure]
    congr 2
  all_goals
    refine ⟨_, ?_, .bool _⟩
    simp only [binOp, Op.intCmp, ne_eq, not_true_eq_false, if_false, Sem.run, pure]

theorem run_eqGuard_plain {op : BinOp} {t : TypeId} {x y : Operand} {u v : Value} (h1 : ∀ xs, u ≠ .agg xs) (h2 : u ≠ .nilIface) : (eqGuard op t x y u v).run P w = .ok () w := by
  cases u <;> first | exact absurd rfl h2 | exact absurd rfl (h1 _) | (cases op <;> rfl)

theorem run_bin {op : BinOp} {t t' : TypeId} {x y : Operand} {v : Value} (ho : o.op = .binOp op t x y t') (hg : (eqGuard op t x y (a.eval x) (a.eval y)).run P w = .ok () w) (hb : (binOp op t (a.eval x) (a.eval y)).run P w = .ok v w) :
    (execOp a.eval o).run P w = .ok (.value v) w := by
  unfold execOp; rw [ho]; refine run_v ?_
  rw [Sem.run_bind, hg]; simp only [Result.andThen_ok]; exact hb

theorem eqAt_append {xs ys : List D} : ∀ {l l' : List (Nat × Nat)} {r : Bool}, eqAt xs ys (l ++ l') = some r → ∃ r1 r2, eqAt xs ys l = some r1 ∧ eqAt xs ys l' = some r2 ∧ r = (r1 && r2)
  | [], l', r, h => ⟨true, r, rfl, h, by simp⟩
  | (i, k) :: l, l', r, h => by
    simp only [List.cons_append, eqAt] at h
    split at h <;> simp at h
    · rename_i j x k' y t e1 e2 e3
      obtain ⟨r1, r2, g1, g2, rfl⟩ := eqAt_append e3
      obtain ⟨rfl, h⟩ := h
      refine ⟨(decide (x = y) && r1), r2, ?_, g2, by rw [← h, Bool.and_assoc]⟩
      simp [eqAt, e1, e2, g1]
    · rename_i x y t e1 e2 e3
      obtain ⟨r1, r2, g1, g2, rfl⟩ := eqAt_append e3
      refine ⟨((x == y) && r1), r2, ?_, g2, by rw [← h, Bool.and_assoc]⟩
      simp [eqAt, e1, e2, g1]
    · rename_i x y t e1 e2 e3
      obtain ⟨r1, r2, g1, g2, rfl⟩ := eqAt_append e3
      refine ⟨((x == y) && r1), r2, ?_, g2, by rw [← h, Bool.and_assoc]⟩
      simp [eqAt, e1, e2, g1]

theorem eqAt_congr {xs ys xs' ys' : List D} {f : Nat → Nat} : ∀ {l : List (Nat × Nat)}, (∀ p ∈ l, xs[f p.1]? = xs'[p.1]? ∧ ys[f p.1]? = ys'[p.1]?) → eqAt xs ys (l.map fun p => (f p.1, p.2)) = eqAt xs' ys' l
  | [], _ => rfl
  | (i, k) :: l, h => by
    have h1 := h (i, k) (by simp)
    simp only [List.map_cons, eqAt, eqAt_congr (l := l) (fun p hp => h p (by simp [hp])), h1.1, h1.2]

theorem repL_sub {ds : List D} {cs : List Value} (hl : RepL Φ ds cs) (j n : Nat) : RepD Φ (.agg ((ds.drop j).take n)) (.agg (cs.toArray.extract j (j + n))) := by
  obtain ⟨h1, h2⟩ := hl.get
  have : cs.toArray.extract j (j + n) = ((cs.drop j).take n).toArray := by simp [List.extract_eq_take_drop]
  rw [this]
  refine .agg (RepL.of (by simp [h1]) fun k d c hd hc => ?_)
  rw [List.getElem?_take] at hd hc
  split at hd
  · rename_i hk; simp only [hk, if_true] at hc; rw [List.getElem?_drop] at hd hc; exact h2 _ d c hd hc
  · cases hd

theorem eqFields_cons {d : Nat} {xs ys : Array Value} {f : Field} {fs : List Field} {u v : Value} {r s' : Bool} (hn : f.name ≠ "_") (ha : (part f.type xs f.offset).run P w = .ok u w) (hb : (part f.type ys f.offset).run P w = .ok v w)
    (he : (Op.equalIn d f.type u v).run P w = .ok r w) (hr : (Op.eqFields d xs ys fs).run P w = .ok s' w) : (Op.eqFields d xs ys (f :: fs)).run P w = .ok (r && s') w := by
  rw [Op.eqFields]
  simp only [if_pos hn, Sem.run_bind, ha, hb, he, Result.andThen_ok]
  cases r
  · simp
  · simpa using hr

theorem eqAt_int {x y : D} {r : Bool} (h : eqAt [x] [y] [(0, 0)] = some r) : ∃ k n m, x = .int k n ∧ y = .int k m ∧ r = decide (n = m) := by
  cases x <;> cases y <;> simp [eqAt] at h
  obtain ⟨rfl, h⟩ := h
  exact ⟨_, _, _, rfl, rfl, h.symm⟩
theorem eqAt_bool {x y : D} {r : Bool} (h : eqAt [x] [y] [(0, 1)] = some r) : ∃ n m, x = .bool n ∧ y = .bool m ∧ r = (n == m) := by
  cases x <;> cases y <;> simp [eqAt] at h
  exact ⟨_, _, rfl, rfl, h.symm⟩
theorem eqAt_str {x y : D} {r : Bool} (h : eqAt [x] [y] [(0, 2)] = some r) : ∃ n m, x = .str n ∧ y = .str m ∧ r = (n == m) := by
  cases x <;> cases y <;> simp [eqAt] at h
  exact ⟨_, _, rfl, rfl, h.symm⟩

/-- Structs of plain leaves: compared leaf by leaf. -/
theorem run_equalIn_plain : ∀ (n : Nat) (t : TypeId) (l : List (Nat × Nat)), leafOffs P n t = some l → ∀ (d : Nat), n ≤ d → ∀ (r : Bool),
    (∀ (xs ys : List D) (us vs : List Value) (fs : Array Field), P.underlying t = some (.struct fs) → RepL Φ xs us → RepL Φ ys vs → eqAt xs ys l = some r → (Op.equalIn d t (.agg us.toArray) (.agg vs.toArray)).run P w = .ok r w) ∧
    (∀ (x y : D) (u v : Value), (∀ fs, P.underlying t ≠ some (.struct fs)) → RepD Φ x u → RepD Φ y v → eqAt [x] [y] l = some r → (Op.equalIn d t u v).run P w = .ok r w)
  | 0, _, _, h, _, _, _ => by simp [leafOffs] at h
  | n + 1, t, l, h, d, hd, r => by
    obtain ⟨d, rfl⟩ : ∃ d', d = d' + 1 := ⟨d - 1, by omega⟩
    simp only [leafOffs] at h
    cases hu : P.underlying t with
    | none => simp [hu] at h
    | some td =>
      simp only [hu] at h
      refine ⟨fun xs ys us vs fs ht hx hy he => ?_, fun x y u v ht hx hy he => ?_⟩
      · injection ht with ht; subst ht
        simp only at h
        split at h
        · cases h
        · rename_i hst
          have hfo : P.fieldsOf t = fs := by simp [Program.fieldsOf, hu]
          rw [run_equalIn_struct (P := P) w d t us.toArray vs.toArray (by rw [hfo]; exact hu) (by simpa using hst), hfo]
          have key : ∀ (fl : List Field) (l : List (Nat × Nat)) (r : Bool), fl.foldr (fun f acc => match leafOffs P n f.type, acc, P.info? f.type with
              | some l, some r, some i => if f.name = "_" ∨ l.all (fun x => decide (x.1 < i.size)) = false then none else some (l.map (fun x => (f.offset + x.1, x.2)) ++ r)
              | _, _, _ => none) (some []) = some l → eqAt xs ys l = some r → (Op.eqFields d us.toArray vs.toArray fl).run P w = .ok r w := by
            intro fl
            induction fl with
            | nil => intro l r h1 h2; simp at h1; subst h1; simp [eqAt] at h2; subst h2; simp [Op.eqFields]
            | cons f fl ih =>
              intro l r h1 h2
              simp only [List.foldr_cons] at h1
              split at h1
              · rename_i l1 l2 i e1 e2 e3
                split at h1
                · cases h1
                · rename_i hcond
                  injection h1 with h1; subst h1
                  obtain ⟨r1, r2, g1, g2, rfl⟩ := eqAt_append h2
                  have hname : f.name ≠ "_" := fun hh => hcond (.inl hh)
                  have hall : ∀ p ∈ l1, p.1 < i.size := by
                    intro p hp
                    have : l1.all (fun x => decide (x.1 < i.size)) = true := by
                      cases hb : l1.all (fun x => decide (x.1 < i.size)) with
                      | true => rfl
                      | false => exact absurd (.inr hb) hcond
                    simpa using List.all_eq_true.1 this p hp
                  obtain ⟨ih1, ih2⟩ := run_equalIn_plain n f.type l1 e1 d (by omega) r1
                  by_cases hstr : ∃ gs, P.underlying f.type = some (.struct gs)
                  · obtain ⟨gs, hgs⟩ := hstr
                    have hagg : (isAgg f.type).run P w = .ok true w := by
                      unfold isAgg; rw [Sem.run_bind, run_underlying hgs]; rfl
                    have hpart : ∀ cs : List Value, (part f.type cs.toArray f.offset).run P w = .ok (.agg (cs.toArray.extract f.offset (f.offset + i.size))) w := by
                      intro cs
                      unfold part; rw [Sem.run_bind, hagg]; simp only [Result.andThen_ok, if_true]
                      rw [Sem.run_bind, run_sizeOf e3]; rfl
                    refine eqFields_cons hname (hpart us) (hpart vs) ?_ (ih l2 r2 e2 g2)
                    have e5 := repL_sub hx f.offset i.size
                    have e6 := repL_sub hy f.offset i.size
                    generalize hA : us.toArray.extract f.offset (f.offset + i.size) = A at e5
                    generalize hB : vs.toArray.extract f.offset (f.offset + i.size) = B' at e6
                    have hA' : A = A.toList.toArray := by simp
                    have hB' : B' = B'.toList.toArray := by simp
                    rw [hA', hB']
                    refine ih1 ((xs.drop f.offset).take i.size) ((ys.drop f.offset).take i.size) A.toList B'.toList gs hgs ?_ ?_ ?_
                    · cases e5 with | agg e5 => simpa using e5
                    · cases e6 with | agg e6 => simpa using e6
                    · rw [← g1]
                      refine (eqAt_congr (f := fun k => f.offset + k) fun p hp => ?_).symm
                      have := hall p hp
                      simp [List.getElem?_take, List.getElem?_drop, this]
                  · have hns : ∀ gs, P.underlying f.type ≠ some (.struct gs) := fun gs hgs => hstr ⟨gs, hgs⟩
                    have hl1 : ∃ k, l1 = [(0, k)] ∧ (isAgg f.type).run P w = .ok false w := by
                      cases n with
                      | zero => simp [leafOffs] at e1
                      | succ n =>
                        simp only [leafOffs] at e1
                        cases hu' : P.underlying f.type with
                        | none => simp [hu'] at e1
                        | some td' =>
                          have hisA : ∀ b, (match td' with | .struct _ | .array _ _ => true | _ => false) = b → (isAgg f.type).run P w = .ok b w := by
                            rintro b rfl
                            unfold isAgg; rw [Sem.run_bind, run_underlying hu']; cases td' <;> rfl
                          simp only [hu'] at e1
                          cases td' <;> simp at e1
                          · exact ⟨1, e1.symm, hisA _ rfl⟩
                          · exact ⟨0, e1.symm, hisA _ rfl⟩
                          · exact ⟨2, e1.symm, hisA _ rfl⟩
                          · exact absurd hu' (hns _)
                    obtain ⟨k, rfl, hagg⟩ := hl1
                    simp only [List.map_cons, List.map_nil, Nat.add_zero] at g1
                    -- the leaf is there
                    have hleaf : ∃ x y, xs[f.offset]? = some x ∧ ys[f.offset]? = some y := by
                      simp only [eqAt] at g1
                      split at g1 <;> first | exact ⟨_, _, ‹_›, ‹_›⟩ | cases g1
                    obtain ⟨x, y, hxo, hyo⟩ := hleaf
                    obtain ⟨q1, q2⟩ := hx.get
                    obtain ⟨p1, p2⟩ := hy.get
                    have hux : f.offset < us.length := by rw [← q1]; exact (List.getElem?_eq_some_iff.1 hxo).1
                    have huy : f.offset < vs.length := by rw [← p1]; exact (List.getElem?_eq_some_iff.1 hyo).1
                    have hpart : ∀ (cs : List Value) (hc : f.offset < cs.length), (part f.type cs.toArray f.offset).run P w = .ok cs[f.offset] w := by
                      intro cs hc
                      unfold part; rw [Sem.run_bind, hagg]; simp [hc]
                    refine eqFields_cons hname (hpart us hux) (hpart vs huy) ?_ (ih l2 r2 e2 g2)
                    refine ih2 x y _ _ hns (q2 _ x _ hxo (List.getElem?_eq_getElem hux)).2 (p2 _ y _ hyo (List.getElem?_eq_getElem huy)).2 ?_
                    rw [← g1]
                    simp only [eqAt, hxo, hyo, List.getElem?_cons_zero]
              · cases h1
          exact key fs.toList l r h he
      · unfold Op.equalIn
        rw [Sem.run_bind, run_underlying hu]; simp only [Result.andThen_ok]
        cases td <;> simp at h
        · subst h
          obtain ⟨n, m, rfl, rfl, rfl⟩ := eqAt_bool he
          cases hx; cases hy; rfl
        · subst h
          obtain ⟨k, n, m, rfl, rfl, rfl⟩ := eqAt_int he
          cases hx; cases hy
          simp only [if_true]; rfl
        · subst h
          obtain ⟨n, m, rfl, rfl, rfl⟩ := eqAt_str he
          cases hx; cases hy; rfl
        · exact absurd rfl (ht _)

theorem RepD.sl_inv' {Φ : CM} {lb : Bool} {z : Nat} {xs : List D} {v : Value} (h : RepD Φ (.sl lb z xs) v) : ∃ a cap, v = .slice a xs.length cap ∧ xs.length ≤ cap ∧
    (xs ≠ [] → ∃ b o, a = some ⟨b, o, none⟩) := by
  cases h with
  | sl0 => exact ⟨_, _, rfl, Nat.zero_le _, fun h => absurd rfl h⟩
  | sl h1 h2 h3 => exact ⟨_, _, rfl, h2, fun _ => ⟨_, _, rfl⟩⟩

theorem run_eq_nil {t : TypeId} {v : Value} {a : Option Addr} {n c : Nat} (hu : (elemTy P t).isSome = true) (hv : v = .slice a n c) : (Op.equal t v (.slice none 0 0)).run P w = .ok a.isNone w := by
  subst hv
  obtain ⟨et, hut⟩ : ∃ et, P.underlying t = some (.slice et) := by
    unfold elemTy at hu
    split at hu
    · exact ⟨_, ‹_›⟩
    · cases hu
  unfold Op.equal Op.maxDepth Op.equalIn
  rw [Sem.run_bind, run_underlying hut]
  cases a <;> rfl

theorem does_nil {op : BinOp} {t t' : TypeId} {x y : Operand} (h : Inv κ Φ B au s a w) (ho : o.op = .binOp op t x y t') (hy : isNilC y = true) (hk : nilK P op t (ev P t s x) fun v => K (s.put o.dst v)) : Does P κ o a w K := by
  have hyv : a.eval y = .slice none 0 0 := by
    unfold isNilC at hy
    split at hy
    · rfl
    · cases hy
  obtain ⟨hu, hk⟩ := hk
  have hx := ev_rep (P := P) h t x
  have fin : ∀ (ad : Option Addr) n c, a.eval x = .slice ad n c → ((op = .eql ∧ K (s.put o.dst (.d (.bool ad.isNone)))) ∨ (op = .neq ∧ K (s.put o.dst (.d (.bool !ad.isNone))))) → Does P κ o a w K := by
    intro ad n c e hc
    have hg : (eqGuard op t x y (a.eval x) (a.eval y)).run P w = .ok () w := by
      rw [e]; exact run_eqGuard_plain (by simp) (by simp)
    rcases hc with ⟨rfl, hc⟩ | ⟨rfl, hc⟩
    · refine does_plain h (run_bin ho hg ?_) (.d (.bool _)) (fun _ => trivial) hc
      have h2 := run_eq_nil (w := w) hu e
      rw [hyv]; rw [e] at h2 ⊢
      show (do pure (.bool (← Op.equal t (.slice ad n c) (.slice none 0 0))) : Sem Value).run P w = _
      rw [Sem.run_bind, h2]; rfl
    · refine does_plain h (run_bin ho hg ?_) (.d (.bool _)) (fun _ => trivial) hc
      have h2 := run_eq_nil (w := w) hu e
      rw [hyv]; rw [e] at h2 ⊢
      show (do pure (.bool !(← Op.equal t (.slice ad n c) (.slice none 0 0))) : Sem Value).run P w = _
      rw [Sem.run_bind, h2]; rfl
  have sl : ∀ (l : Bool) z xs, RepD Φ (.sl l z xs) (a.eval x) → ∃ ad n c, a.eval x = .slice ad n c ∧ (xs ≠ [] → ad.isNone = false) := by
    intro l z xs q
    obtain ⟨ad, c, q1, _, q2⟩ := q.sl_inv'
    exact ⟨ad, _, c, q1, fun hn => by obtain ⟨b, o, e⟩ := q2 hn; rw [e]; rfl⟩
  split at hk
  · rename_i ex
    rw [ex] at hx
    generalize hv : a.eval x = v at hx
    cases hx with | d q =>
    obtain ⟨ad, n, c, e, q2⟩ := sl _ _ _ (hv ▸ q)
    refine fin ad n c e (.inl ⟨rfl, ?_⟩)
    rename_i xs
    by_cases hn : xs = []
    · exact hk.2 hn _
    · rw [q2 hn]; exact hk.1 hn
  · rename_i ex
    rw [ex] at hx
    generalize hv : a.eval x = v at hx
    cases hx with | own q =>
    obtain ⟨ad, n, c, e, q2⟩ := sl _ _ _ (hv ▸ q)
    refine fin ad n c e (.inl ⟨rfl, ?_⟩)
    rename_i xs
    by_cases hn : xs = []
    · exact hk.2 hn _
    · rw [q2 hn]; exact hk.1 hn
  · rename_i ex
    rw [ex] at hx
    generalize hv : a.eval x = v at hx
    cases hx with | d q =>
    obtain ⟨ad, n, c, e, q2⟩ := sl _ _ _ (hv ▸ q)
    refine fin ad n c e (.inr ⟨rfl, ?_⟩)
    rename_i xs
    by_cases hn : xs = []
    · exact hk.2 hn _
    · rw [q2 hn]; exact hk.1 hn
  · rename_i ex
    rw [ex] at hx
    generalize hv : a.eval x = v at hx
    cases hx with | own q =>
    obtain ⟨ad, n, c, e, q2⟩ := sl _ _ _ (hv ▸ q)
    refine fin ad n c e (.inr ⟨rfl, ?_⟩)
    rename_i xs
    by_cases hn : xs = []
    · exact hk.2 hn _
    · rw [q2 hn]; exact hk.1 hn
  · rename_i ex
    rw [ex] at hx
    generalize hv : a.eval x = v at hx
    cases hx with
    | ref hb hc hd =>
      rename_i cap b ad
      refine fin ad _ _ hv (.inl ⟨rfl, ?_⟩)
      rcases Nat.eq_zero_or_pos cap with h0 | h0
      · exact hk.2 h0 _
      · rw [hd h0]; exact hk.1 h0
    | ref0 => exact fin _ _ _ hv (.inl ⟨rfl, hk.2 rfl _⟩)
  · rename_i ex
    rw [ex] at hx
    generalize hv : a.eval x = v at hx
    cases hx with
    | ref hb hc hd =>
      rename_i cap b ad
      refine fin ad _ _ hv (.inr ⟨rfl, ?_⟩)
      rcases Nat.eq_zero_or_pos cap with h0 | h0
      · exact hk.2 h0 _
      · rw [hd h0]; exact hk.1 h0
    | ref0 => exact fin _ _ _ hv (.inr ⟨rfl, hk.2 rfl _⟩)
  · rename_i ex
    rw [ex] at hx
    generalize hv : a.eval x = v at hx
    cases hx with | nil => exact fin _ _ _ hv (.inl ⟨rfl, hk _⟩)
  · rename_i ex
    rw [ex] at hx
    generalize hv : a.eval x = v at hx
    cases hx with | nil => exact fin _ _ _ hv (.inr ⟨rfl, hk _⟩)
  · exact hk.elim

theorem does_binOp {op : BinOp} {t t' : TypeId} {x y : Operand} {r : List Oper} (h : Inv κ Φ B au s a w) (ho : o.op = .binOp op t x y t') (hk : stepK P o r s K) : Does P κ o a w K := by
  simp only [stepK, ho] at hk
  cases hy : isNilC y with
  | true => rw [hy] at hk; exact does_nil h ho hy hk
  | false =>
  rw [hy] at hk
  simp only [cond_false] at hk
  unfold binK at hk
  split at hk
  · rename_i k n k' m e1 e2
    have h1 := repD_int (ev_d h e1)
    have h2 := repD_int (ev_d h e2)
    have hg : (eqGuard op t x y (a.eval x) (a.eval y)).run P w = .ok () w := by
      rw [h1]; exact run_eqGuard_plain (by simp) (by simp)
    split at hk
    · obtain ⟨rfl, hm, hk⟩ := hk
      refine does_plain h (run_bin ho hg ?_) (.d (.int _ _)) (fun _ => trivial) hk
      rw [h1, h2]; simp [binOp, Op.intDiv, hm, pure, Sem.run]
    · obtain ⟨rfl, hm, hk⟩ := hk
      refine does_plain h (run_bin ho hg ?_) (.d (.int _ _)) (fun _ => trivial) hk
      rw [h1, h2]; simp [binOp, Op.intDiv, hm, pure, Sem.run]
    · obtain ⟨hm, hk⟩ := hk
      refine does_plain h (run_bin ho hg ?_) (.d (.int _ _)) (fun _ => trivial) hk
      rw [h1, h2]; simp [binOp, Op.shift, Int.not_lt.2 hm, pure, Sem.run]
    · obtain ⟨hm, hk⟩ := hk
      refine does_plain h (run_bin ho hg ?_) (.d (.int _ _)) (fun _ => trivial) hk
      rw [h1, h2]; simp [binOp, Op.shift, Int.not_lt.2 hm, pure, Sem.run]
    · split at hk
      · rename_i d ed
        obtain ⟨rfl, hk⟩ := hk
        obtain ⟨v, g1, g2⟩ := run_intOp (P := P) (Φ := Φ) (w := w) (t := t) ed
        refine does_plain h (run_bin ho hg ?_) (.d g2) (fun _ => trivial) hk
        rw [h1, h2]; exact g1
      · exact hk.elim
  · rename_i p q e1 e2
    have h1 := repD_bool (ev_d h e1)
    have h2 := repD_bool (ev_d h e2)
    have hg : (eqGuard op t x y (a.eval x) (a.eval y)).run P w = .ok () w := by
      rw [h1]; exact run_eqGuard_plain (by simp) (by simp)
    split at hk
    · obtain ⟨hu, hk⟩ := hk
      refine does_plain h (run_bin ho hg ?_) (.d (.bool _)) (fun _ => trivial) hk
      rw [h1, h2]
      show (do pure (.bool (← Op.equal t (.bool p) (.bool q))) : Sem Value).run P w = _
      rw [Sem.run_bind]
      unfold Op.equal Op.maxDepth Op.equalIn
      rw [Sem.run_bind, run_underlying hu]; simp [pure, Sem.run]
    · obtain ⟨hu, hk⟩ := hk
      refine does_plain h (run_bin ho hg ?_) (.d (.bool _)) (fun _ => trivial) hk
      rw [h1, h2]
      show (do pure (.bool !(← Op.equal t (.bool p) (.bool q))) : Sem Value).run P w = _
      rw [Sem.run_bind]
      unfold Op.equal Op.maxDepth Op.equalIn
      rw [Sem.run_bind, run_underlying hu]; simp [pure, Sem.run, bne]
    · exact hk.elim
  · rename_i p q e1 e2
    have h1 := repD_str (ev_d h e1)
    have h2 := repD_str (ev_d h e2)
    have hg : (eqGuard op t x y (a.eval x) (a.eval y)).run P w = .ok () w := by
      rw [h1]; exact run_eqGuard_plain (by simp) (by simp)
    split at hk
    · refine does_plain h (run_bin ho hg ?_) (.d (.bool _)) (fun _ => trivial) hk
      rw [h1, h2]; rfl
    · refine does_plain h (run_bin ho hg ?_) (.d (.bool _)) (fun _ => trivial) hk
      rw [h1, h2]; rfl
    · refine does_plain h (run_bin ho hg ?_) (.d (.bool _)) (fun _ => trivial) hk
      rw [h1, h2]; rfl
    · obtain ⟨hm, hk⟩ := hk
      refine does_plain h (run_bin ho hg ?_) (.d (.str _)) (fun _ => trivial) hk
      rw [h1, h2]
      show (Op.stringOp .add p q).run P w = _
      unfold Op.stringOp
      simp only
      rw [if_neg]
      · rfl
      · have : IntKind.i64.max = 9223372036854775807 := by decide
        rw [this]; omega
    · exact hk.elim
  · rename_i xs ys e1 e2
    obtain ⟨hgd, hkd, hk⟩ := hk
    have h1 := ev_d h e1
    have h2 := ev_d h e2
    generalize hu : a.eval x = u at h1
    generalize hv : a.eval y = v at h2
    cases h1 with
    | agg l1 =>
      cases h2 with
      | agg l2 =>
        rename_i us vs
        cases hle : leafOffs P 8 t with
        | none => simp [hle] at hk
        | some l =>
          simp only [hle, Option.bind_some] at hk
          have hg : (eqGuard op t x y (a.eval x) (a.eval y)).run P w = .ok () w := by
            rw [hu, hv]
            cases op <;> first | rfl | (simp [eqGuard, Sem.run_bind, run_program, hgd]; done)
          have hstruct : ∃ fs, P.underlying t = some (.struct fs) := by
            simp only [leafOffs] at hle
            cases hut : P.underlying t with
            | none => simp [hut] at hle
            | some td =>
              simp only [hut] at hle
              simp only [kindD, hut] at hkd
              cases td <;> simp at hle hkd
              exact ⟨_, rfl⟩
          obtain ⟨fs, hfs⟩ := hstruct
          have hxs : ∀ r, eqAt xs ys l = some r → (Op.equal t (.agg us.toArray) (.agg vs.toArray)).run P w = .ok r w := fun r he =>
            (run_equalIn_plain 8 t l hle Op.maxDepth (by decide) r).1 xs ys us vs fs hfs l1 l2 he
          split at hk
          · rename_i r' hr'
            refine does_plain h (run_bin ho hg ?_) (.d (.bool _)) (fun _ => trivial) hk
            rw [hu, hv]
            show (do pure (.bool (← Op.equal t (.agg us.toArray) (.agg vs.toArray))) : Sem Value).run P w = _
            rw [Sem.run_bind, hxs _ hr']; rfl
          · rename_i r' hr'
            refine does_plain h (run_bin ho hg ?_) (.d (.bool _)) (fun _ => trivial) hk
            rw [hu, hv]
            show (do pure (.bool !(← Op.equal t (.agg us.toArray) (.agg vs.toArray))) : Sem Value).run P w = _
            rw [Sem.run_bind, hxs _ hr']; rfl
          · exact hk.elim
  · split at hk
    · rename_i r' er
      obtain ⟨hp, hk⟩ := hk
      obtain ⟨el, hu⟩ : ∃ el, P.underlying t = some (.pointer el) := by
        unfold isPtr at hp
        split at hp
        · exact ⟨_, ‹_›⟩
        · cases hp
      have key : ∃ p q, a.eval x = .pointer p ∧ a.eval y = .pointer q ∧ (∀ w, (Op.equal t (a.eval x) (a.eval y)).run P w = .ok r' w) := by
        have hx := ev_rep (P := P) h t x
        have hy := ev_rep (P := P) h t y
        generalize ev P t s x = X at hx er
        generalize ev P t s y = Y at hy er
        generalize a.eval x = u at hx
        generalize a.eval y = v at hy
        have e1 : ∀ q w, (Op.equal t (.pointer none) (.pointer q)).run P w = .ok q.isNone w := fun q w => by
          unfold Op.equal Op.maxDepth Op.equalIn
          rw [Sem.run_bind, run_underlying hu]; rfl
        have e2 : ∀ q w, (Op.equal t (.pointer (some q)) (.pointer none)).run P w = .ok false w := fun q w => by
          unfold Op.equal Op.maxDepth Op.equalIn
          rw [Sem.run_bind, run_underlying hu]; rfl
        unfold ptrEq at er
        split at er
        · injection er with er; subst er
          cases hx with | d hx => cases hx with | con _ _ => cases hy with | d hy => cases hy with | con _ _ => exact ⟨_, _, rfl, rfl, e1 _⟩
        · injection er with er; subst er
          cases hx with | ptr _ => cases hy with | d hy => cases hy with | con _ _ => exact ⟨_, _, rfl, rfl, e2 _⟩
        · injection er with er; subst er
          cases hx with | aptr _ => cases hy with | d hy => cases hy with | con _ _ => exact ⟨_, _, rfl, rfl, e2 _⟩
        · injection er with er; subst er
          cases hy with | ptr _ => cases hx with | d hx => cases hx with | con _ _ => exact ⟨_, _, rfl, rfl, e1 _⟩
        · injection er with er; subst er
          cases hy with | aptr _ => cases hx with | d hx => cases hx with | con _ _ => exact ⟨_, _, rfl, rfl, e1 _⟩
        · cases er
      obtain ⟨p, q, e1, e2, e3⟩ := key
      have hg : (eqGuard op t x y (a.eval x) (a.eval y)).run P w = .ok () w := by
        rw [e1]; exact run_eqGuard_plain (by simp) (by simp)
      split at hk
      · refine does_plain h (run_bin ho hg ?_) (.d (.bool _)) (fun _ => trivial) hk
        rw [e1, e2] at e3 ⊢
        show (do pure (.bool (← Op.equal t (.pointer p) (.pointer q))) : Sem Value).run P w = _
        rw [Sem.run_bind, e3]; rfl
      · refine does_plain h (run_bin ho hg ?_) (.d (.bool _)) (fun _ => trivial) hk
        rw [e1, e2] at e3 ⊢
        show (do pure (.bool !(← Op.equal t (.pointer p) (.pointer q))) : Sem Value).run P w = _
        rw [Sem.run_bind, e3]; rfl
      · exact hk.elim
    · exact hk.elim

theorem does_unOp {op : UnOp} {t : TypeId} {x : Operand} {r : List Oper} (h : Inv κ Φ B au s a w) (ho : o.op = .unOp op t x) (hk : stepK P o r s K) : Does P κ o a w K := by
  simp only [stepK, ho] at hk
  split at hk
  · rename_i b e
    have h1 := repD_bool (ev_d h e)
    refine does_plain h ?_ (.d (.bool _)) (fun _ => trivial) hk
    unfold execOp; rw [ho]; refine run_v ?_
    simp only [h1]; rfl
  · rename_i k n e
    have h1 := repD_int (ev_d h e)
    refine does_plain h ?_ (.d (.int _ _)) (fun _ => trivial) hk
    unfold execOp; rw [ho]; refine run_v ?_
    simp only [h1]; rfl
  · exact hk.elim

theorem does_convert {src dst : TypeId} {x : Operand} {r : List Oper} (h : Inv κ Φ B au s a w) (ho : o.op = .convert src dst x) (hk : stepK P o r s K) : Does P κ o a w K := by
  simp only [stepK, ho] at hk
  split at hk
  · rename_i k n e
    have h1 := repD_int (ev_d h e)
    split at hk
    · rename_i k' hd
      obtain ⟨hs, hk⟩ := hk
      obtain ⟨sd, hs⟩ := Option.isSome_iff_exists.1 hs
      refine does_plain h ?_ (.d (.int _ _)) (fun _ => trivial) hk
      unfold execOp; rw [ho]; refine run_v ?_
      simp only [h1]
      unfold convert
      rw [Sem.run_bind, run_underlying hs]; simp only [Result.andThen_ok]
      rw [Sem.run_bind, run_underlying hd]; simp only [Result.andThen_ok]
      cases sd <;> rfl
    · exact hk.elim
  · rename_i b e
    have h1 := repD_str (ev_d h e)
    obtain ⟨hd, hs, hk⟩ := hk
    refine does_plain h ?_ (.d (.str _)) (fun _ => trivial) hk
    unfold execOp; rw [ho]; refine run_v ?_
    simp only [h1]
    unfold convert
    rw [Sem.run_bind, run_underlying hs]; simp only [Result.andThen_ok]
    rw [Sem.run_bind, run_underlying hd]; rfl
  · exact hk.elim

theorem does_makeFunc {f : Fn} {fs caps : Array Operand} {r : List Oper} (h : Inv κ Φ B au s a w) (ho : o.op = .makeFunc f fs caps) (hk : stepK P o r s K) : Does P κ o a w K := by
  simp only [stepK, ho] at hk
  obtain ⟨rfl, hk⟩ := hk
  refine does_plain (v := .func f #[] (caps.toList.map a.eval).toArray) h ?_ (.fn (RepSL.of (by simp) fun j d c hd hc => ?_)) (fun _ => trivial) hk
  · unfold execOp; rw [ho]; refine run_v ?_
    unfold Instr.makeFunc
    have : Array.map a.eval caps = (List.map a.eval caps.toList).toArray := by cases caps; simp
    have e0 : Array.map a.eval #[] = #[] := by simp
    rw [this, e0]; rfl
  · simp only [List.getElem?_map, Option.map_eq_some_iff] at hd hc
    obtain ⟨x, hx, rfl⟩ := hd
    obtain ⟨y, hy, rfl⟩ := hc
    rw [hx] at hy; injection hy with hy; subst hy
    exact (ev_rep h 0 x).cp

theorem does_extract {x : Operand} {ix : Nat} {r : List Oper} (h : Inv κ Φ B au s a w) (ho : o.op = .extract x ix) (hk : stepK P o r s K) : Does P κ o a w K := by
  simp only [stepK, ho] at hk
  split at hk
  · rename_i vs e
    split at hk
    · rename_i V eV
      obtain ⟨hnt, hk⟩ := hk
      cases x with
      | tmp i =>
        have e' : s.tm.getD i .un = .tup vs := e
        obtain ⟨g1, g2⟩ := tm_get h i
        rw [e'] at g1 g2
        generalize hv : a.tmps.getD i undef = v at g1 g2
        cases g1 with
        | tup hl =>
          rename_i cs
          obtain ⟨q1, q2⟩ := hl.get
          have hix : ix < cs.length := by rw [← q1]; exact (List.getElem?_eq_some_iff.1 eV).1
          have hc : cs[ix]? = some cs[ix] := List.getElem?_eq_getElem hix
          have hrep := q2 ix V _ eV hc
          have hx : (execOp a.eval o).run P w = .ok (.value cs[ix]) w := by
            unfold execOp; rw [ho]; refine run_v ?_
            show (Instr.extract (a.tmps.getD i undef) ix).run P w = _
            rw [hv]; unfold Instr.extract
            simp [hix]
          -- what the component owns goes over to the place
          have hstrip : ∀ au', (∀ j b st, j ≠ ix → au b = some (.slot i j, st) → au' b = some (.slot i j, st)) → RepS Φ B (.tup (vs.set ix V.cp)) (.tuple cs.toArray) ∧ OwnV au' w (.slot i) (.tup (vs.set ix V.cp)) (.tuple cs.toArray) := by
            intro au' hau
            refine ⟨.tup (RepSL.of (by simpa using q1) fun j d c hd hcj => ?_), ?_⟩
            · rw [List.getElem?_set] at hd
              split at hd
              · rename_i ej; subst ej
                split at hd
                · injection hd with hd; subst hd
                  rw [hc] at hcj; injection hcj with hcj; subst hcj
                  exact hrep.cp
                · cases hd
              · exact q2 j d c hd hcj
            · rintro j z xs cs' c ecs hd hcj
              injection ecs with ecs; subst ecs
              rw [List.getElem?_set] at hd
              split at hd
              · rename_i ej; subst ej
                split at hd
                · injection hd with hd
                  cases V <;> simp [Idl.V.cp] at hd
                · cases hd
              · rename_i ej
                exact (g2 j z xs _ c rfl hd hcj).mono fun b st hh => ⟨hau j b st (Ne.symm ej) hh, rfl⟩
          cases hd : o.dst with
          | none =>
            rw [hd] at hk
            refine does_value hx hk ⟨Φ, B, au, ?_⟩
            rw [hd]
            refine h.islot i fun V' v' hV' hv' => ?_
            have : v' = .tuple cs.toArray := by
              rw [← hv]; simp [Array.getD, (Array.getElem?_eq_some_iff.1 hv').1, (Array.getElem?_eq_some_iff.1 hv').2]
            subst this
            exact hstrip au fun _ _ _ _ e => e
          | some d =>
            rw [hd] at hk
            let au' : Auth := fun b => match au b with
              | some (.slot k j, st) => if k = i ∧ j = ix then some (.slot d 0, st) else some (.slot k j, st)
              | x => x
            have au_none : ∀ b, au b = none → au' b = none := fun b e => by simp only [au', e]
            have au_inv : ∀ b h0 st, au' b = some (h0, st) → ∃ h1, au b = some (h1, st) := by
              intro b h0 st e
              simp only [au'] at e
              split at e
              · rename_i e2; split at e <;> (injection e with e; injection e with _ e; subst e; exact ⟨_, e2⟩)
              · exact ⟨_, e⟩
            have au_other : ∀ b h0 st, au b = some (h0, st) → h0 ≠ .slot i ix → au' b = some (h0, st) := by
              intro b h0 st e hn
              simp only [au', e]
              cases h0 with
              | slot k j => simp only; rw [if_neg]; rintro ⟨rfl, rfl⟩; exact hn rfl
              | cell _ _ => rfl
              | obj _ => rfl
            have au_same : ∀ b st, au b = some (.slot i ix, st) → au' b = some (.slot d 0, st) := by
              intro b st e; simp only [au', e]; simp
            -- first the tuple is stripped, under the new owners
            have hi : Inv κ Φ B au' { s with tm := s.tm.set i (.tup (vs.set ix V.cp)) } a w := by
              refine { h with phia := fun lb b o v h0 st hp ha => ?_, auw := fun b h0 st ha => ?_, tl := by simpa using h.tl, tm := fun k V' v' hV' hv' => ?_, hp := fun id o b ho hb => ?_, df := ?_ }
              · obtain ⟨h1, e⟩ := au_inv _ _ _ ha; exact h.phia _ b o v h1 st hp e
              · obtain ⟨h1, e⟩ := au_inv _ _ _ ha; exact h.auw b h1 st e
              · simp only [List.getElem?_set] at hV'
                by_cases ek : i = k
                · subst ek
                  have : v' = .tuple cs.toArray := by
                    rw [← hv]; simp [Array.getD, (Array.getElem?_eq_some_iff.1 hv').1, (Array.getElem?_eq_some_iff.1 hv').2]
                  subst this
                  have hl : i < s.tm.length := by
                    have := (Array.getElem?_eq_some_iff.1 hv').1; rw [h.tl]; exact this
                  simp [hl] at hV'; subst hV'
                  exact hstrip au' fun j b st hj e => au_other b _ st e (by intro hh; injection hh with _ hh; exact hj hh)
                · simp [ek] at hV'
                  obtain ⟨k1, k2⟩ := h.tm k V' v' hV' hv'
                  exact ⟨k1, k2.mono fun j b st hh => ⟨au_other b _ st hh (by intro hh'; injection hh' with hh' _; exact ek hh'.symm), rfl⟩⟩
              · exact (h.hp id o b ho hb).mono (CM.le_refl _) (fun _ _ h => h) (fun hh => ⟨au_other b _ _ hh (by simp), rfl⟩) (fun j b st hh => ⟨au_other b _ _ hh (by simp), rfl⟩)
              · obtain ⟨rs, h1, h2, h3⟩ := h.df
                exact ⟨rs, h1, h2, fun r hr => let ⟨x, y, z⟩ := h3 r hr; ⟨x, au_none _ y, z⟩⟩
            refine does_value hx hk ⟨Φ, B, au', ?_⟩
            rw [hd]
            refine hi.slot d hrep ?_
            cases V with
            | own z xs => exact (g2 ix z xs _ _ rfl eV (by simpa using hc)).mono fun b st hh => ⟨au_same b st hh, rfl⟩
            | tup ws => simp [Idl.V.isTup] at hnt
            | _ => trivial
      | const v => have := (constV_rep (P := P) (t := 0) (v := v) (Φ := Φ) (B := B) (au := au) (w := w) (h := fun _ => .obj 0)).2.2.2; simp only [ev] at e; rw [e] at this; cases this
      | «global» g => cases e
      | func f => cases e
    · exact hk.elim
  · exact hk.elim

end
end Go.Idl
end
section
namespace Go.Idl

theorem flat_length {z : Nat} {xs : List D} (h : ∀ x ∈ xs, x.flat.length = z) : (xs.flatMap D.flat).length = xs.length * z := by
  induction xs with
  | nil => simp
  | cons x xs ih =>
    simp only [List.flatMap_cons, List.length_append, List.length_cons]
    rw [ih (fun y hy => h y (by simp [hy])), h x (by simp), Nat.add_mul]; omega

theorem CellsAt.append {Φ : CM} {lb : Bool} {b o : Nat} {ds es : List D} (h : CellsAt Φ lb b o ds) (h' : CellsAt Φ lb b (o + ds.length) es) : CellsAt Φ lb b o (ds ++ es) := by
  induction ds generalizing o with
  | nil => simpa using h'
  | cons d ds ih =>
    cases h with
    | cons e ok hd ht => exact .cons e ok hd (ih ht (by rw [show o + 1 + ds.length = o + (d :: ds).length by simp; omega]; exact h'))

theorem ElemsAt.flat {Φ : CM} {lb : Bool} {z b o : Nat} {xs : List D} (h : ElemsAt Φ lb z b o xs) : CellsAt Φ lb b o (xs.flatMap D.flat) ∧ ∀ x ∈ xs, x.flat.length = z := by
  induction xs generalizing o with
  | nil => exact ⟨.nil, by simp⟩
  | cons x xs ih =>
    cases h with
    | cons e c t =>
      obtain ⟨h1, h2⟩ := ih t
      refine ⟨?_, by simpa using ⟨e, h2⟩⟩
      rw [List.flatMap_cons]
      exact c.append (by rw [e]; exact h1)

theorem ElemsAt.ofFlat {Φ : CM} {lb : Bool} {z b o : Nat} {xs : List D} (h : CellsAt Φ lb b o (xs.flatMap D.flat)) (hz : ∀ x ∈ xs, x.flat.length = z) : ElemsAt Φ lb z b o xs := by
  induction xs generalizing o with
  | nil => exact .nil
  | cons x xs ih =>
    rw [List.flatMap_cons] at h
    have hx := hz x (by simp)
    refine .cons hx (CellsAt.of fun j d hj => ?_) (ih ?_ fun y hy => hz y (by simp [hy]))
    · exact h.get j d (by rw [List.getElem?_append_left (List.getElem?_eq_some_iff.1 hj).1]; exact hj)
    · refine CellsAt.of fun j d hj => ?_
      obtain ⟨c, h1, h2, h3⟩ := h.get (x.flat.length + j) d (by rw [List.getElem?_append_right (by omega)]; simpa using hj)
      exact ⟨c, by rw [← h1, hx]; congr 1; omega, h2, h3⟩

theorem ElemsAt.append {Φ : CM} {lb : Bool} {z b o : Nat} {xs ys : List D} (h : ElemsAt Φ lb z b o xs) (h' : ElemsAt Φ lb z b (o + xs.length * z) ys) : ElemsAt Φ lb z b o (xs ++ ys) := by
  obtain ⟨a1, a2⟩ := h.flat
  obtain ⟨b1, b2⟩ := h'.flat
  refine .ofFlat ?_ (fun x hx => by rcases List.mem_append.1 hx with e | e; exact a2 x e; exact b2 x e)
  rw [List.flatMap_append]
  exact a1.append (by rw [flat_length a2]; exact b1)

theorem ElemsAt.sub {Φ : CM} {lb : Bool} {z b o : Nat} {xs : List D} (h : ElemsAt Φ lb z b o xs) (l n : Nat) : ElemsAt Φ lb z b (o + l * z) ((xs.take n).drop l) := by
  refine .of fun i x hi => ?_
  rw [List.getElem?_drop, List.getElem?_take] at hi
  split at hi
  · obtain ⟨h1, h2⟩ := h.get _ x hi
    refine ⟨h1, ?_⟩
    rw [Nat.add_mul] at h2
    rw [Nat.add_assoc]; exact h2
  · cases hi

/-- A slice's elements, as cells. -/
theorem RepD.sl_inv {Φ : CM} {lb : Bool} {z : Nat} {xs : List D} {v : Value} (h : RepD Φ (.sl lb z xs) v) : ∃ a cap, v = .slice a xs.length cap ∧ xs.length ≤ cap ∧
    (xs ≠ [] → ∃ b o, a = some ⟨b, o, none⟩ ∧ ElemsAt Φ lb z b o xs) := by
  cases h with
  | sl0 => exact ⟨_, _, rfl, Nat.zero_le _, fun h => absurd rfl h⟩
  | sl h1 h2 h3 => exact ⟨_, _, rfl, h2, fun _ => ⟨_, _, rfl, h3⟩⟩

/-- cells, as a row of values -/
theorem RepL.cellsAt {Φ : CM} {lb : Bool} {b o : Nat} {ds : List D} {vs : List Value} (h : RepL Φ ds vs) (hc : ∀ (j : Nat) v, vs[j]? = some v → Φ lb b (o + j) = some v) : CellsAt Φ lb b o ds := by
  obtain ⟨h1, h2⟩ := h.get
  refine CellsAt.of fun j d hj => ?_
  have hj' : j < vs.length := by rw [← h1]; exact (List.getElem?_eq_some_iff.1 hj).1
  obtain ⟨a, b⟩ := h2 j d _ hj (List.getElem?_eq_getElem hj')
  exact ⟨_, hc j _ (List.getElem?_eq_getElem hj'), a, b⟩

section
variable {P : Program} {κ : Ctx} {Φ : CM} {B : List Nat} {au : Auth} {s : St} {a : Act} {w : World} {K : St → Prop} {o : Oper}

/-- The cells of a slice's elements are loaded. -/
theorem run_firstCells (h : Inv κ Φ B au s a w) {lb : Bool} {z : Nat} {xs : List D} {v : Value} (hr : RepD Φ (.sl lb z xs) v) :
    ∃ vs : List Value, (∀ w', Grows w w' → (Builtin.firstCells z xs.length v).run P w' = .ok vs.toArray w') ∧ RepL Φ (xs.flatMap D.flat) vs ∧ vs.length = xs.length * z ∧ ∀ v ∈ vs, okCell v := by
  obtain ⟨ad, cap, rfl, _, he⟩ := hr.sl_inv
  by_cases hne : xs = []
  · subst hne
    refine ⟨[], fun w' _ => ?_, .nil, by simp, by simp⟩
    cases ad with
    | none => rfl
    | some ad =>
      show (loadCells ad (0 * z)).run P w' = _
      rw [Nat.zero_mul]; rfl
  · obtain ⟨b, off, rfl, he'⟩ := he hne
    obtain ⟨hc, hz⟩ := ElemsAt.flat he'
    obtain ⟨vs, h1, h2, h3⟩ := hc.cells
    have hl : vs.length = xs.length * z := by rw [h1, flat_length hz]
    refine ⟨vs, fun w' g => ?_, h3, hl, fun v hv => ?_⟩
    · show (loadCells ⟨b, off, none⟩ (xs.length * z)).run P w' = _
      rw [← hl]; exact run_loadCells fun j v hj => g.cell (h.phi _ _ _ _ (h2 j v hj))
    · obtain ⟨j, hj, rfl⟩ := List.getElem_of_mem hv
      obtain ⟨q1, q2⟩ := h3.get
      have hj' : j < (xs.flatMap D.flat).length := by rw [q1]; exact hj
      exact (q2 j _ _ (List.getElem?_eq_getElem hj') (List.getElem?_eq_getElem hj)).1

/-- a map of cells with a row more -/
def CM.add (Φ : CM) (b o : Nat) (vs : List Value) : CM := fun lb b' o' => if b' = b ∧ o ≤ o' ∧ o' < o + vs.length then vs[o' - o]? else Φ lb b' o'

theorem CM.le_add {Φ : CM} {b o : Nat} {vs : List Value} (h : ∀ lb o' v, o ≤ o' → o' < o + vs.length → Φ lb b o' ≠ some v) : Φ.le (Φ.add b o vs) := by
  intro lb b' o' v e
  unfold CM.add
  rw [if_neg]; exact e
  rintro ⟨rfl, h1, h2⟩
  exact h lb o' v h1 h2 e

theorem CM.add_get {Φ : CM} {lb : Bool} {b o : Nat} {vs : List Value} (j : Nat) (v : Value) (h : vs[j]? = some v) : Φ.add b o vs lb b (o + j) = some v := by
  unfold CM.add
  have := (List.getElem?_eq_some_iff.1 h).1
  rw [if_pos ⟨rfl, by omega, by omega⟩, show o + j - o = j by omega]; exact h

/-- A block is laid whose first cells are immutable from now on and whose others are a slot's. -/
theorem Inv.lay (h : Inv κ Φ B au s a w) {el : TypeId} {vs rest : List Value} {z : Nat} {xs : List D} (hr : RepL Φ (xs.flatMap D.flat) vs) (hz : ∀ x ∈ xs, x.flat.length = z) (d cap : Nat) (hcap : xs.length ≤ cap) (hsz : vs.length + rest.length = cap * z) :
    ∃ Φ' au', Inv κ Φ' B au' (s.put (some d) (.own z xs)) (a.put (some d) (.slice (some ⟨w.heap.size, 0, none⟩) xs.length cap)) { w with heap := w.heap.push (.cells (vs ++ rest).toArray el (0, 0)) } := by
  have g := h.grow (Grows.push w (.cells (vs ++ rest).toArray el (0, 0)))
  have hnew : au w.heap.size = none := by
    cases e : au w.heap.size with
    | none => rfl
    | some x => exact absurd (h.auw _ _ _ e).1 (Nat.lt_irrefl _)
  have hΦ : ∀ lb o' v, Φ lb w.heap.size o' ≠ some v := by
    intro lb o' v e
    have := h.phi _ _ _ _ e
    unfold World.cell? at this
    simp at this
  have hlen : vs.length = xs.length * z := by rw [← hr.get.1, flat_length hz]
  have hle : Φ.le (Φ.add w.heap.size 0 vs) := CM.le_add fun lb o' v _ _ => hΦ lb o' v
  let au' : Auth := fun b => if b = w.heap.size then some (.slot d 0, vs.length) else au b
  have hau : ∀ b h0 st, au b = some (h0, st) → au' b = some (h0, st) := fun b h0 st e => by
    simp only [au']; rw [if_neg]; exact e
    rintro rfl; rw [hnew] at e; cases e
  have hrep : RepD (Φ.add w.heap.size 0 vs) (.sl false z xs) (.slice (some ⟨w.heap.size, 0, none⟩) xs.length cap) := by
    by_cases hne : xs = []
    · subst hne; exact .sl0
    · refine .sl hne hcap (.ofFlat ?_ hz)
      exact (hr.mono hle).cellsAt fun j v hj => CM.add_get j v hj
  have hnewb : ({ w with heap := w.heap.push (.cells (vs ++ rest).toArray el (0, 0)) } : World).heap[w.heap.size]? = some (.cells (vs ++ rest).toArray el (0, 0)) := by simp
  have i1 : Inv κ (Φ.add w.heap.size 0 vs) B au' s a { w with heap := w.heap.push (.cells (vs ++ rest).toArray el (0, 0)) } := by
    refine { g with phi := fun lb b o v e => ?_, phia := fun lb b o v h0 st hp e => ?_, auw := fun b h0 st e => ?_, lePhi := h.lePhi.trans hle, tm := fun i V v hV hv => ?_, hp := fun id o b ho hb => ?_, df := ?_, src := fun lb b o v e => ?_ }
    · unfold CM.add at e
      split at e
      · rename_i hc
        obtain ⟨rfl, _, h2⟩ := hc
        rw [cell_of hnewb]
        simp only [Nat.sub_zero] at e
        rw [List.getElem?_toArray, List.getElem?_append_left (List.getElem?_eq_some_iff.1 e).1]; exact e
      · exact g.phi _ b o v e
    · simp only [au'] at e
      split at e
      · rename_i eb; subst eb
        injection e with e; injection e with _ e; subst e
        unfold CM.add at hp
        split at hp
        · rename_i hc; omega
        · exact absurd hp (hΦ _ _ _)
      · rename_i eb
        unfold CM.add at hp
        rw [if_neg (fun hc => eb hc.1)] at hp
        exact h.phia _ b o v h0 st hp e
    · simp only [au'] at e
      split at e
      · rename_i eb; subst eb; exact ⟨by simp, .inr h.size⟩
      · exact g.auw b h0 st e
    · obtain ⟨k1, k2⟩ := g.tm i V v hV hv
      exact ⟨k1.mono hle (fun _ _ h => h), k2.mono fun j b st e => ⟨hau b _ st e, rfl⟩⟩
    · exact (g.hp id o b ho hb).mono hle (fun _ _ h => h) (fun e => ⟨hau b _ _ e, rfl⟩) (fun j b st e => ⟨hau b _ st e, rfl⟩)
    · obtain ⟨rs, h1, h2, h3⟩ := h.df
      refine ⟨rs, h1, h2, fun r hr => ?_⟩
      obtain ⟨x, y, z⟩ := h3 r hr
      have hlt := lt_of_heap x
      refine ⟨(Grows.push w _).same r hlt ▸ x, ?_, z⟩
      simp only [au']; rw [if_neg (by omega)]; exact y
    · unfold CM.add at e
      split at e
      · rename_i hc; right; right; rw [hc.1]; exact h.size
      · exact h.src _ b o v e
  refine ⟨_, au', i1.put (some d) (.own hrep) fun d' hd' => ?_⟩
  injection hd' with hd'; subst hd'
  refine ⟨_, _, _, rfl, .inr ⟨w.heap.size, 0, _, el, rfl, by simp only [au']; simp [hlen], hnewb, by simp; omega⟩⟩

theorem growsDrew {w : World} : Grows w { w with drawn := w.drawn + 1 } := Grows.drew w _

theorem zeroCells_size {zc : Array Value} {n : Nat} : (Builtin.zeroCells zc n).size = n * zc.size := by simp [Builtin.zeroCells]

/-- What was a slot's is another's, or begins later. -/
theorem Inv.reauth (h : Inv κ Φ B au s a w) {au' : Auth} {i : Nat} (h1 : ∀ b h st, au b = some (h, st) → h ≠ .slot i 0 → au' b = some (h, st))
    (h2 : ∀ b h st, au' b = some (h, st) → ∃ h0 st0, au b = some (h0, st0) ∧ st0 ≤ st) (hs : ∀ V, s.tm[i]? = some V → V.cp = V ∧ V.isTup = false) : Inv κ Φ B au' s a w := by
  have h3 : ∀ b, au b = none → au' b = none := fun b e => by
    cases e' : au' b with
    | none => rfl
    | some x => obtain ⟨h0, st0, e0, _⟩ := h2 b _ _ e'; rw [e] at e0; cases e0
  refine { h with phia := fun lb b o v h0 st hp ha => ?_, auw := fun b h0 st ha => ?_, tm := fun k V' v' hV hv => ?_, hp := fun id o b ho hb => ?_, df := ?_ }
  · obtain ⟨q, st0, e, hle⟩ := h2 b _ _ ha; exact Nat.lt_of_lt_of_le (h.phia _ b o v _ st0 hp e) hle
  · obtain ⟨q, st0, e, hle⟩ := h2 b _ _ ha; exact h.auw b _ st0 e
  · obtain ⟨k1, k2⟩ := h.tm k V' v' hV hv
    refine ⟨k1, ?_⟩
    by_cases ek : k = i
    · subst ek; exact OwnV_of_cp (hs V' hV).1 (hs V' hV).2 _ _ _ _
    · exact k2.mono fun j b st hh => ⟨h1 b _ st hh (by intro hh'; injection hh' with hh' _; exact ek hh'), rfl⟩
  · exact (h.hp id o b ho hb).mono (CM.le_refl _) (fun _ _ h => h) (fun hh => ⟨h1 b _ _ hh (by simp), rfl⟩) (fun j b st hh => ⟨h1 b _ _ hh (by simp), rfl⟩)
  · obtain ⟨rs, g1, g2, g3⟩ := h.df
    exact ⟨rs, g1, g2, fun r hr => let ⟨x, y, z⟩ := g3 r hr; ⟨x, h3 _ y, z⟩⟩

/-- A row of cells is written into a block behind what is immutable there, and is immutable from now on. -/
theorem Inv.extend (h : Inv κ Φ B au s a w) {b st0 : Nat} {hd : Holder} {c : Array Value} {el : TypeId} {vs : List Value} {w' : World} (ha : au b = some (hd, st0 + vs.length)) (hhd : ∀ id, hd ≠ .obj id)
    (hΦ : ∀ lb o' v, Φ lb b o' = some v → o' < st0) (hw : w.heap[b]? = some (.cells c el (0, 0))) (g : Writes w w' b c el st0 vs) (hfit : st0 + vs.length ≤ c.size)
    (htm : ∀ (i : Nat) V v, s.tm[i]? = some V → a.tmps[i]? = some v → OwnV au w' (.slot i) V v)
    (hcell : ∀ id j, hd ≠ .cell id j) : Inv κ (Φ.add b st0 vs) B au s a w' := by
  have hle : Φ.le (Φ.add b st0 vs) := CM.le_add fun lb o' v h1 h2 e => absurd (hΦ lb o' v e) (by omega)
  have hne : ∀ b' h0 st, au b' = some (h0, st) → h0 ≠ hd → w'.heap[b']? = w.heap[b']? := fun b' h0 st e hn => g.there b' (by rintro rfl; rw [ha] at e; injection e with e; injection e with e _; exact hn e.symm)
  obtain ⟨c', q1, q2, q3, q4⟩ := g.here
  refine { h with phi := fun lb b' o v e => ?_, phia := fun lb b' o v h0 st hp e => ?_, auw := fun b' h0 st e => ?_, size := by rw [g.size]; exact h.size, keep := fun b' hb' hm => ?_, lePhi := h.lePhi.trans hle, tm := fun i V v hV hv => ?_, hp := fun id' o b' ho hb' => ?_, df := ?_, rd := fun l hl' => ?_, lp := fun l r hl' => ?_, src := fun lb b' o v e => ?_, wo := ⟨g.tape.trans h.wo.1, g.os.trans h.wo.2.1, g.out.trans h.wo.2.2⟩ }
  · unfold CM.add at e
    split at e
    · rename_i hc
      obtain ⟨rfl, h1, h2⟩ := hc
      rw [cell_of q1, q3 o h1 h2]; exact e
    · by_cases eb : b' = b
      · subst eb
        have := hΦ lb o v e
        rw [cell_of q1, q4 o (.inl this), ← cell_of hw]; exact h.phi _ _ _ _ e
      · have hc := h.phi _ b' o v e
        unfold World.cell? at *
        simp only at hc ⊢
        rw [g.there b' eb]; exact hc
  · unfold CM.add at hp
    split at hp
    · rename_i hc
      obtain ⟨rfl, _, h2⟩ := hc
      rw [ha] at e; injection e with e; injection e with _ e; omega
    · exact h.phia _ b' o v h0 st hp e
  · rw [g.size]; exact h.auw b' h0 st e
  · rw [g.there b' ?_]; exact h.keep b' hb' hm
    rintro rfl
    rcases (h.auw _ _ _ ha).2 with x | x
    · exact hm x
    · omega
  · exact ⟨(h.tm i V v hV hv).1.mono hle (fun _ _ h => h), htm i V v hV hv⟩
  · exact (h.hp id' o b' ho hb').mono hle (fun _ _ h => h) (fun hh => ⟨hh, hne b' _ _ hh (Ne.symm (hhd _))⟩) (fun j b st hh => ⟨hh, hne b _ st hh (Ne.symm (hcell _ _))⟩)
  · obtain ⟨rs, k1, k2, k3⟩ := h.df
    refine ⟨rs, k1, k2, fun r hr => ?_⟩
    obtain ⟨x, y, z⟩ := k3 r hr
    exact ⟨(g.there r (by rintro rfl; rw [y] at ha; cases ha)).trans x, y, z⟩
  · obtain ⟨r, hr⟩ := h.rd l hl'
    have : l ≠ b := by rintro rfl; rw [hw] at hr; cases hr
    exact ⟨r, (g.there l this).trans hr⟩
  · obtain ⟨r, hr⟩ := h.lp l r hl'
    have : l ≠ b := by rintro rfl; rw [hw] at hr; cases hr
    exact ⟨r, (g.there l this).trans hr⟩
  · unfold CM.add at e
    split at e
    · rename_i hc; right; rw [hc.1]; exact (h.auw _ _ _ ha).2
    · exact h.src _ b' o v e

/-- append, where the first slice's spare room is a slot's own. -/
theorem run_append (h : Inv κ Φ B au s a w) {st xt : TypeId} {z y : Nat} {xs ys : List D} {v u : Value} {i0 : Nat} (hel : elI P st = some (z, y)) (hxt : (elemTy P xt).isSome = true) (hz0 : 0 < z) (hy0 : 0 < y)
    (hb : (xs.length + ys.length) * y ≤ 140737488355328) {lu : Bool} (hv : RepD Φ (.sl false z xs) v) (hu : RepD Φ (.sl lu z ys) u) (ht : TailOK au w (.slot i0 0) z v) (hs : ∀ V, s.tm[i0]? = some V → V.cp = V ∧ V.isTup = false) (d : Nat) {rt : TypeId} :
    ∃ r w', (Builtin.append_ #[st, xt] rt #[v, u]).run P w = .ok r w' ∧ ∃ Φ' au', Inv κ Φ' B au' (s.put (some d) (.own z (xs ++ ys))) (a.put (some d) r) w' := by
  obtain ⟨el, i, zv, hu1, hi, hzv, hsz, hby, hzs⟩ := elI_inv hel
  obtain ⟨ad, cap, rfl, hcap, hxs⟩ := hv.sl_inv
  obtain ⟨ad2, cap2, rfl, hcap2, hys⟩ := hu.sl_inv
  obtain ⟨vs, g1, g2, g3, g4⟩ := run_firstCells (P := P) h hu
  have hxu : ∃ e2, P.underlying xt = some (.slice e2) := by
    unfold elemTy at hxt
    cases hq : P.underlying xt with
    | none => simp [hq] at hxt
    | some d => cases d <;> simp [hq] at hxt; exact ⟨_, rfl⟩
  obtain ⟨e2, hxu⟩ := hxu
  have hysz : ∀ x ∈ ys, x.flat.length = z := by
    by_cases hne : ys = []
    · subst hne; simp
    · obtain ⟨_, _, _, he⟩ := hys hne; exact he.flat.2
  have hxsz : ∀ x ∈ xs, x.flat.length = z := by
    by_cases hne : xs = []
    · subst hne; simp
    · obtain ⟨_, _, _, he⟩ := hxs hne; exact he.flat.2
  obtain ⟨us, k1, k2, k3, k4⟩ := run_firstCells (P := P) h hv
  subst hsz; subst hby
  by_cases hfit : xs.length + ys.length ≤ cap
  · -- there is room
    have hrun : ∀ w', (match ad with | some a => storeCells (a.add (xs.length * i.size)) vs | none => pure () : Sem Unit).run P w = .ok () w' →
        (Builtin.append_ #[st, xt] rt #[.slice ad xs.length cap, .slice ad2 ys.length cap2]).run P w = .ok (.slice ad (xs.length + ys.length) cap) w' := by
      intro w' hw'
      have hf := g1 w (Grows.refl w)
      cases ad <;> simp [Builtin.append_, run_underlying hu1, run_underlying hxu, run_sizeOf hi, Builtin.lenOf, hfit, hf] at hw' ⊢
      · exact hw'
      · rw [hw']; rfl
    obtain ⟨_, _, _, e, ht⟩ := ht
    injection e with e1 e2 e3
    subst e1; subst e2; subst e3
    by_cases hn : ys = []
    · subst hn
      have hvs : vs = [] := by
        have := g3; simp at this; exact this
      subst hvs
      let au' : Auth := fun b => match au b with
        | some (h, st) => if h = .slot i0 0 then some (.slot d 0, st) else some (h, st)
        | none => none
      have hi1 : Inv κ Φ B au' s a w := by
        refine h.reauth (i := i0) (fun b h st e hn => ?_) (fun b h st e => ?_) hs
        · simp only [au', e]; rw [if_neg hn]
        · simp only [au'] at e
          split at e
          · rename_i h' st' e'
            split at e <;> (injection e with e; injection e with e1 e2; subst e2; exact ⟨_, _, e', Nat.le_refl _⟩)
          · cases e
      refine ⟨_, w, hrun w (by cases ad <;> rfl), Φ, au', ?_⟩
      simp only [List.append_nil, List.length_nil, Nat.add_zero]
      refine hi1.slot d (.own hv) ⟨_, _, _, rfl, ht.imp id ?_⟩
      rintro ⟨b, off, c, elx, rfl, t1, t2, t3⟩
      exact ⟨b, off, c, elx, rfl, by simp only [au', t1]; simp, t2, t3⟩
    · have hpos : 0 < ys.length := List.length_pos_iff.2 hn
      rcases ht with ht | ⟨b, off, c, elx, rfl, t1, t2, t3⟩
      · omega
      have hmul : (xs.length + ys.length) * i.size ≤ cap * i.size := Nat.mul_le_mul_right _ hfit
      rw [Nat.add_mul] at hmul
      obtain ⟨w', m1, m2⟩ := run_storeCells (P := P) (off := off + xs.length * i.size) vs 0 w c t2 (by rw [g3]; omega) g4
      have m2' : Writes w w' b c elx (off + xs.length * i.size) vs := m2
      let au' : Auth := fun b' => if b' = b then some (.slot d 0, off + (xs.length + ys.length) * i.size) else au b'
      have hst : off + xs.length * i.size + vs.length = off + (xs.length + ys.length) * i.size := by rw [g3, Nat.add_mul]; omega
      have hi1 : Inv κ Φ B au' s a w := by
        refine h.reauth (i := i0) (fun b' h' st' e hn => ?_) (fun b' h' st' e => ?_) hs
        · simp only [au']; rw [if_neg]; exact e
          rintro rfl; rw [t1] at e; injection e with e; injection e with e _; exact hn e.symm
        · simp only [au'] at e
          split at e
          · rename_i eb; subst eb
            injection e with e; injection e with _ e; subst e
            exact ⟨_, _, t1, by rw [Nat.add_mul]; omega⟩
          · exact ⟨_, _, e, Nat.le_refl _⟩
      have hab : au' b = some (.slot d 0, off + xs.length * i.size + vs.length) := by simp [au', hst]
      have hΦ : ∀ lb o' v, Φ lb b o' = some v → o' < off + xs.length * i.size := fun lb o' v e => h.phia _ b o' v _ _ e t1
      -- the new value first, so that the place holds it when the block is written
      have hle : Φ.le (Φ.add b (off + xs.length * i.size) vs) := CM.le_add fun lb o' v h1 h2 e => absurd (hΦ lb o' v e) (by omega)
      have hi2 : Inv κ (Φ.add b (off + xs.length * i.size) vs) B au' { s with tm := s.tm.set d .un } { a with tmps := a.tmps.setIfInBounds d (.slice (some ⟨b, off, none⟩) (xs.length + ys.length) cap) } w' := by
        refine (hi1.slot d (.un _) trivial).extend hab (by simp) hΦ t2 m2' (by rw [hst, Nat.add_mul]; omega) (fun k V v hV hv => ?_) (by simp)
        obtain ⟨q1, q2⟩ := (hi1.slot d (.un (.slice (some ⟨b, off, none⟩) (xs.length + ys.length) cap)) trivial).tm k V v hV hv
        by_cases ek : k = d
        · subst ek
          have : V = .un := by
            have hV' : (s.tm.set k .un)[k]? = some V := hV
            rw [List.getElem?_set, if_pos rfl] at hV'
            split at hV'
            · injection hV' with hV'; exact hV'.symm
            · cases hV'
          subst this; trivial
        · refine q2.mono fun j b' st' e => ⟨e, m2'.there b' ?_⟩
          rintro rfl
          rw [hab] at e; injection e with e; injection e with e _; injection e with e _; exact ek e.symm
      have hnew : ElemsAt (Φ.add b (off + xs.length * i.size) vs) false i.size b (off + xs.length * i.size) ys :=
        .ofFlat ((g2.mono hle).cellsAt fun j v hj => CM.add_get j v hj) hysz
      have hxe : xs ≠ [] → ElemsAt (Φ.add b (off + xs.length * i.size) vs) false i.size b off xs := fun hne => by
        obtain ⟨b', o', e, he⟩ := hxs hne
        injection e with e; injection e with e1 e2 _; subst e1; subst e2
        exact he.mono hle
      have hrep : RepD (Φ.add b (off + xs.length * i.size) vs) (.sl false i.size (xs ++ ys)) (.slice (some ⟨b, off, none⟩) (xs.length + ys.length) cap) := by
        have : xs.length + ys.length = (xs ++ ys).length := by simp
        rw [this]
        refine .sl (by simp [hn]) (by simpa using hfit) ?_
        by_cases hne : xs = []
        · subst hne; simpa using hnew
        · exact (hxe hne).append hnew
      obtain ⟨c', q1, q2, q3, q4⟩ := m2'.here
      refine ⟨_, w', hrun w' (by simpa [addr_add] using m1), Φ.add b (off + xs.length * i.size) vs, au', ?_⟩
      have := hi2.slot d (V := .own i.size (xs ++ ys)) (v := .slice (some ⟨b, off, none⟩) (xs.length + ys.length) cap) (.own hrep) ⟨_, _, _, rfl, .inr ⟨b, off, c', elx, rfl, by simp only [au']; simp, q1, by rw [q2]; exact t3⟩⟩
      simpa [St.put, Act.put] using this
  · -- there is none
    have hgrow : cap < xs.length + ys.length := by omega
    have h48 := growslice_fits (need := xs.length + ys.length) (old := cap) (bytes := i.bytes) hgrow hb
    have h48' : ¬ (281474976710656 < Builtin.nextslicecap (xs.length + ys.length) cap * i.bytes) := by omega
    have hby0 : i.bytes ≠ 0 := by omega
    have hnc : xs.length + ys.length ≤ grownCap w (xs.length + ys.length) cap el := by unfold grownCap Question.cut; exact Nat.le_add_right _ _
    have hrun : (Builtin.append_ #[st, xt] rt #[.slice ad xs.length cap, .slice ad2 ys.length cap2]).run P w =
        .ok (.slice (some ⟨w.heap.size, 0, none⟩) (xs.length + ys.length) (grownCap w (xs.length + ys.length) cap el)) { w.drew with heap := w.heap.push (.cells (us ++ vs ++ (Builtin.zeroCells zv.cells (grownCap w (xs.length + ys.length) cap el - (xs.length + ys.length))).toList).toArray el (0, 0)) } := by
      have hf := g1 w.drew (Grows.drew w _)
      have hfo := k1 w.drew (Grows.drew w _)
      simp [Builtin.append_, run_underlying hu1, run_underlying hxu, run_typeInfo hi, run_sizeOf hi, run_zeroValue hi hzv, Builtin.lenOf, hfit, hby0, h48', Question.forced, hf, hfo, newRow]
      refine ⟨rfl, ?_⟩
      unfold World.alloc World.drew grownCap
      congr 2
      congr 1
      apply Array.ext'
      simp
    generalize hN : grownCap w (xs.length + ys.length) cap el = N at hnc hrun
    obtain ⟨Φ', au', hfin⟩ := (h.grow (Grows.drew w (w.drawn + 1))).lay (el := el) (vs := us ++ vs) (rest := (Builtin.zeroCells zv.cells (N - (xs.length + ys.length))).toList) (z := i.size) (xs := xs ++ ys)
      (by
        rw [List.flatMap_append]
        obtain ⟨a1, a2⟩ := k2.get
        obtain ⟨b1, b2⟩ := g2.get
        refine RepL.of (by simp [a1, b1]) fun j dd c hj hc => ?_
        by_cases hlt : j < us.length
        · rw [List.getElem?_append_left (by rw [a1]; exact hlt)] at hj
          rw [List.getElem?_append_left hlt] at hc
          exact a2 j dd c hj hc
        · rw [List.getElem?_append_right (by rw [a1]; omega)] at hj
          rw [List.getElem?_append_right (by omega)] at hc
          exact b2 _ dd c (by rw [← a1]; exact hj) hc)
      (fun x hx => by rcases List.mem_append.1 hx with e | e; exact hxsz x e; exact hysz x e) d N (by simpa using hnc)
      (by
        simp only [List.length_append, Array.length_toList, zeroCells_size, hzs, k3, g3]
        rw [← Nat.add_mul, ← Nat.add_mul]; congr 1; omega)
    rw [List.length_append] at hfin
    exact ⟨_, _, hrun, Φ', au', hfin⟩

end
end Go.Idl
end
section
namespace Go.Idl

section
variable {P : Program} {κ : Ctx} {Φ : CM} {B : List Nat} {au : Auth} {s : St} {a : Act} {w : World} {K : St → Prop} {o : Oper}

theorem sliceIx_run (h : Inv κ Φ B au s a w) {d n : Int} {x : Option Operand} (e : sliceIx P s d x = some n) : (∃ k y, x = some y ∧ a.eval y = .int k n) ∨ (x = none ∧ n = d) := by
  cases x with
  | none => simp [sliceIx] at e; exact .inr ⟨rfl, e.symm⟩
  | some y =>
    simp only [sliceIx] at e
    split at e
    · rename_i k m e2
      injection e with e; subst e
      exact .inl ⟨k, y, rfl, repD_int (ev_d h e2)⟩
    · cases e

theorem run_sliceBound {k : IntKind} {n : Int} {y : Nat} {c : BoundsCode} (h0 : 0 ≤ n) (h1 : n ≤ y) : (Instr.sliceBound (.int k n) y c).run P w = .ok n.toNat w := by
  unfold Instr.sliceBound
  simp only [asIntOf, pure_bind]
  rw [if_pos ⟨h0, h1⟩]; rfl

/-- the bounds of a slice expression -/
theorem run_sliceBounds (h : Inv κ Φ B au s a w) {b : Bool} {len cap : Nat} {lo hi mx : Option Operand} {l u m : Int} (hl : sliceIx P s 0 lo = some l) (hu : sliceIx P s len hi = some u)
    (hm : (mx = none ∧ m = cap) ∨ (sliceIx P s 0 mx = some m ∧ mx.isSome = true ∧ hi.isSome = true)) (h0 : 0 ≤ l) (h1 : l ≤ u) (h2 : u ≤ m) (h3 : m ≤ cap) :
    (Instr.sliceBounds b len cap (lo.map a.eval) (hi.map a.eval) (mx.map a.eval)).run P w = .ok (l.toNat, u.toNat, m.toNat) w := by
  unfold Instr.sliceBounds
  rcases hm with ⟨rfl, rfl⟩ | ⟨hm, hms, his⟩
  · rcases sliceIx_run h hu with ⟨k, y, rfl, ey⟩ | ⟨rfl, rfl⟩
    · rcases sliceIx_run h hl with ⟨kl, yl, rfl, eyl⟩ | ⟨rfl, rfl⟩
      · simp only [Option.map_some, Option.map_none, pure_bind, ey, eyl]
        rw [Sem.run_bind, run_sliceBound (by omega) (by omega)]; simp only [Result.andThen_ok]
        rw [Sem.run_bind, run_sliceBound (by omega) (by omega)]; simp only [Result.andThen_ok, Int.toNat_natCast]; rfl
      · simp only [Option.map_some, Option.map_none, pure_bind, ey]
        rw [Sem.run_bind, run_sliceBound (by omega) (by omega)]; simp only [Result.andThen_ok, Int.toNat_natCast]; rfl
    · rcases sliceIx_run h hl with ⟨kl, yl, rfl, eyl⟩ | ⟨rfl, rfl⟩
      · simp only [Option.map_some, Option.map_none, pure_bind, eyl]
        rw [Sem.run_bind, run_sliceBound (by omega) (by omega)]; simp only [Result.andThen_ok, Int.toNat_natCast]; rfl
      · simp only [Option.map_none, pure_bind, Int.toNat_natCast]; rfl
  · rcases sliceIx_run h hm with ⟨k, y, rfl, ey⟩ | ⟨rfl, rfl⟩
    · rcases sliceIx_run h hu with ⟨k', y', rfl, ey'⟩ | ⟨rfl, rfl⟩
      · rcases sliceIx_run h hl with ⟨kl, yl, rfl, eyl⟩ | ⟨rfl, rfl⟩
        · simp only [Option.map_some, ey, ey', eyl]
          rw [Sem.run_bind, run_sliceBound (by omega) h3]; simp only [Result.andThen_ok]
          rw [Sem.run_bind, run_sliceBound (by omega) (by omega)]; simp only [Result.andThen_ok]
          rw [Sem.run_bind, run_sliceBound (by omega) (by omega)]; rfl
        · simp only [Option.map_some, Option.map_none, ey, ey', pure_bind]
          rw [Sem.run_bind, run_sliceBound (by omega) h3]; simp only [Result.andThen_ok]
          rw [Sem.run_bind, run_sliceBound (by omega) (by omega)]; rfl
      · simp at his
    · simp at hms

theorem ElemsAt.addr {z b off l n : Nat} : ((some ⟨b, off, none⟩ : Option Addr).map (·.add (l * z))) = some ⟨b, off + l * z, none⟩ := by simp [addr_add]

/-- a bound that is 0 -/
theorem isZero_some {mx : Option Operand} (h : isZero mx = true) : ∃ k, mx = some (.const (.int k 0)) := by
  unfold isZero at h
  split at h
  · exact ⟨_, rfl⟩
  · cases h

/-- the slice expression, run -/
theorem run_sliceOp {t : TypeId} {x : Operand} {lo hi mx : Option Operand} {ty : TypeId} {i : TypeInfo} {ad : Option Addr} {len cap l u m : Nat} (ho : o.op = .slice t x lo hi mx) (hut : P.underlying t = some (.slice ty)) (hi' : P.info? ty = some i) (hv : a.eval x = .slice ad len cap)
    (hb : (Instr.sliceBounds true len cap (lo.map a.eval) (hi.map a.eval) (mx.map a.eval)).run P w = .ok (l, u, m) w) :
    (execOp a.eval o).run P w = .ok (.value (.slice (if m = l then ad else ad.map (·.add (l * i.size))) (u - l) (m - l))) w := by
  unfold execOp; rw [ho]; refine run_v ?_
  unfold Instr.sliceAt
  rw [Sem.run_bind, run_underlying hut]; simp only [Result.andThen_ok]
  unfold Instr.slice
  rw [Sem.run_bind, run_underlying hut]; simp only [Result.andThen_ok, hv]
  rw [Sem.run_bind, hb]; simp only [Result.andThen_ok]
  rw [Sem.run_bind, run_sizeOf hi']; rfl

theorem does_slice {t : TypeId} {x : Operand} {lo hi mx : Option Operand} {r : List Oper} (h : Inv κ Φ B au s a w) (ho : o.op = .slice t x lo hi mx) (hk : stepK P o r s K) : Does P κ o a w K := by
  simp only [stepK, ho] at hk
  unfold sliceK at hk
  split at hk
  · rename_i m0 z xs e
    split at hk
    · rename_i l u m el eu em
      obtain ⟨hz, hhi, h0, h1, h2, h3, hk⟩ := hk
      obtain ⟨ty, i, zv, hut, hi', _, hsz⟩ := elI_map hz
      have hr := ev_cp_d h e
      obtain ⟨ad, cap, hv, hcap, hxs⟩ := hr.sl_inv
      -- what comes
      have hlen : ((xs.take u.toNat).drop l.toNat).length = u.toNat - l.toNat := by simp; omega
      have main : ∀ (m' : Int) (hb : (Instr.sliceBounds true xs.length cap (lo.map a.eval) (hi.map a.eval) (mx.map a.eval)).run P w = .ok (l.toNat, u.toNat, m'.toNat) w) (hm : u ≤ m') (hmc : m' ≤ cap),
          ∃ v, (execOp a.eval o).run P w = .ok (.value v) w ∧ RepD Φ (.sl m0 z ((xs.take u.toNat).drop l.toNat)) v ∧ (u = m' → ∀ hd, TailOK au w hd z v) ∧ (m' = 0 → ∃ ad, v = .slice ad 0 0) := by
        intro m' hb hm hmc
        refine ⟨.slice (if m'.toNat = l.toNat then ad else ad.map (·.add (l.toNat * z))) (u.toNat - l.toNat) (m'.toNat - l.toNat), ?_, ?_, fun e hd => ⟨_, _, _, rfl, .inl (by rw [e])⟩, fun e => ?_⟩
        · have := run_sliceOp ho hut hi' hv hb
          rw [hsz] at this; exact this
        · by_cases hne : (xs.take u.toNat).drop l.toNat = []
          · rw [hne]
            rw [hne] at hlen
            simp at hlen
            rw [← hlen]; exact .sl0
          · have hpos : 0 < u.toNat - l.toNat := by rw [← hlen]; exact List.length_pos_iff.2 hne
            have hxne : xs ≠ [] := by rintro rfl; simp at hne
            obtain ⟨b, off, rfl, he⟩ := hxs hxne
            rw [if_neg (by omega), ElemsAt.addr (n := 0), ← hlen]
            refine .sl hne ?_ (he.sub _ _)
            rw [hlen]; omega
        · have e1 : u.toNat - l.toNat = 0 := by omega
          have e2 : m'.toNat - l.toNat = 0 := by omega
          rw [e1, e2]; exact ⟨_, rfl⟩
      cases mx with
      | none =>
        simp [sliceIx] at em; subst em
        obtain ⟨v, g1, g2, g3, _⟩ := main cap (run_sliceBounds h (m := cap) el eu (.inl ⟨rfl, rfl⟩) h0 h1 (by omega) (Int.le_refl _)) (by omega) (Int.le_refl _)
        simp only [isZero, Option.isSome_none, Bool.false_and, Bool.false_eq_true, if_false] at hk
        exact does_plain h g1 (.d g2) (fun _ => trivial) hk
      | some mo =>
        cases hi with
        | none => simp at hhi
        | some ho' =>
        obtain ⟨v, g1, g2, g3, g4⟩ := main m (run_sliceBounds h (m := m) el eu (.inr ⟨em, rfl, rfl⟩) h0 h1 h2 (by omega)) h2 (by omega)
        split at hk
        · rename_i hzr
          obtain ⟨k, hk'⟩ := isZero_some hzr
          injection hk' with hk'; subst hk'
          have hm0 : m = 0 := by simp [sliceIx, ev, constV, constD] at em; omega
          obtain ⟨ad', rfl⟩ := g4 hm0
          exact does_plain h g1 .nil (fun _ => trivial) hk
        · split at hk
          · rename_i hm0
            simp only [Option.isSome_some, Bool.true_and, Bool.not_eq_true'] at hm0
            subst hm0
            split at hk
            · rename_i heq
              exact does_plain h g1 (.own g2) (fun hd => g3 heq _) hk
            · exact does_plain h g1 (.d g2) (fun _ => trivial) hk
          · exact does_plain h g1 (.d g2) (fun _ => trivial) hk
    · exact hk.elim
  · rename_i z e
    split at hk
    · rename_i l u m el eu em
      obtain ⟨hz, hhi, rfl, rfl, rfl, hk⟩ := hk
      obtain ⟨ty, i, zv, hut, hi', _, hsz⟩ := elI_map hz
      have hr := (ev_rep (P := P) h t x).cp
      rw [e] at hr
      generalize hv : a.eval x = v at hr
      cases hr with
      | nil =>
        rename_i ad
        have hbnd := run_sliceBounds (P := P) h (b := true) (len := 0) (cap := 0) (m := 0) (lo := lo) (hi := hi) (mx := mx) el eu (by
          cases mx with
          | none => exact .inl ⟨rfl, rfl⟩
          | some mo => exact .inr ⟨em, rfl, by simpa using hhi⟩) (Int.le_refl _) (Int.le_refl _) (Int.le_refl _) (Int.le_refl _)
        exact does_plain h (run_sliceOp ho hut hi' hv hbnd) .nil (fun _ => trivial) hk
    · exact hk.elim
  · rename_i bs e
    split at hk
    · rename_i l u el eu
      obtain ⟨hut, h0, h1, h2, hk⟩ := hk
      have hr := repD_str (ev_cp_d h e)
      refine does_plain h ?_ (.d (.str _)) (fun _ => trivial) hk
      unfold execOp; rw [ho]; refine run_v ?_
      unfold Instr.sliceAt
      rw [Sem.run_bind, run_underlying hut]; simp only [Result.andThen_ok]
      unfold Instr.slice
      rw [Sem.run_bind, run_underlying hut]; simp only [Result.andThen_ok, hr, Option.map_none, Option.isSome_none, Bool.false_eq_true, if_false]
      have := run_sliceBounds (P := P) h (b := false) (len := bs.size) (cap := bs.size) (m := bs.size) (lo := lo) (hi := hi) (mx := none) el eu (.inl ⟨rfl, rfl⟩) h0 h1 (by omega) (Int.le_refl _)
      simp only [Option.map_none] at this
      rw [Sem.run_bind, this]; rfl
    · exact hk.elim
  · rename_i id z off len cap e
    split at hk
    · rename_i l u m el eu em
      obtain ⟨hz, hhi, h0, h1, h2, h3, hk⟩ := hk
      obtain ⟨ty, i, zv, hut, hi', _, hsz⟩ := elI_map hz
      have hr := (ev_rep (P := P) h t x).cp
      rw [e] at hr
      generalize hv : a.eval x = v at hr
      have hbnds : (mx = none ∧ m = cap) ∨ (sliceIx P s 0 mx = some m ∧ mx.isSome = true ∧ hi.isSome = true) := by
        cases mx with
        | none => simp [sliceIx] at em; exact .inl ⟨rfl, em.symm⟩
        | some mo => exact .inr ⟨em, rfl, by simpa using hhi⟩
      have hzero : isZero mx = true → m = 0 := fun hzr => by
        obtain ⟨k, hk'⟩ := isZero_some hzr
        subst hk'
        simp [sliceIx, ev, constV, constD] at em; omega
      cases hr with
      | ref0 =>
        have hl0 : l = 0 := by omega
        have hu0 : u = 0 := by omega
        have hm0 : m = 0 := by omega
        subst hl0; subst hu0; subst hm0
        rename_i ad
        have hbnd := run_sliceBounds (P := P) h (b := true) (len := 0) (cap := 0) (m := 0) (lo := lo) (hi := hi) (mx := mx) el eu hbnds h0 h1 (by omega) (Int.le_refl _)
        split at hk
        · exact does_plain h (run_sliceOp ho hut hi' hv hbnd) .nil (fun _ => trivial) hk
        · exact does_plain h (run_sliceOp ho hut hi' hv hbnd) .ref0 (fun _ => trivial) hk
      | ref hb hcap had =>
        rename_i b ad
        have hbnd := run_sliceBounds (P := P) h (b := true) (len := len) (cap := cap) (m := m) (lo := lo) (hi := hi) (mx := mx) el eu hbnds h0 h1 h2 h3
        split at hk
        · rename_i hzr
          have hm0 := hzero hzr
          have e1 : u.toNat - l.toNat = 0 := by omega
          have e2 : m.toNat - l.toNat = 0 := by omega
          have := run_sliceOp ho hut hi' hv hbnd
          rw [e1, e2] at this
          exact does_plain h this .nil (fun _ => trivial) hk
        · refine does_plain h (run_sliceOp ho hut hi' hv hbnd) (.ref hb (by omega) fun hpos => ?_) (fun _ => trivial) hk
          obtain rfl := had (by omega)
          rw [if_neg (by omega), ElemsAt.addr (n := 0), Nat.add_mul, hsz]
    · exact hk.elim
  · exact hk.elim

end
end Go.Idl
end
section
namespace Go.Idl

theorem flat_get {z : Nat} {xs : List D} (hz : ∀ x ∈ xs, x.flat.length = z) : ∀ (i j : Nat), j < z → (xs.flatMap D.flat)[i * z + j]? = (xs[i]?).bind (·.flat[j]?) := by
  induction xs with
  | nil => intro i j _; simp
  | cons x xs ih =>
    intro i j hj
    have hx := hz x (by simp)
    cases i with
    | zero => simp only [Nat.zero_mul, Nat.zero_add, List.flatMap_cons, List.getElem?_cons_zero, Option.bind_some]; rw [List.getElem?_append_left (by omega)]
    | succ i =>
      have := ih (fun y hy => hz y (by simp [hy])) i j hj
      rw [List.flatMap_cons, List.getElem?_append_right (by rw [Nat.add_mul]; omega), List.getElem?_cons_succ, ← this]
      congr 1; rw [Nat.add_mul]; omega

theorem fold_set (cs : List Value) (off : Nat) : ∀ (n : Nat) (arr : Array Value), ((cs.zipIdx n).foldl (fun (acc : Array Value) (p : Value × Nat) => acc.setIfInBounds (off + p.2) p.1) arr).size = arr.size ∧
    ∀ k, k < arr.size → ((cs.zipIdx n).foldl (fun (acc : Array Value) (p : Value × Nat) => acc.setIfInBounds (off + p.2) p.1) arr)[k]? = if off + n ≤ k ∧ k < off + n + cs.length then cs[k - (off + n)]? else arr[k]? := by
  induction cs with
  | nil => intro n arr; simp; intro k h1 h2 h3; omega
  | cons c cs ih =>
    intro n arr
    simp only [List.zipIdx_cons, List.foldl_cons]
    obtain ⟨h1, h2⟩ := ih (n + 1) (arr.setIfInBounds (off + n) c)
    refine ⟨by simpa using h1, fun k hk => ?_⟩
    rw [h2 k (by simpa using hk)]
    by_cases e : k = off + n
    · subst e
      rw [if_neg (by omega), if_pos (by simp)]
      simp [hk]
    · by_cases hr : off + (n + 1) ≤ k ∧ k < off + (n + 1) + cs.length
      · rw [if_pos hr, if_pos (by simp; omega)]
        obtain ⟨m, rfl⟩ : ∃ m, k = off + n + (m + 1) := ⟨k - (off + n) - 1, by omega⟩
        rw [show off + n + (m + 1) - (off + (n + 1)) = m by omega, show off + n + (m + 1) - (off + n) = m + 1 by omega]; simp
      · rw [if_neg hr, if_neg (by simp; omega), Array.getElem?_setIfInBounds, if_neg (Ne.symm e)]

theorem wrap_i64 {n : Int} (h0 : -9223372036854775808 ≤ n) (h1 : n ≤ 9223372036854775807) : IntKind.i64.wrap n = n := by
  have e : IntKind.i64.wrap n = (if (true && decide (n % 18446744073709551616 ≥ 9223372036854775808)) = true then n % 18446744073709551616 - 18446744073709551616 else n % 18446744073709551616) := rfl
  rw [e]; simp only [Bool.true_and, decide_eq_true_eq]
  split <;> omega

/-- the parts of a literal -/
inductive PartsRep (Φ : CM) (B : List Nat) : List (Nat × V) → List (Nat × Value) → Prop
  | nil : PartsRep Φ B [] []
  | cons {i v u ps us} : RepS Φ B v u → PartsRep Φ B ps us → PartsRep Φ B ((i, v) :: ps) ((i, u) :: us)

section
variable {P : Program} {κ : Ctx} {Φ : CM} {B : List Nat} {au : Auth} {s : St} {a : Act} {w : World} {K : St → Prop} {o : Oper}

/-- a part is laid into a row of cells -/
theorem fill_step {ds es : List D} {arr : Array Value} {u : Value} {d : D} {off : Nat} (hr : RepL Φ ds arr.toList) (hd : RepD Φ d u) (hl : off + d.flat.length ≤ ds.length) :
    RepL Φ (ds.take off ++ d.flat ++ ds.drop (off + d.flat.length)) (u.cells.zipIdx.foldl (fun (cs : Array Value) (c, j) => cs.setIfInBounds (off + j) c) arr).toList := by
  obtain ⟨h1, h2⟩ := hr.get
  obtain ⟨f1, f2⟩ := hd.flat.get
  have e : (u.cells.zipIdx.foldl (fun (cs : Array Value) (c, j) => cs.setIfInBounds (off + j) c) arr) = (u.cells.toList.zipIdx 0).foldl (fun (acc : Array Value) (p : Value × Nat) => acc.setIfInBounds (off + p.2) p.1) arr := by
    rw [← Array.foldl_toList, Array.toList_zipIdx]
  obtain ⟨g1, g2⟩ := fold_set u.cells.toList off 0 arr
  rw [e]
  refine RepL.of (by have := h1; simp [g1] at this ⊢; omega) fun k x c hx hc => ?_
  have hk : k < arr.size := by
    have := (List.getElem?_eq_some_iff.1 hc).1; simpa [g1] using this
  rw [Array.getElem?_toList, g2 k hk] at hc
  simp only [Nat.add_zero] at hc
  have hlen : u.cells.toList.length = d.flat.length := f1.symm
  by_cases ha : k < off
  · rw [List.append_assoc, List.getElem?_append_left (by simp; omega), List.getElem?_take, if_pos ha] at hx
    rw [if_neg (by omega)] at hc
    exact h2 k x c hx (by rw [Array.getElem?_toList]; exact hc)
  · by_cases hb : k < off + d.flat.length
    · rw [List.append_assoc, List.getElem?_append_right (by simp; omega), show (ds.take off).length = off by simp; omega, List.getElem?_append_left (by omega)] at hx
      rw [if_pos (by rw [hlen]; omega)] at hc
      exact f2 _ x c hx hc
    · rw [List.getElem?_append_right (by simp; omega), show (ds.take off ++ d.flat).length = off + d.flat.length by simp; omega, List.getElem?_drop, show off + d.flat.length + (k - (off + d.flat.length)) = k by omega] at hx
      rw [if_neg (by rw [hlen]; omega)] at hc
      exact h2 k x c hx (by rw [Array.getElem?_toList]; exact hc)

/-- cells, ideal and real, that own nothing -/
def CellsV (Φ : CM) (B : List Nat) (Vs : List V) (cs : List Value) : Prop := Vs.length = cs.length ∧ ∀ (j : Nat) V c, Vs[j]? = some V → cs[j]? = some c → okCell c ∧ V.known = true ∧ V.cp = V ∧ RepS Φ B V c

theorem flat_cells {V : V} {v : Value} (h : RepS Φ B V v) (hk : V.known = true) : CellsV Φ B V.cp.flat v.cells.toList := by
  have hc := h.cp
  have hcc := Idl.V.cp_cp V
  have hkk : V.cp.known = true := by rw [Idl.V.known_cp]; exact hk
  generalize V.cp = U at hc hcc hkk
  obtain ⟨f1, f2⟩ := flat_rep hc hkk
  refine ⟨by simpa using f1, fun j V' c hV hc' => ?_⟩
  obtain ⟨q1, q2, q3, _⟩ := f2 j V' c hV (by rw [← Array.getElem?_toList]; exact hc')
  refine ⟨q1, q2, ?_, q3⟩
  cases U with
  | d x =>
    have e : (Idl.V.d x).flat = x.flat.map .d := by cases x <;> rfl
    rw [e, List.getElem?_map, Option.map_eq_some_iff] at hV
    obtain ⟨_, _, rfl⟩ := hV; rfl
  | st vs =>
    cases hc with
    | st e ok q => exact (q V' (List.mem_of_getElem? hV)).1
  | _ =>
    cases j with
    | zero => simp [Idl.V.flat] at hV; subst hV; exact hcc
    | succ j => simp [Idl.V.flat] at hV

theorem fillV_step {ds es : List V} {arr : Array Value} {u : Value} {off : Nat} (hr : CellsV Φ B ds arr.toList) (hd : CellsV Φ B es u.cells.toList) (hl : off + es.length ≤ ds.length) :
    CellsV Φ B (ds.take off ++ es ++ ds.drop (off + es.length)) (u.cells.zipIdx.foldl (fun (cs : Array Value) (c, j) => cs.setIfInBounds (off + j) c) arr).toList := by
  obtain ⟨h1, h2⟩ := hr
  obtain ⟨f1, f2⟩ := hd
  have e : (u.cells.zipIdx.foldl (fun (cs : Array Value) (c, j) => cs.setIfInBounds (off + j) c) arr) = (u.cells.toList.zipIdx 0).foldl (fun (acc : Array Value) (p : Value × Nat) => acc.setIfInBounds (off + p.2) p.1) arr := by
    rw [← Array.foldl_toList, Array.toList_zipIdx]
  obtain ⟨g1, g2⟩ := fold_set u.cells.toList off 0 arr
  rw [e]
  refine ⟨by have := h1; simp [g1] at this ⊢; omega, fun k x c hx hc => ?_⟩
  have hk : k < arr.size := by
    have := (List.getElem?_eq_some_iff.1 hc).1; simpa [g1] using this
  rw [Array.getElem?_toList, g2 k hk] at hc
  simp only [Nat.add_zero] at hc
  have hlen : u.cells.toList.length = es.length := f1.symm
  by_cases ha : k < off
  · rw [List.append_assoc, List.getElem?_append_left (by simp; omega), List.getElem?_take, if_pos ha] at hx
    rw [if_neg (by omega)] at hc
    exact h2 k x c hx (by rw [Array.getElem?_toList]; exact hc)
  · by_cases hb : k < off + es.length
    · rw [List.append_assoc, List.getElem?_append_right (by simp; omega), show (ds.take off).length = off by simp; omega, List.getElem?_append_left (by omega)] at hx
      rw [if_pos (by rw [hlen]; omega)] at hc
      exact f2 _ x c hx hc
    · rw [List.getElem?_append_right (by simp; omega), show (ds.take off ++ es).length = off + es.length by simp; omega, List.getElem?_drop, show off + es.length + (k - (off + es.length)) = k by omega] at hx
      rw [if_neg (by rw [hlen]; omega)] at hc
      exact h2 k x c hx (by rw [Array.getElem?_toList]; exact hc)

theorem fill_rep {place : Nat → Option (Nat × Nat)} : ∀ {ps : List (Nat × V)} {us : List (Nat × Value)} {ds ds' : List V} {arr : Array Value}, fillD place ds ps = some ds' → CellsV Φ B ds arr.toList →
    PartsRep Φ B ps us → ∃ arr', Instr.fill place arr us = some arr' ∧ CellsV Φ B ds' arr'.toList
  | [], us, ds, ds', arr, h, hr, hf => by
    cases hf; simp [fillD] at h; subst h
    exact ⟨arr, rfl, hr⟩
  | (i, v) :: ps, us, ds, ds', arr, h, hr, hf => by
    cases hf with
    | cons hu hf =>
      rename_i u us
      simp only [fillD] at h
      split at h
      · rename_i off size e1
        split at h
        · rename_i hc
          obtain ⟨hkn, hc1, hc2⟩ := hc
          have hd := flat_cells hu hkn
          have hstep := fillV_step hr hd (by rw [hc1]; exact hc2)
          rw [hc1] at hstep
          obtain ⟨arr', k1, k2⟩ := fill_rep h hstep hf
          refine ⟨arr', ?_, k2⟩
          unfold Instr.fill
          simp only [e1]
          have hcs : u.cells.size = size := by
            have := hd.1; rw [hc1] at this; simpa using this.symm
          have hds : ds.length = arr.size := by simpa using hr.1
          rw [if_neg (by simp [hcs]; omega)]
          exact k1
        · cases h
      · cases h

theorem CellsV.known {Vs : List V} {cs : List Value} (h : CellsV Φ B Vs cs) : allKnown Vs = true := by
  have aux : ∀ l : List Idl.V, (∀ (j : Nat) V, l[j]? = some V → V.known = true) → allKnown l = true := by
    intro l
    induction l with
    | nil => intro _; rfl
    | cons x l ih => intro h; simp only [allKnown, Bool.and_eq_true]; exact ⟨h 0 x rfl, ih fun j V hV => h (j + 1) V (by simpa using hV)⟩
  refine aux _ fun j V hV => ?_
  have hj : j < cs.length := by rw [← h.1]; exact (List.getElem?_eq_some_iff.1 hV).1
  exact (h.2 j V _ hV (List.getElem?_eq_getElem hj)).2.1

theorem fillEl_rep {z : Nat} (hz0 : 0 < z) : ∀ {ps : List (Nat × V)} {us : List (Nat × Value)} {xs xs' : List D} {arr : Array Value}, fillEl z xs ps = some xs' → RepL Φ (xs.flatMap D.flat) arr.toList → (∀ x ∈ xs, x.flat.length = z) →
    PartsRep Φ B ps us → ∃ arr', Instr.fill (fun i => some (i * z, z)) arr us = some arr' ∧ RepL Φ (xs'.flatMap D.flat) arr'.toList ∧ (∀ x ∈ xs', x.flat.length = z)
  | [], us, xs, xs', arr, h, hr, hx, hf => by
    cases hf; simp [fillEl] at h; subst h
    exact ⟨arr, rfl, hr, hx⟩
  | (i, v) :: ps, us, xs, xs', arr, h, hr, hx, hf => by
    cases hf with
    | cons hu hf =>
      rename_i u us
      simp only [fillEl] at h
      split at h
      · rename_i d e2
        split at h
        · rename_i hc
          obtain ⟨hc1, hc2⟩ := hc
          have hd := rep_d? hu e2
          have hmul : i * z + z ≤ xs.length * z := by
            have : (i + 1) * z ≤ xs.length * z := Nat.mul_le_mul_right z hc2
            rw [Nat.add_mul] at this; omega
          have hlen := flat_length hx
          have hstep := fill_step (es := []) (off := i * z) hr hd (by rw [hc1, hlen]; exact hmul)
          rw [hc1] at hstep
          have hx' : ∀ x ∈ xs.set i d, x.flat.length = z := fun x hxm => by
            rcases List.mem_or_eq_of_mem_set hxm with e | e
            · exact hx x e
            · subst e; exact hc1
          have e3 : (xs.flatMap D.flat).take (i * z) ++ d.flat ++ (xs.flatMap D.flat).drop (i * z + z) = (xs.set i d).flatMap D.flat := by
            have hget := flat_get hx
            apply List.ext_getElem?
            intro k
            obtain ⟨q, r, hr', rfl⟩ : ∃ q r, r < z ∧ k = q * z + r := ⟨k / z, k % z, Nat.mod_lt _ hz0, by rw [Nat.mul_comm]; exact (Nat.div_add_mod k z).symm⟩
            rw [flat_get hx' q r hr', List.getElem?_set]
            clear hr hstep
            generalize xs.flatMap D.flat = F at hlen hget
            by_cases ha : q < i
            · have : (q + 1) * z ≤ i * z := Nat.mul_le_mul_right z ha
              rw [Nat.add_mul] at this
              rw [List.append_assoc, List.getElem?_append_left (by simp; omega), List.getElem?_take, if_pos (by omega), hget q r hr', if_neg (by omega)]
            · by_cases hb : q = i
              · subst hb
                rw [List.append_assoc, List.getElem?_append_right (by simp; omega), show (F.take (q * z)).length = q * z by simp; omega, List.getElem?_append_left (by rw [hc1]; omega), if_pos rfl, if_pos hc2]
                simp only [Option.bind_some]
                congr 1; omega
              · have : (i + 1) * z ≤ q * z := Nat.mul_le_mul_right z (by omega)
                rw [Nat.add_mul] at this
                rw [List.getElem?_append_right (by simp; omega), show (F.take (i * z) ++ d.flat).length = i * z + z by simp [hc1]; omega, List.getElem?_drop, show i * z + z + (q * z + r - (i * z + z)) = q * z + r by omega, hget q r hr', if_neg (Ne.symm hb)]
          rw [e3] at hstep
          obtain ⟨arr', k1, k2, k3⟩ := fillEl_rep hz0 h hstep hx' hf
          refine ⟨arr', ?_, k2, k3⟩
          unfold Instr.fill
          simp only
          have hcs : u.cells.size = z := by
            have := hd.flat.get.1; rw [hc1] at this; simpa using this.symm
          have hds : (xs.flatMap D.flat).length = arr.size := by simpa using hr.get.1
          rw [if_neg (by simp [hcs]; omega)]
          exact k1
        · cases h
      · cases h

theorem mapM_get {α β : Type} {f : α → Option β} : ∀ {l : List α} {m : List β}, l.mapM f = some m → l.length = m.length ∧ ∀ (j : Nat) y, m[j]? = some y → ∃ x, l[j]? = some x ∧ f x = some y
  | [], m, h => by simp at h; subst h; simp
  | x :: l, m, h => by
    rw [List.mapM_cons] at h
    cases e : f x with
    | none => simp [e] at h
    | some y =>
      cases e2 : l.mapM f with
      | none => simp [e, e2] at h
      | some m' =>
        simp [e, e2] at h; subst h
        obtain ⟨h1, h2⟩ := mapM_get e2
        refine ⟨by simp [h1], fun j y' hj => ?_⟩
        cases j with
        | zero => simp at hj; subst hj; exact ⟨x, rfl, e⟩
        | succ j => simpa using h2 j y' (by simpa using hj)

theorem zeroCs_rep {t : TypeId} {cs : List D} {i : TypeInfo} {zv : Value} (e : zeroCs P t = some cs) (hi : P.info? t = some i) (hz : i.zero = some zv) :
    ∀ (j : Nat) d, cs[j]? = some d → ∃ v, zv.cells[j]? = some v ∧ okCell v ∧ RepD Φ d v ∧ ∀ ds, d ≠ .agg ds := by
  unfold zeroCs at e
  simp only [hi, Option.bind_some, hz] at e
  intro j d hj
  obtain ⟨h1, h2⟩ := mapM_get e
  obtain ⟨⟨t', v⟩, h3, h4⟩ := h2 j d hj
  rw [List.getElem?_zip_eq_some] at h3
  refine ⟨v, by rw [← Array.getElem?_toList]; exact h3.2, (constD_rep (Φ := Φ) h4).2, (constD_rep h4).1, fun ds => ?_⟩
  rintro rfl
  simp only at h4
  unfold constD at h4
  split at h4 <;> simp at h4

theorem zero_rep {t : TypeId} {zd : D} {i : TypeInfo} {zv : Value} (e : (zeroCs P t).bind (ofCells P t) = some zd) (hi : P.info? t = some i) (hz : i.zero = some zv) (hl : zd.flat.length = zv.cells.size) : RepL Φ zd.flat zv.cells.toList := by
  cases e1 : zeroCs P t with
  | none => simp [e1] at e
  | some cs =>
    simp only [e1, Option.bind_some, ofCells] at e
    have hr := zeroCs_rep (Φ := Φ) e1 hi hz
    refine RepL.of (by simpa using hl) fun j d c hd hc => ?_
    have key : cs[j]? = some d := by
      split at e
      · injection e with e; subst e; exact hd
      · cases cs with
        | nil => simp at e
        | cons x cs =>
          simp at e; subst e
          obtain ⟨v, _, _, _, hna⟩ := hr 0 x rfl
          have : x.flat = [x] := by cases x <;> first | rfl | exact absurd rfl (hna _)
          rw [this] at hd
          cases j with
          | zero => simpa using hd
          | succ j => simp at hd
      · cases e
    obtain ⟨v, q1, q2, q3, _⟩ := hr j d key
    rw [Array.getElem?_toList, q1] at hc; injection hc with hc; subst hc
    exact ⟨q2, q3⟩

/-- so many zero values in a row -/
theorem zeros_rep {zd : D} {zc : Array Value} {n z : Nat} (hr : RepL Φ zd.flat zc.toList) (hz : zd.flat.length = z) (hz0 : 0 < z) :
    RepL Φ ((List.replicate n zd).flatMap D.flat) ((Array.range (n * z)).map (zc[· % zc.size]!)).toList := by
  obtain ⟨h1, h2⟩ := hr.get
  have hall : ∀ x ∈ List.replicate n zd, x.flat.length = z := fun x hx => by rw [(List.mem_replicate.1 hx).2]; exact hz
  have hzc : zc.size = z := by rw [← hz, h1]; simp
  refine RepL.of (by rw [flat_length hall]; simp) fun k d c hd hc => ?_
  obtain ⟨q, r, hr', rfl⟩ : ∃ q r, r < z ∧ k = q * z + r := ⟨k / z, k % z, Nat.mod_lt _ hz0, by rw [Nat.mul_comm]; exact (Nat.div_add_mod k z).symm⟩
  rw [flat_get hall q r hr', List.getElem?_replicate] at hd
  split at hd
  · simp only [Option.bind_some] at hd
    have hrz : r < zc.toList.length := by simp; omega
    simp at hc
    obtain ⟨m, hm, hc⟩ := hc
    have hm : q * z + r = m := by
      have := List.getElem?_eq_some_iff.1 hm; obtain ⟨_, h3⟩ := this; simpa using h3
    subst hm
    have e : (q * z + r) % zc.size = r := by rw [hzc, Nat.mul_comm, Nat.mul_add_mod, Nat.mod_eq_of_lt hr']
    rw [e] at hc
    have : zc.toList[r]? = some c := by
      rw [List.getElem?_eq_getElem hrz, ← hc]
      simp at hrz
      simp [hrz]
    exact h2 r d c hd this
  · simp at hd

theorem forall2_map {ps : List (Nat × Operand)} {t : Nat → TypeId} (h : Inv κ Φ B au s a w) : PartsRep Φ B (ps.map fun p => (p.1, ev P (t p.1) s p.2)) (ps.map fun p => (p.1, a.eval p.2)) := by
  induction ps with
  | nil => exact .nil
  | cons p ps ih => exact .cons (ev_rep h _ _) ih

theorem does_buildSlice {t : TypeId} {n : Nat} {ps : Array (Nat × Operand)} {r : List Oper} (h : Inv κ Φ B au s a w) (ho : o.op = .buildSlice t n ps) (hk : stepK P o r s K) : Does P κ o a w K := by
  simp only [stepK, ho] at hk
  split at hk
  · rename_i e z y e1 e2
    split at hk
    · rename_i zd ez
      split at hk
      · rename_i xs ex
        obtain ⟨hdst, hn, hzd, hz0, hk⟩ := hk
        obtain ⟨el, i, zv, hut, hi, hzv, hsz, hby, hzs⟩ := elI_inv e2
        have : e = el := by simp [elemTy, hut] at e1; exact e1.symm
        subst this
        have hz := zero_rep (Φ := Φ) ez hi hzv (by rw [hzd, hzs])
        have hzr := zeros_rep (n := n) hz hzd hz0
        obtain ⟨arr, k1, k2, k3⟩ := fillEl_rep (B := B) hz0 ex hzr (fun x hx => by rw [(List.mem_replicate.1 hx).2]; exact hzd) (forall2_map (P := P) (t := fun _ => e) (ps := ps.toList) h)
        have hxl : xs.length = n := by
          have aux : ∀ (ps : List (Nat × V)) (xs xs' : List D), fillEl z xs ps = some xs' → xs'.length = xs.length := by
            intro ps
            induction ps with
            | nil => intro xs xs' h; simp [fillEl] at h; rw [h]
            | cons p ps ih =>
              intro xs xs' h
              obtain ⟨i, v⟩ := p
              simp only [fillEl] at h
              split at h
              · split at h
                · rw [ih _ _ h]; simp
                · cases h
              · cases h
          rw [aux _ _ _ ex]; simp
        obtain ⟨d, hd⟩ := Option.isSome_iff_exists.1 hdst
        rw [hd] at hk
        obtain ⟨Φ', au', hfin⟩ := h.lay (el := e) (vs := arr.toList) (rest := []) (z := z) (xs := xs) k2 k3 d n (by omega) (by
          rw [← k2.get.1, flat_length k3, hxl]; simp)
        refine does_value (v := .slice (some ⟨w.heap.size, 0, none⟩) n n) ?_ hk ⟨Φ', B, au', by rw [hd]; simpa [hxl] using hfin⟩
        unfold execOp; rw [ho]; refine run_v ?_
        unfold Instr.buildSlice
        rw [Sem.run_bind, run_underlying hut]; simp only [Result.andThen_ok]
        rw [Sem.run_bind, run_sizeOf hi]; simp only [Result.andThen_ok, hsz]
        rw [if_neg (by omega)]
        have e9 : (ps.map fun (i, x) => (i, a.eval x)).toList = ps.toList.map fun p => (p.1, a.eval p.2) := by simp
        simp only [pure_bind]
        split
        · rename_i h0
          have hc0 : (Array.range (n * z)).map (fun x => (#[] : Array Value)[x % (#[] : Array Value).size]!) = (Array.range (n * z)).map (zv.cells[· % zv.cells.size]!) := by rw [h0]; simp
          rw [hc0, e9, k1]; rfl
        · rw [Sem.run_bind, run_zeroValue hi hzv]; simp only [Result.andThen_ok]
          rw [e9, k1]; rfl
      · exact hk.elim
    · exact hk.elim
  · exact hk.elim

/-- An array is laid. -/
theorem Inv.layArr (h : Inv κ Φ B au s a w) {el : TypeId} {c : Array Value} {z : Nat} {xs : List D} (hr : RepL Φ (xs.flatMap D.flat) c.toList) (hz : ∀ x ∈ xs, x.flat.length = z) :
    ∃ au', Inv κ Φ (B ++ [w.heap.size]) au' { s with hp := s.hp ++ [IObj.arr z xs] } a { w with heap := w.heap.push (.cells c el (0, 0)) } := by
  obtain ⟨au', g⟩ := h.alloc (cs := List.replicate c.size .un) (c := c) (el := el) (by simp) (fun j V v hV _ => by
    rw [List.getElem?_replicate] at hV
    split at hV
    · injection hV with hV; subst hV; exact ⟨fun h => by simp [Idl.V.known] at h, .un _, fun _ _ _ => trivial⟩
    · cases hV)
  refine ⟨au', ?_⟩
  have hb : (B ++ [w.heap.size])[s.hp.length]? = some w.heap.size := by rw [h.hl]; simp
  have hrep := g.hp s.hp.length (IObj.var (List.replicate c.size .un)) w.heap.size (by simp) hb
  obtain ⟨h1, _⟩ := hrep
  have e : ({ s with hp := s.hp ++ [IObj.arr z xs] } : St) = { s with hp := (s.hp ++ [IObj.var (List.replicate c.size .un)]).set s.hp.length (IObj.arr z xs) } := by simp
  rw [e]
  refine g.write (id := s.hp.length) (b := w.heap.size) hb h1 rfl (fun _ _ => rfl) rfl rfl rfl (fun r hr => ⟨r, hr⟩) ?_
  obtain ⟨q1, q2⟩ := hr.get
  refine fun _ => ⟨h1, c, el, by simp, by rw [← flat_length hz, q1]; simp, fun i x hx => ?_⟩
  have hxz := hz x (List.mem_of_getElem? hx)
  refine ⟨hxz, fun j d hd => ?_⟩
  have hj : j < z := by rw [← hxz]; exact (List.getElem?_eq_some_iff.1 hd).1
  have hg := flat_get hz i j hj
  rw [hx, Option.bind_some, hd] at hg
  have hlt : i * z + j < c.toList.length := by rw [← q1]; exact (List.getElem?_eq_some_iff.1 hg).1
  obtain ⟨a1, a2⟩ := q2 _ d _ hg (List.getElem?_eq_getElem hlt)
  exact ⟨c.toList[i * z + j], by rw [← Array.getElem?_toList]; exact List.getElem?_eq_getElem hlt, a1, a2⟩

theorem does_makeSlice {t : TypeId} {l c : Operand} {r : List Oper} (h : Inv κ Φ B au s a w) (ho : o.op = .makeSlice t l c) (hk : stepK P o r s K) : Does P κ o a w K := by
  simp only [stepK, ho] at hk
  split at hk
  · rename_i e z y k n k' m e1 e2 el ec
    split at hk
    · rename_i zd ez
      obtain ⟨hle, hn, hby, hnm, hzd, hz0, hk⟩ := hk
      obtain ⟨ty, i, zv, hut, hi, hzv, hsz, hyb, hzs⟩ := elI_inv e2
      have : e = ty := by simp [elemTy, hut] at e1; exact e1.symm
      subst this
      have hln := repD_int (ev_d h el)
      have hcn := repD_int (ev_d h ec)
      have hz := zero_rep (Φ := Φ) ez hi hzv (by rw [hzd, hzs])
      have hzr := zeros_rep (n := m.toNat) hz hzd hz0
      obtain ⟨au', hfin⟩ := h.layArr (el := e) (z := z) hzr (fun x hx => by rw [(List.mem_replicate.1 hx).2]; exact hzd)
      refine does_value (v := .slice (some ⟨w.heap.size, 0, none⟩) n.toNat m.toNat) ?_ hk ⟨Φ, _, au', hfin.put o.dst (.ref (b := w.heap.size) ?_ (by omega) fun _ => by rw [Nat.zero_mul]) fun _ _ => trivial⟩
      · unfold execOp; rw [ho]; refine run_v ?_
        have hw : IntKind.i64.wrap n = n := wrap_i64 (by omega) (by omega)
        have hw2 : IntKind.i64.wrap m = m := wrap_i64 (by omega) hnm
        subst hsz; subst hyb
        simp only [hln, hcn]
        unfold Instr.makeSlice
        rw [Sem.run_bind, run_underlying hut]; simp only [Result.andThen_ok, asInt, asIntOf, pure_bind]
        rw [Sem.run_bind, run_typeInfo hi]; simp only [Result.andThen_ok, hw, hw2]
        have c1 : decide (n < 0) = false := by simpa using hn
        have c0 : decide (m < 0) = false := by simp; omega
        have c2 : decide ((i.bytes : Int) * m > 2 ^ 48) = false := by simp; omega
        have c3 : decide (n > m) = false := by simp; omega
        simp only [c0, c1, c2, c3, Bool.or_self, Bool.false_eq_true, if_false]
        rw [Sem.run_bind, run_askRoom]; simp only [Result.andThen_ok]
        rw [Sem.run_bind, run_sizeOf hi]; simp only [Result.andThen_ok]
        split
        · rename_i h0
          have hc0 : (Array.range (m.toNat * i.size)).map (fun x => (#[] : Array Value)[x % (#[] : Array Value).size]!) = (Array.range (m.toNat * i.size)).map (zv.cells[· % zv.cells.size]!) := by rw [h0]; simp
          rw [hc0]; rfl
        · rw [Sem.run_bind, run_zeroValue hi hzv]; rfl
      · rw [h.hl]; simp
    · exact hk.elim
  · exact hk.elim

theorem run_places {fs : List Field} {pl : List (Nat × Nat)} (e : (fs.mapM fun f => (P.info? f.type).map fun i => (f.offset, i.size)) = some pl) :
    (fs.toArray.mapM fun f => (do pure (f.offset, ← sizeOf f.type) : Sem (Nat × Nat))).run P w = .ok pl.toArray w := by
  rw [List.mapM_toArray, Sem.run_map]
  have key : ∀ (fs : List Field) (pl : List (Nat × Nat)), (fs.mapM fun f => (P.info? f.type).map fun i => (f.offset, i.size)) = some pl → (fs.mapM fun f => (do pure (f.offset, ← sizeOf f.type) : Sem (Nat × Nat))).run P w = .ok pl w := by
    intro fs
    induction fs with
    | nil => intro pl e; simp at e; subst e; rfl
    | cons f fs ih =>
      intro pl e
      rw [List.mapM_cons] at e ⊢
      cases hi : P.info? f.type with
      | none => simp [hi] at e
      | some i =>
        cases e2 : (fs.mapM fun f => (P.info? f.type).map fun i => (f.offset, i.size)) with
        | none => simp [hi, e2] at e
        | some pl' =>
          simp [hi, e2] at e; subst e
          rw [Sem.run_bind, Sem.run_bind, run_sizeOf hi]; simp only [Result.andThen_ok, Sem.run_pure]
          rw [Sem.run_bind, ih pl' e2]; rfl
  rw [key fs pl e]; rfl

theorem does_build {t : TypeId} {ps : Array (Nat × Operand)} {r : List Oper} (h : Inv κ Φ B au s a w) (ho : o.op = .build t ps) (hk : stepK P o r s K) : Does P κ o a w K := by
  simp only [stepK, ho] at hk
  split at hk
  · rename_i pl z e1 e2
    split at hk
    · rename_i cs ecs
      obtain ⟨hl, hk⟩ := hk
      obtain ⟨fs, hut, e1⟩ : ∃ fs : Array Field, P.underlying t = some (.struct fs) ∧ (fs.toList.mapM fun f => (P.info? f.type).map fun i => (f.offset, i.size)) = some pl := by
        unfold placesD at e1
        split at e1
        · exact ⟨_, ‹_›, e1⟩
        · cases e1
      · obtain ⟨i, hi⟩ := info_of_underlying hut
        cases hz : i.zero with
        | none => simp [zeroCs, hi, hz] at e2
        | some zv =>
          have hzr := zeroCs_rep (Φ := Φ) e2 hi hz
          have hl' : z.length = zv.cells.size := by rw [hl, hi]; simp [hz]
          have hrl : CellsV Φ B (z.map V.d) zv.cells.toList := ⟨by simpa using hl', fun j V c hd hc => by
            simp only [List.getElem?_map, Option.map_eq_some_iff] at hd
            obtain ⟨d, hd, rfl⟩ := hd
            obtain ⟨v, q1, q2, q3, _⟩ := hzr j d hd
            rw [Array.getElem?_toList, q1] at hc; injection hc with hc; subst hc
            exact ⟨q2, rfl, rfl, .d q3⟩⟩
          have hp := forall2_map (P := P) (t := fun i => ((fieldOff P t i).map (·.2)).getD 0) (ps := ps.toList) h
          obtain ⟨arr, k1, k2⟩ := fill_rep (B := B) ecs hrl hp
          obtain ⟨r1, r2⟩ := mkAgg_rep (Φ := Φ) (B := B) (vs := arr.toList) k2.known k2.1 fun j V v hV hv => ⟨(k2.2 j V v hV hv).1, (k2.2 j V v hV hv).2.2.2⟩
          simp only [Array.toArray_toList] at r1
          refine does_plain h ?_ r1 (fun _ => r2 _ _ _ _) hk
          unfold execOp; rw [ho]; refine run_v ?_
          have e9 : (ps.map fun (i, x) => (i, a.eval x)).toList = ps.toList.map fun p => (p.1, a.eval p.2) := by simp
          unfold Instr.build
          rw [Sem.run_bind, run_zeroValue hi hz]; simp only [Result.andThen_ok, pure_bind]
          rw [Sem.run_bind, run_underlying hut]; simp only [Result.andThen_ok]
          have hpl := run_places (w := w) e1
          simp only [Array.toArray_toList] at hpl
          rw [Sem.run_bind, hpl]; simp only [Result.andThen_ok, e9]
          have e10 : (fun x : Nat => pl.toArray[x]?) = fun i : Nat => pl[i]? := by funext x; simp
          rw [e10, k1]; rfl
    · exact hk.elim
  · exact hk.elim

theorem does_index {t : TypeId} {x ix : Operand} {r : List Oper} (h : Inv κ Φ B au s a w) (ho : o.op = .index t x ix) (hk : stepK P o r s K) : Does P κ o a w K := by
  simp only [stepK, ho] at hk
  split at hk
  · rename_i bs k n e1 e2
    obtain ⟨hut, h0, h1, hk⟩ := hk
    have hs := repD_str (ev_d h e1)
    have hn := repD_int (ev_d h e2)
    refine does_plain h ?_ (.d (.int _ _)) (fun _ => trivial) hk
    unfold execOp; rw [ho]; refine run_v ?_
    simp only [hs, hn]
    unfold Instr.index
    simp only [asIntOf, pure_bind]
    rw [Sem.run_bind, run_underlying hut]; simp only [Result.andThen_ok]
    have hlt : n.toNat < bs.size := by omega
    rw [if_pos h0]
    have : bs[n.toNat]? = some bs[n.toNat]! := by
      rw [getElem?_pos bs n.toNat hlt, getElem!_pos bs n.toNat hlt]
    rw [this]; rfl
  · exact hk.elim

end
end Go.Idl
end
section
namespace Go.Idl

/-- The owners that a callee sees: no slots of the caller's. -/
def noSlots (au : Auth) : Auth := fun b => match au b with
  | some (.slot _ _, _) => none
  | x => x

theorem noSlots_some {au : Auth} {b st : Nat} {h : Holder} (e : noSlots au b = some (h, st)) : au b = some (h, st) ∧ ∀ i j, h ≠ .slot i j := by
  unfold noSlots at e
  split at e
  · cases e
  · rename_i hn
    refine ⟨e, ?_⟩
    rintro i j rfl
    exact hn _ _ _ e

theorem noSlots_of {au : Auth} {b st : Nat} {h : Holder} (e : au b = some (h, st)) (hn : ∀ i j, h ≠ .slot i j) : noSlots au b = some (h, st) := by
  unfold noSlots
  split
  · rename_i e'; rw [e] at e'; injection e' with e'; injection e' with e' _; exact absurd e' (hn _ _)
  · exact e

theorem noSlots_slot {au : Auth} {b st i j : Nat} (e : au b = some (.slot i j, st)) : noSlots au b = none := by
  unfold noSlots; rw [e]

theorem noSlots_none {au : Auth} {b : Nat} (e : au b = none) : noSlots au b = none := by
  unfold noSlots; rw [e]

/-- The owners behind a call. -/
def backAu (au au' : Auth) (dst : Option Nat) : Auth := fun b => match au b with
  | some (.slot i j, st) => some (.slot i j, st)
  | _ => match au' b with
    | some (.slot _ j, st) => match dst with
      | some d => some (.slot d j, st)
      | none => none
    | x => x

section
variable {P : Program} {κ : Ctx} {Φ : CM} {B : List Nat} {au : Auth} {s : St} {a : Act} {w : World} {K : St → Prop} {o : Oper}

/-- A callee's state at its begin. -/
theorem Inv.callee (h : Inv κ Φ B au s a w) {args : List V} {cargs : List Value} (hr : RepSL Φ B args cargs) (hc : ∀ v ∈ args, v.cp = v ∧ v.isTup = false) :
    Inv (Ctx.at_ Φ B (noSlots au) w) Φ B (noSlots au) ⟨args, s.hp, s.hp.length⟩ ⟨cargs.toArray, []⟩ w := by
  refine { phi := h.phi, phia := fun lb b o v h0 st hp ha => h.phia _ b o v h0 st hp (noSlots_some ha).1, auw := fun b h0 st ha => ⟨(h.auw b h0 st (noSlots_some ha).1).1, .inl (by simp only [Ctx.at_]; rw [ha]; simp)⟩, size := Nat.le_refl _, keep := fun _ _ _ => rfl, pre := List.prefix_refl _, lePhi := CM.le_refl _, tl := by simpa using hr.get.1, tm := fun i V v hV hv => ?_, hl := h.hl, nb := ⟨by rw [h.hl]; exact Nat.le_refl _, Nat.le_refl _⟩, hp := fun id o b ho hb => ?_, df := ⟨[], rfl, List.nodup_nil, by simp⟩, rd := fun l hl => (by cases hl), lp := fun l r e => ⟨r, e⟩, src := fun lb b o v e => .inl e, wo := ⟨rfl, rfl, rfl⟩ }
  · refine ⟨hr.get.2 i V v hV (by simpa using hv), ?_⟩
    obtain ⟨h1, h2⟩ := hc V (List.mem_of_getElem? hV)
    exact OwnV_of_cp h1 h2 _ _ _ _
  · exact (h.hp id o b ho hb).mono (CM.le_refl _) (fun _ _ h => h) (fun e => ⟨noSlots_of e (by simp), rfl⟩) (fun j b st e => ⟨noSlots_of e (by simp), rfl⟩)

/-- The caller's state behind a call. -/
theorem Inv.back (h : Inv κ Φ B au s a w) {Φ' : CM} {B' : List Nat} {au' : Auth} {r : V} {v : Value} {hp' : List IObj} {w' : World} {df : List Deferred}
    (g : Inv (Ctx.at_ Φ B (noSlots au) w) Φ' B' au' ⟨[r], hp', s.hp.length⟩ ⟨#[v], df⟩ w') (dst : Option Nat) :
    Inv κ Φ' B' (backAu au au' dst) ({ s with hp := hp' }.put dst r) (a.put dst v) w' := by
  -- what is a slot's of the caller's is not touched
  have hmine : ∀ b, (Ctx.at_ Φ B (noSlots au) w).mine b → ∃ h0 st, au b = some (h0, st) ∧ ∀ i j, h0 ≠ .slot i j := by
    intro b hb
    simp only [Ctx.at_] at hb
    cases e : noSlots au b with
    | none => exact absurd e hb
    | some x => obtain ⟨h0, st⟩ := x; exact ⟨h0, st, noSlots_some e⟩
  have hslot : ∀ b i j st, au b = some (.slot i j, st) → w'.heap[b]? = w.heap[b]? ∧ au' b = none := by
    intro b i j st e
    have hnm : ¬ (Ctx.at_ Φ B (noSlots au) w).mine b := by
      intro hm; obtain ⟨h0, st', e', hn⟩ := hmine b hm; rw [e] at e'; injection e' with e'; injection e' with e' _; exact hn _ _ e'.symm
    have hlt := (h.auw b _ _ e).1
    refine ⟨g.keep b hlt hnm, ?_⟩
    cases e2 : au' b with
    | none => rfl
    | some x =>
      obtain ⟨h0, st'⟩ := x
      rcases (g.auw b _ _ e2).2 with x | x
      · exact absurd x hnm
      · exact absurd hlt (Nat.not_lt.2 x)
  have hnone : ∀ b, b < w.heap.size → au b = none → w'.heap[b]? = w.heap[b]? ∧ au' b = none := by
    intro b hlt e
    have hnm : ¬ (Ctx.at_ Φ B (noSlots au) w).mine b := by
      intro hm; obtain ⟨h0, st', e', hn⟩ := hmine b hm; rw [e] at e'; cases e'
    refine ⟨g.keep b hlt hnm, ?_⟩
    cases e2 : au' b with
    | none => rfl
    | some x =>
      obtain ⟨h0, st'⟩ := x
      rcases (g.auw b _ _ e2).2 with x | x
      · exact absurd x hnm
      · exact absurd hlt (Nat.not_lt.2 x)
  have back_slot : ∀ b i j st, au b = some (.slot i j, st) → backAu au au' dst b = some (.slot i j, st) := fun b i j st e => by unfold backAu; rw [e]
  have back_keep : ∀ b h0 st, au' b = some (h0, st) → (∀ i j, h0 ≠ .slot i j) → backAu au au' dst b = some (h0, st) := by
    intro b h0 st e hn
    unfold backAu
    split
    · rename_i e'; have := (hslot _ _ _ _ e').2; rw [e] at this; cases this
    · rw [e]
      cases h0 with
      | slot i j => exact absurd rfl (hn i j)
      | _ => rfl
  have back_inv : ∀ b h0 st, backAu au au' dst b = some (h0, st) → (∃ i j, h0 = .slot i j ∧ au b = some (.slot i j, st)) ∨ ((∀ i j st, au b ≠ some (.slot i j, st)) ∧ ∃ h1, au' b = some (h1, st)) := by
    intro b h0 st e
    unfold backAu at e
    split at e
    · rename_i i j st' e'; injection e with e; injection e with e1 e2; subst e1; subst e2; exact .inl ⟨i, j, rfl, e'⟩
    · rename_i hn
      right
      refine ⟨fun i j st e' => hn i j st e', ?_⟩
      split at e
      · rename_i i j st' e'
        split at e
        · injection e with e; injection e with e1 e2; subst e2; exact ⟨_, e'⟩
        · cases e
      · exact ⟨_, e⟩
  have hBpre : B <+: B' := g.pre
  have hB : ∀ (i b : Nat), B[i]? = some b → B'[i]? = some b := fun i b e => by
    obtain ⟨t, rfl⟩ := hBpre
    rw [List.getElem?_append_left (List.getElem?_eq_some_iff.1 e).1]; exact e
  have hbase : Inv κ Φ' B' (backAu au au' dst) { s with hp := hp' } a w' := by
    refine { phi := g.phi, phia := fun lb b o v h0 st hp e => ?_, auw := fun b h0 st e => ?_, size := Nat.le_trans h.size g.size, keep := fun b hb hm => ?_, pre := h.pre.trans hBpre, lePhi := h.lePhi.trans g.lePhi, tl := h.tl, tm := fun i V v hV hv => ?_, hl := g.hl, nb := ⟨h.nb.1, by have h1 := h.nb.2; have h2 := g.nb.2; exact Nat.le_trans h1 h2⟩, hp := fun id o b ho hb => ?_, df := ?_, rd := fun l hl => ?_, lp := fun l r e => ?_, src := fun lb b o v e => ?_, wo := ⟨g.wo.1.trans h.wo.1, g.wo.2.1.trans h.wo.2.1, g.wo.2.2.trans h.wo.2.2⟩ }
    · rcases back_inv b h0 st e with ⟨i, j, rfl, e'⟩ | ⟨_, h1, e'⟩
      · rcases g.src _ b o v hp with x | x | x
        · exact h.phia _ b o v _ _ x e'
        · obtain ⟨h2, st2, e2, hn⟩ := hmine b x; rw [e'] at e2; injection e2 with e2; injection e2 with e2 _; exact absurd e2.symm (hn _ _)
        · exact absurd (h.auw b _ _ e').1 (Nat.not_lt.2 x)
      · exact g.phia _ b o v _ _ hp e'
    · rcases back_inv b h0 st e with ⟨i, j, rfl, e'⟩ | ⟨_, h1, e'⟩
      · exact ⟨Nat.lt_of_lt_of_le (h.auw b _ _ e').1 g.size, (h.auw b _ _ e').2⟩
      · refine ⟨(g.auw b _ _ e').1, ?_⟩
        rcases (g.auw b _ _ e').2 with x | x
        · obtain ⟨h2, st2, e2, hn⟩ := hmine b x; exact (h.auw b _ _ e2).2
        · exact .inr (Nat.le_trans h.size x)
    · have hlt : b < w.heap.size := Nat.lt_of_lt_of_le hb h.size
      rw [← h.keep b hb hm]
      refine g.keep b hlt fun x => ?_
      obtain ⟨h2, st2, e2, hn⟩ := hmine b x
      rcases (h.auw b _ _ e2).2 with y | y
      · exact hm y
      · omega
    · obtain ⟨k1, k2⟩ := h.tm i V v hV hv
      exact ⟨k1.mono g.lePhi hB, k2.mono fun j b st e => ⟨back_slot b i j st e, (hslot b i j st e).1⟩⟩
    · exact (g.hp id o b ho hb).mono (CM.le_refl _) (fun _ _ h => h) (fun e => ⟨back_keep b _ _ e (by simp), rfl⟩) (fun j b st e => ⟨back_keep b _ _ e (by simp), rfl⟩)
    · obtain ⟨rs, h1, h2, h3⟩ := h.df
      refine ⟨rs, h1, h2, fun r hr => ?_⟩
      obtain ⟨x, y, z⟩ := h3 r hr
      obtain ⟨p, q⟩ := hnone r (lt_of_heap x) y
      refine ⟨p.trans x, ?_, z⟩
      unfold backAu; rw [y, q]
    · obtain ⟨r, hr⟩ := h.rd l hl
      exact g.lp l r hr
    · obtain ⟨r', hr'⟩ := h.lp l r e
      exact g.lp l r' hr'
    · rcases g.src _ b o v e with x | x | x
      · exact h.src _ b o v x
      · obtain ⟨h2, st2, e2, hn⟩ := hmine b x; exact .inr (h.auw b _ _ e2).2
      · exact .inr (.inr (Nat.le_trans h.size x))
  have hr := g.tm 0 r v rfl rfl
  refine hbase.put dst hr.1 fun d hd => hr.2.mono fun j b st e => ⟨?_, rfl⟩
  unfold backAu
  split
  · rename_i e'; have := (hslot _ _ _ _ e').2; rw [e] at this; cases this
  · rw [e, hd]

theorem bare_of {v : V} (h : v.bare = true) : v.cp = v ∧ v.isTup = false := by
  cases v <;> simp_all [Idl.V.bare, Idl.V.cp, Idl.V.isTup]

theorem argVs_rep (h : Inv κ Φ B au s a w) (c : Call) (hl : c.args.size ≤ (c.argTypes.toList ++ List.replicate c.args.size 0).length) : RepSL Φ B (argVs P s c) (c.args.map a.eval).toList ∧ ∀ v ∈ argVs P s c, v.cp = v := by
  constructor
  · refine RepSL.of (by simp [argVs]) fun j d v hd hv => ?_
    simp only [argVs, List.getElem?_map, Option.map_eq_some_iff] at hd
    obtain ⟨⟨x, t⟩, hx, rfl⟩ := hd
    rw [List.getElem?_zip_eq_some] at hx
    simp only [Array.toList_map, List.getElem?_map, Option.map_eq_some_iff] at hv
    obtain ⟨y, hy, rfl⟩ := hv
    have : x = y := by have := hx.1; simp only at this; rw [hy] at this; injection this with this; exact this.symm
    subst this
    exact (ev_rep h t x).cp
  · intro v hv
    simp only [argVs, List.mem_map] at hv
    obtain ⟨⟨x, t⟩, _, rfl⟩ := hv
    exact Idl.V.cp_cp _

theorem run_callFunc {f : FuncId} {args : Array Value} (hb : hasBody P f = true) : (callFunc f args).run P w = .ok (.enter f args) w := by
  unfold hasBody at hb
  cases hf : P.funcs[f]? with
  | none => simp [hf] at hb
  | some fn =>
    simp only [hf, Bool.and_eq_true, bne_iff_ne, ne_eq] at hb
    obtain ⟨h1, h2⟩ := hb
    unfold callFunc
    rw [Sem.run_bind, run_program]; simp only [Result.andThen_ok, hf]
    rw [if_neg (by simpa using h2), if_neg (by cases hbd : fn.body <;> simp [hbd] at h1 ⊢)]
    rfl

def noCells : Obj → Bool
  | .cells .. => false
  | _ => true

theorem run_getObj {b : Nat} {ob : Obj} (e : w.heap[b]? = some ob) (hn : noCells ob = true) : (getObj b).run P w = .ok ob w := by
  cases ob <;> simp [noCells] at hn <;> simp [getObj, Sem.run, e]

theorem run_setObj {b : Nat} {ob ob' : Obj} (e : w.heap[b]? = some ob') (hn : noCells ob' = true) : (setObj b ob).run P w = .ok () { w with heap := w.heap.setIfInBounds b ob } := by
  cases ob' <;> simp [noCells] at hn <;> simp [setObj, Sem.run, pure, e]

theorem size_two {α : Type} {l : Array α} (h : l.size = 2) : ∃ x y, l = #[x, y] := by
  rcases l with ⟨_ | ⟨x, _ | ⟨y, _ | ⟨z, l⟩⟩⟩⟩ <;> simp at h
  exact ⟨x, y, rfl⟩

theorem resolve_fn {c : Call} {g : Operand} {fn : Fn} {caps : Array Value} {t : TypeId} (hc : c.callee = .value g) (hv : a.eval g = .func fn #[] caps) :
    (resolve a.eval c t).run P w = .ok { target := .fn fn caps, args := c.args.map a.eval } w := by
  unfold resolve
  simp only [hc, hv, Deferred.ofValue]
  have : (#[] : Array Value) ++ c.args.map a.eval = c.args.map a.eval := by simp
  rw [this]; rfl

theorem does_call0 {c : Call} (h : Inv κ Φ B au s a w) (ho : o.op = .call c) (hk : callK0 P c s o.dst K) : Does P κ o a w K := by
  have hargs := argVs_rep (P := P) h c (by simp)
  unfold callK0 at hk
  split at hk
  · rename_i g eg
    have hg := ev_rep (P := P) h 0 g
    split at hk
    · rename_i f caps ef
      obtain ⟨hbare, hk⟩ := hk
      rw [ef] at hg
      generalize hv : a.eval g = v at hg
      cases hg with
      | fn hcaps =>
        rename_i cc
        have hall : ∀ v ∈ argVs P s c ++ caps, v.cp = v ∧ v.isTup = false := fun v hv => bare_of (List.all_eq_true.1 hbare v hv)
        have hrep : RepSL Φ B (argVs P s c ++ caps) ((c.args.map a.eval).toList ++ cc) := by
          obtain ⟨a1, a2⟩ := hargs.1.get
          obtain ⟨b1, b2⟩ := hcaps.get
          refine RepSL.of (by simp [a1, b1]) fun j d v hd hv => ?_
          by_cases hj : j < (argVs P s c).length
          · rw [List.getElem?_append_left hj] at hd
            rw [List.getElem?_append_left (by rw [← a1]; exact hj)] at hv
            exact a2 j d v hd hv
          · rw [List.getElem?_append_right (by omega)] at hd
            rw [List.getElem?_append_right (by rw [← a1]; omega), ← a1] at hv
            exact b2 _ d v hd hv
        cases hb : hasBody P f with
        | false =>
          rw [hb] at hk
          obtain ⟨v, r, hp', w', h1, h2, Φ', B', au', g⟩ := hk Φ B (noSlots au) w _ (h.callee hrep hall)
          refine ⟨.value v, w', ?_, _, h2, Φ', B', _, h.back g o.dst⟩
          unfold execOp; rw [ho]; simp only
          rw [Sem.run_bind, resolve_fn eg hv]; simp only [Result.andThen_ok, invoke]
          rw [← h1]
          congr 2
          apply Array.ext'; simp
        | true =>
        rw [hb] at hk
        have hcall := hk Φ B (noSlots au) w _ (h.callee hrep hall)
        refine ⟨.enter f ((c.args.map a.eval).toList ++ cc).toArray, w, ?_, ?_⟩
        · unfold execOp; rw [ho]; simp only
          rw [Sem.run_bind, resolve_fn eg hv]; simp only [Result.andThen_ok, invoke]
          rw [run_callFunc hb]
          congr 2
          apply Array.ext'; simp
        · refine hcall.mono fun e w' => ?_
          rintro ⟨v, r, hp', rfl, hK, Φ', B', au', g⟩
          exact ⟨v, _, rfl, hK, Φ', B', _, h.back g o.dst⟩
    · rename_i id ef
      obtain ⟨hbare, hk⟩ := hk
      rw [ef] at hg
      generalize hv : a.eval g = v at hg
      cases hg with
      | yld hb =>
        rename_i b
        have hall : ∀ v ∈ argVs P s c, v.cp = v ∧ v.isTup = false := fun v hv => bare_of (List.all_eq_true.1 hbare v hv)
        have hh := h.callee hargs.1 hall
        obtain ⟨fn, tmps, asg, body, h1, h2⟩ := hk Φ B (noSlots au) w _ b hh hb
        refine ⟨.round b fn tmps asg body, w, ?_, ?_⟩
        · unfold execOp; rw [ho]; simp only
          rw [Sem.run_bind, resolve_fn eg hv]; simp only [Result.andThen_ok, invoke]
          rw [Array.toArray_toList] at h1; exact h1
        · refine RoundIn.mono h2 fun e w' => ?_
          rintro ⟨v, r, hp', rfl, hK, Φ', B', au', g⟩
          exact ⟨v, _, rfl, hK, Φ', B', _, h.back g o.dst⟩
    · exact hk.elim
  · rename_i eg
    have hx : ∀ {v : Value}, (Builtin.len_ c.argTypes o.type (c.args.map a.eval)).run P w = .ok v w → (execOp a.eval o).run P w = .ok (.value v) w := by
      intro v e
      unfold execOp; rw [ho]; simp only
      unfold resolve; simp only [eg, pure_bind]
      simp only [invoke, builtin]
      exact run_v e
    obtain ⟨a1, a2⟩ := hargs.1.get
    have harg0 : ∀ d, argVs P s c = [d] → ∃ v, (c.args.map a.eval)[0]? = some v ∧ RepS Φ B d v := by
      intro d e
      rw [e] at a1 a2
      have hl : 0 < (c.args.map a.eval).toList.length := by rw [← a1]; simp
      refine ⟨(c.args.map a.eval).toList[0], by rw [← Array.getElem?_toList]; exact List.getElem?_eq_getElem hl, a2 0 d _ rfl (List.getElem?_eq_getElem hl)⟩
    have hty : ∀ td, P.underlying (c.argTypes.getD 0 0) = some td → (∃ v, (c.args.map a.eval)[0]? = some v) → c.argTypes[0]?.isSome = true → c.argTypes[0]? = some (c.argTypes.getD 0 0) := by
      intro td _ _ hs
      obtain ⟨t, ht⟩ := Option.isSome_iff_exists.1 hs
      simp [Array.getD, ht, (Array.getElem?_eq_some_iff.1 ht).1, (Array.getElem?_eq_some_iff.1 ht).2]
    split at hk
    · rename_i l z xs e
      obtain ⟨hts, hel, hk⟩ := hk
      obtain ⟨v, q1, q2⟩ := harg0 _ e
      obtain ⟨et, hut⟩ : ∃ et, P.underlying (c.argTypes.getD 0 0) = some (.slice et) := by
        unfold elemTy at hel
        split at hel
        · exact ⟨_, ‹_›⟩
        · cases hel
      have q3 := hty _ hut ⟨v, q1⟩ hts
      cases q2 with
      | d q2 =>
        obtain ⟨ad, cap, rfl, _, _⟩ := q2.sl_inv
        refine does_plain h (hx ?_) (.d (.int _ _)) (fun _ => trivial) hk
        unfold Builtin.len_
        simp only [q1, q3]
        rw [Sem.run_bind, run_underlying hut]; rfl
    · rename_i z e
      obtain ⟨hts, hel, hk⟩ := hk
      obtain ⟨v, q1, q2⟩ := harg0 _ e
      obtain ⟨et, hut⟩ : ∃ et, P.underlying (c.argTypes.getD 0 0) = some (.slice et) := by
        unfold elemTy at hel
        split at hel
        · exact ⟨_, ‹_›⟩
        · cases hel
      have q3 := hty _ hut ⟨v, q1⟩ hts
      cases q2 with
      | nil =>
        refine does_plain h (hx ?_) (.d (.int _ _)) (fun _ => trivial) hk
        unfold Builtin.len_
        simp only [q1, q3]
        rw [Sem.run_bind, run_underlying hut]; rfl
    · rename_i bs e
      obtain ⟨hts, hut, hk⟩ := hk
      obtain ⟨v, q1, q2⟩ := harg0 _ e
      have q3 := hty _ hut ⟨v, q1⟩ hts
      cases q2 with
      | d q2 =>
        have := repD_str q2; subst this
        refine does_plain h (hx ?_) (.d (.int _ _)) (fun _ => trivial) hk
        unfold Builtin.len_
        simp only [q1, q3]
        rw [Sem.run_bind, run_underlying hut]; rfl
    · rename_i id z off n cap e
      obtain ⟨hts, hel, hk⟩ := hk
      obtain ⟨v, q1, q2⟩ := harg0 _ e
      obtain ⟨et, hut⟩ : ∃ et, P.underlying (c.argTypes.getD 0 0) = some (.slice et) := by
        unfold elemTy at hel
        split at hel
        · exact ⟨_, ‹_›⟩
        · cases hel
      have q3 := hty _ hut ⟨v, q1⟩ hts
      cases q2 with
      | ref _ _ _ =>
        refine does_plain h (hx ?_) (.d (.int _ _)) (fun _ => trivial) hk
        unfold Builtin.len_
        simp only [q1, q3]
        rw [Sem.run_bind, run_underlying hut]; rfl
      | ref0 =>
        refine does_plain h (hx ?_) (.d (.int _ _)) (fun _ => trivial) hk
        unfold Builtin.len_
        simp only [q1, q3]
        rw [Sem.run_bind, run_underlying hut]; rfl
    · rename_i id e
      split at hk
      · rename_i cl es ehp
        obtain ⟨hts, hel, hk⟩ := hk
        obtain ⟨v, q1, q2⟩ := harg0 _ e
        obtain ⟨kt, et, hut⟩ : ∃ kt et, P.underlying (c.argTypes.getD 0 0) = some (.map kt et) := by
          unfold mapTy at hel
          split at hel
          · exact ⟨_, _, ‹_›⟩
          · cases hel
        have q3 := hty _ hut ⟨v, q1⟩ hts
        cases q2 with
        | map hb =>
          obtain ⟨m1, ms, m2, m3, _⟩ := h.hp id _ _ ehp hb
          refine does_plain h (hx (v := .int .i64 es.length) ?_) (.d (.int _ _)) (fun _ => trivial) hk
          unfold Builtin.len_
          simp only [q1, q3]
          rw [Sem.run_bind, run_underlying hut]; simp only [Result.andThen_ok]
          rw [Sem.run_bind, run_getObj m2 rfl]; simp only [Result.andThen_ok, m3]; rfl
      · exact hk.elim
    · exact hk.elim
  · rename_i eg
    split at hk
    · rename_i x y exy
      split at hk
      · rename_i z xs ly z' ys e1 e2
        split at hk
        · rename_i sz by_ eel
          obtain ⟨hdst, htys, rfl, rfl, hz0, hxt, hy0, hb, hk⟩ := hk
          obtain ⟨d, hd⟩ := Option.isSome_iff_exists.1 hdst
          obtain ⟨t0, t1, ety⟩ := size_two htys
          have eargs : c.args = #[x, y] := by
            have := congrArg List.toArray exy; simpa using this
          rw [ety] at e1 e2 eel hxt
          have ed0 : (#[t0, t1] : Array TypeId).getD 0 0 = t0 := rfl
          have ed1 : (#[t0, t1] : Array TypeId).getD 1 0 = t1 := rfl
          rw [ed0] at e1 eel
          rw [ed1] at e2 hxt
          have hrx := ev_rep (P := P) h t0 x
          rw [ety, ed0] at hk
          have hvx : RepD Φ (.sl false z' xs) (a.eval x) := by
            generalize ev P t0 s x = X at hrx e1
            generalize a.eval x = u at hrx
            unfold appBase at e1
            split at e1
            · injection e1 with e1; injection e1 with e1 e3; subst e1; subst e3; cases hrx with | own q => exact q
            · injection e1 with e1; injection e1 with e1 e3; subst e1; subst e3; cases hrx with | nil => exact .sl0
            · cases e1
          have hvy : RepD Φ (.sl ly z' ys) (a.eval y) := rep_d? (ev_rep (P := P) h t1 y).cp e2
          have htl : ∀ (X : V) (u : Value) (hd : Nat → Holder), appBase X = some (z', xs) → RepS Φ B X u → OwnV au w hd X u → TailOK au w (hd 0) z' u := by
            intro X u hd e hr ho
            unfold appBase at e
            split at e
            · injection e with e; injection e with e e3; subst e; exact ho
            · injection e with e; injection e with e e3; subst e
              cases hr with | nil => exact ⟨_, _, _, rfl, .inl rfl⟩
            · cases e
          have hcpx : ∀ X : V, appBase X = some (z', xs) → X.cp.cp = X.cp ∧ X.cp.isTup = false := by
            intro X e
            unfold appBase at e
            split at e
            · exact ⟨rfl, rfl⟩
            · exact ⟨rfl, rfl⟩
            · cases e
          -- the first slice's place, stripped
          obtain ⟨i0, hinv, htail, hst⟩ : ∃ i0, Inv κ Φ B au { s with tm := s.at_ x (ev P t0 s x).cp } a w ∧ TailOK au w (.slot i0 0) z' (a.eval x) ∧ ∀ V, (s.at_ x (ev P t0 s x).cp)[i0]? = some V → V.cp = V ∧ V.isTup = false := by
            cases x with
            | tmp i =>
              refine ⟨i, h.strip i, htl _ _ (fun j => .slot i j) e1 hrx (tm_get h i).2, ?_⟩
              intro V hV
              have hV' : (s.tm.set i (ev P t0 s (.tmp i)).cp)[i]? = some V := hV
              rw [List.getElem?_set, if_pos rfl] at hV'
              split at hV'
              · injection hV' with hV'; subst hV'; exact hcpx _ e1
              · cases hV'
            | const v =>
              refine ⟨s.tm.length, h, htl _ _ (fun j => .slot s.tm.length j) e1 hrx (constV_rep (P := P) (t := t0) (v := v) (Φ := Φ) (B := B)).2.1, fun V hV => ?_⟩
              · have hV' : s.tm[s.tm.length]? = some V := hV
                simp at hV'
            | «global» g => cases e1
            | func f => cases e1
          obtain ⟨rv, w', g1, Φ', au', g2⟩ := run_append (P := P) hinv (st := t0) (xt := t1) (rt := o.type) eel hxt hz0 hy0 hb hvx hvy htail hst d
          refine does_value (v := rv) (w' := w') ?_ hk ⟨Φ', B, au', by rw [hd]; exact g2⟩
          unfold execOp; rw [ho]; simp only
          unfold resolve; simp only [eg, pure_bind]
          simp only [invoke, builtin]
          refine run_v ?_
          rw [ety, eargs]
          simpa using g1
        · exact hk.elim
      · exact hk.elim
    · exact hk.elim
  · rename_i eg
    split at hk
    · rename_i k p k' q e
      obtain ⟨a1, a2⟩ := hargs.1.get
      rw [e] at a1 a2
      have hl : (c.args.map a.eval).toList.length = 2 := by rw [← a1]; rfl
      have h0 := a2 0 _ _ rfl (List.getElem?_eq_getElem (by rw [hl]; decide))
      have h1 := a2 1 _ _ rfl (List.getElem?_eq_getElem (by rw [hl]; decide))
      refine does_plain h ?_ (.d (.int _ _)) (fun _ => trivial) hk
      unfold execOp; rw [ho]; simp only
      unfold resolve; simp only [eg, pure_bind]
      simp only [invoke, builtin]
      refine run_v ?_
      unfold Builtin.min_
      generalize (c.args.map a.eval).toList = l at *
      rcases l with _ | ⟨u, _ | ⟨v, _ | ⟨_, _⟩⟩⟩ <;> simp at hl
      simp at h0 h1
      cases h0 with | d h0 => cases h1 with | d h1 => rw [repD_int h0, repD_int h1]; rfl
    · exact hk.elim
  · rename_i eg
    split at hk
    · rename_i k p k' q e
      obtain ⟨a1, a2⟩ := hargs.1.get
      rw [e] at a1 a2
      have hl : (c.args.map a.eval).toList.length = 2 := by rw [← a1]; rfl
      have h0 := a2 0 _ _ rfl (List.getElem?_eq_getElem (by rw [hl]; decide))
      have h1 := a2 1 _ _ rfl (List.getElem?_eq_getElem (by rw [hl]; decide))
      refine does_plain h ?_ (.d (.int _ _)) (fun _ => trivial) hk
      unfold execOp; rw [ho]; simp only
      unfold resolve; simp only [eg, pure_bind]
      simp only [invoke, builtin]
      refine run_v ?_
      unfold Builtin.max_
      generalize (c.args.map a.eval).toList = l at *
      rcases l with _ | ⟨u, _ | ⟨v, _ | ⟨_, _⟩⟩⟩ <;> simp at hl
      simp at h0 h1
      cases h0 with | d h0 => cases h1 with | d h1 => rw [repD_int h0, repD_int h1]; rfl
    · exact hk.elim
  · exact hk.elim

end
end Go.Idl
end
