/- The conditions step by step, for simp: each law fires where the state lies open. -/
import Derived.Test.YtkfpaffcglijeaaQueueApartPart09
import Derived.Test.YtkfpaffcglijeaaQueueApartPart10
set_option linter.all false
namespace Go.Idl

section
variable {P : Program} {all r : List Oper} {tm : List V} {hp : List IObj} {nb : Nat} {K : St → Prop} {d : Option Nat} {t : TypeId} {p : String} {af : Array Edge}

/-- a fork: what is asked where a test holds as wanted, and where not -/
def gd (b want : Bool) (A B : Prop) : Prop := (b = want → A) ∧ (b = !want → B)
theorem gd_tt {A B : Prop} : gd true true A B = A := by simp [gd]
theorem gd_ff {A B : Prop} : gd false false A B = A := by simp [gd]
theorem gd_tf {A B : Prop} : gd true false A B = B := by simp [gd]
theorem gd_ft {A B : Prop} : gd false true A B = B := by simp [gd]
theorem gd_t {b : Bool} {A B : Prop} : gd b true A B = ((b = true → A) ∧ (b = false → B)) := rfl
theorem gd_f {b : Bool} {A B : Prop} : gd b false A B = ((b = false → A) ∧ (b = true → B)) := rfl

variable {g : Option (Nat × Bool)}
theorem x_move {x : Operand} : stepK P ⟨d, .move x, t, p, af, g⟩ r ⟨tm, hp, nb⟩ K = K (mv ⟨tm, hp, nb⟩ x (ev P t ⟨tm, hp, nb⟩ x) d (takes d r || (ev P t ⟨tm, hp, nb⟩ x).isTup)) := rfl
theorem x_assign {x : Operand} : stepK P ⟨d, .assign x, t, p, af, g⟩ r ⟨tm, hp, nb⟩ K = K (mv ⟨tm, hp, nb⟩ x (ev P t ⟨tm, hp, nb⟩ x) d true) := rfl
theorem x_pick {c x y : Operand} : stepK P ⟨d, .pick c x y, t, p, af, g⟩ r ⟨tm, hp, nb⟩ K = (match ev P 0 ⟨tm, hp, nb⟩ c with
    | .d (.bool b) => gd b true (K (St.put ⟨tm, hp, nb⟩ d (ev P t ⟨tm, hp, nb⟩ x).cp)) (K (St.put ⟨tm, hp, nb⟩ d (ev P t ⟨tm, hp, nb⟩ y).cp))
    | _ => False) := rfl
theorem x_alloc {u : TypeId} : stepK P ⟨d, .alloc u, t, p, af, g⟩ r ⟨tm, hp, nb⟩ K = (match zeroVs P u with
    | some cs => K (St.put ⟨tm, hp ++ [IObj.var cs], nb⟩ d (.ptr hp.length 0))
    | none => False) := rfl
theorem x_box {u : TypeId} {x : Operand} : stepK P ⟨d, .box u x, t, p, af, g⟩ r ⟨tm, hp, nb⟩ K = ((ev P u ⟨tm, hp, nb⟩ x).known = true ∧ K (St.put ⟨tm, hp ++ [IObj.var (ev P u ⟨tm, hp, nb⟩ x).cp.flat], nb⟩ d (.ptr hp.length 0))) := rfl
theorem x_build {u : TypeId} {ps : Array (Nat × Operand)} : stepK P ⟨d, .build u ps, t, p, af, g⟩ r ⟨tm, hp, nb⟩ K = (match placesD P u, zeroCs P u with
    | some pl, some z => match fillD (fun i => pl[i]?) (z.map V.d) (ps.toList.map fun q => (q.1, ev P (((fieldOff P u q.1).map (·.2)).getD 0) ⟨tm, hp, nb⟩ q.2)) with
      | some cs => z.length = ((P.info? u).bind (·.zero)).elim 0 (·.cells.size) ∧ K (St.put ⟨tm, hp, nb⟩ d (mkAgg cs))
      | none => False
    | _, _ => False) := rfl
theorem x_buildSlice {u : TypeId} {n : Nat} {ps : Array (Nat × Operand)} : stepK P ⟨d, .buildSlice u n ps, t, p, af, g⟩ r ⟨tm, hp, nb⟩ K = (match elemTy P u, elI P u with
    | some e, some (z, _) => match (zeroCs P e).bind (ofCells P e) with
      | some zd => match fillEl z (List.replicate n zd) (ps.toList.map fun q => (q.1, ev P e ⟨tm, hp, nb⟩ q.2)) with
        | some xs => d.isSome = true ∧ n * z ≤ 16777216 ∧ zd.flat.length = z ∧ 0 < z ∧ K (St.put ⟨tm, hp, nb⟩ d (.own z xs))
        | none => False
      | none => False
    | _, _ => False) := rfl
theorem x_load {u : TypeId} {x : Operand} : stepK P ⟨d, .load u x, t, p, af, g⟩ r ⟨tm, hp, nb⟩ K = loadK P u (ev P 0 ⟨tm, hp, nb⟩ x) ⟨tm, hp, nb⟩ d (takes d r) K := rfl
theorem x_store {u : TypeId} {x y : Operand} : stepK P ⟨d, .store u x y, t, p, af, g⟩ r ⟨tm, hp, nb⟩ K = storeK P u (ev P 0 ⟨tm, hp, nb⟩ x) y (ev P u ⟨tm, hp, nb⟩ y) ⟨tm, hp, nb⟩ d K := rfl
theorem x_bin {op : BinOp} {u u' : TypeId} {x y : Operand} : stepK P ⟨d, .binOp op u x y u', t, p, af, g⟩ r ⟨tm, hp, nb⟩ K = bif isNilC y then nilK P op u (ev P u ⟨tm, hp, nb⟩ x) fun v => K (St.put ⟨tm, hp, nb⟩ d v) else binK P op u (ev P u ⟨tm, hp, nb⟩ x) (ev P u ⟨tm, hp, nb⟩ y) fun v => K (St.put ⟨tm, hp, nb⟩ d v) := rfl
theorem nc_tmp {i : Nat} : isNilC (.tmp i) = false := rfl
theorem nc_int {k : IntKind} {n : Int} : isNilC (.const (.int k n)) = false := rfl
theorem nc_bool {b : Bool} : isNilC (.const (.bool b)) = false := rfl
theorem nc_str {b : ByteArray} : isNilC (.const (.string b)) = false := rfl
theorem nc_ptr {a : Option Addr} : isNilC (.const (.pointer a)) = false := rfl
theorem nc_nil : isNilC (.const (.slice none 0 0)) = true := rfl
theorem nc_fn {f : FuncId} : isNilC (.func f) = false := rfl
theorem x_un {op : UnOp} {u : TypeId} {x : Operand} : stepK P ⟨d, .unOp op u x, t, p, af, g⟩ r ⟨tm, hp, nb⟩ K = (match op, ev P 0 ⟨tm, hp, nb⟩ x with
    | .not, .d (.bool b) => K (St.put ⟨tm, hp, nb⟩ d (.d (.bool !b)))
    | .neg, .d (.int k n) => K (St.put ⟨tm, hp, nb⟩ d (.d (.int k (k.wrap (0 - n)))))
    | .xor, .d (.int k n) => K (St.put ⟨tm, hp, nb⟩ d (.d (.int k (k.wrap (BitVec.ofInt k.bits (if k.signed then -1 else k.max) ^^^ BitVec.ofInt k.bits n).toNat))))
    | _, _ => False) := rfl
theorem x_makeFunc {f : Fn} {fs cs : Array Operand} : stepK P ⟨d, .makeFunc f fs cs, t, p, af, g⟩ r ⟨tm, hp, nb⟩ K = (fs = #[] ∧ K (St.put ⟨tm, hp, nb⟩ d (.fn f (cs.toList.map fun x => (ev P 0 ⟨tm, hp, nb⟩ x).cp)))) := rfl
theorem x_slice {u : TypeId} {x : Operand} {lo hi mx : Option Operand} : stepK P ⟨d, .slice u x lo hi mx, t, p, af, g⟩ r ⟨tm, hp, nb⟩ K = sliceK P u (ev P u ⟨tm, hp, nb⟩ x) ⟨tm, hp, nb⟩ lo hi mx fun v => K (St.put ⟨tm, hp, nb⟩ d v) := rfl
theorem x_fieldAddr {u : TypeId} {x : Operand} {f : Nat} : stepK P ⟨d, .fieldAddr u x f, t, p, af, g⟩ r ⟨tm, hp, nb⟩ K = (match ev P 0 ⟨tm, hp, nb⟩ x, fieldOff P u f with
    | .ptr id off, some (n, _) => K (St.put ⟨tm, hp, nb⟩ d (.ptr id (off + n)))
    | .lptr l z xs i j, some (n, _) => K (St.put ⟨tm, hp, nb⟩ d (.lptr l z xs i (j + n)))
    | .aptr id z i j, some (n, _) => K (St.put ⟨tm, hp, nb⟩ d (.aptr id z i (j + n)))
    | _, _ => False) := rfl
theorem x_field {u : TypeId} {x : Operand} {f : Nat} : stepK P ⟨d, .field u x f, t, p, af, g⟩ r ⟨tm, hp, nb⟩ K = (match ev P u ⟨tm, hp, nb⟩ x, fieldOff P u f with
    | .d d', some (n, ft) => match partD P ft d' n with
      | some y => (match d' with | .agg _ => True | _ => False) ∧ K (St.put ⟨tm, hp, nb⟩ d (.d y))
      | none => False
    | .st cs, some (n, ft) => match partV P ft cs n with
      | some y => K (St.put ⟨tm, hp, nb⟩ d y)
      | none => False
    | _, _ => False) := rfl
theorem x_indexAddr {u : TypeId} {x i : Operand} : stepK P ⟨d, .indexAddr u x i, t, p, af, g⟩ r ⟨tm, hp, nb⟩ K = (match (ev P u ⟨tm, hp, nb⟩ x).cp, ev P 0 ⟨tm, hp, nb⟩ i with
    | .d (.sl l z xs), .d (.int _ n) => (elI P u).map (·.1) = some z ∧ 0 ≤ n ∧ n < xs.length ∧ K (St.put ⟨tm, hp, nb⟩ d (.lptr l z xs n.toNat 0))
    | .ref id z off len _, .d (.int _ n) => (elI P u).map (·.1) = some z ∧ 0 ≤ n ∧ n < len ∧ K (St.put ⟨tm, hp, nb⟩ d (match hp[id]? with
      | some (.var _) => .ptr id ((off + n.toNat) * z)
      | _ => .aptr id z (off + n.toNat) 0))
    | .ptr id off, .d (.int _ n) => match arrI P u with
      | some (k, z) => 0 ≤ n ∧ n < k ∧ K (St.put ⟨tm, hp, nb⟩ d (.ptr id (off + n.toNat * z)))
      | none => False
    | _, _ => False) := rfl
theorem x_extract {x : Operand} {ix : Nat} : stepK P ⟨d, .extract x ix, t, p, af, g⟩ r ⟨tm, hp, nb⟩ K = (match ev P 0 ⟨tm, hp, nb⟩ x with
    | .tup vs => match vs[ix]? with
      | some v => v.isTup = false ∧ K (St.put ⟨St.at_ ⟨tm, hp, nb⟩ x (.tup (vs.set ix v.cp)), hp, nb⟩ d v)
      | none => False
    | _ => False) := rfl
theorem x_makeSlice {u : TypeId} {l c : Operand} : stepK P ⟨d, .makeSlice u l c, t, p, af, g⟩ r ⟨tm, hp, nb⟩ K = (match elemTy P u, elI P u, ev P 0 ⟨tm, hp, nb⟩ l, ev P 0 ⟨tm, hp, nb⟩ c with
    | some e, some (z, by_), .d (.int _ n), .d (.int _ m) => match (zeroCs P e).bind (ofCells P e) with
      | some zd => n ≤ m ∧ 0 ≤ n ∧ by_ * m ≤ 281474976710656 ∧ m ≤ 9223372036854775807 ∧ zd.flat.length = z ∧ 0 < z ∧
          K (St.put ⟨tm, hp ++ [IObj.arr z (List.replicate m.toNat zd)], nb⟩ d (.ref hp.length z 0 n.toNat m.toNat))
      | none => False
    | _, _, _, _ => False) := rfl
theorem x_index {u : TypeId} {x i : Operand} : stepK P ⟨d, .index u x i, t, p, af, g⟩ r ⟨tm, hp, nb⟩ K = (match ev P u ⟨tm, hp, nb⟩ x, ev P 0 ⟨tm, hp, nb⟩ i with
    | .d (.str b), .d (.int _ n) => P.underlying u = some .string ∧ 0 ≤ n ∧ n < b.size ∧ K (St.put ⟨tm, hp, nb⟩ d (.d (.int .u8 ((b[n.toNat]!).toNat))))
    | _, _ => False) := rfl
theorem x_makeMap {u : TypeId} : stepK P ⟨d, .makeMap u none, t, p, af, g⟩ r ⟨tm, hp, nb⟩ K = K (St.put ⟨tm, hp ++ [IObj.map 0 []], nb⟩ d (.map hp.length)) := rfl
theorem x_lookup {u : TypeId} {x k : Operand} {ok : Bool} : stepK P ⟨d, .lookup u x k ok, t, p, af, g⟩ r ⟨tm, hp, nb⟩ K = lookupK P u (ev P u ⟨tm, hp, nb⟩ x) (ev P ((mapTy P u).map (·.1) |>.getD 0) ⟨tm, hp, nb⟩ k) ok ⟨tm, hp, nb⟩ fun v => K (St.put ⟨tm, hp, nb⟩ d v) := rfl
theorem x_mapUpdate {u : TypeId} {x k v : Operand} : stepK P ⟨d, .mapUpdate u x k v, t, p, af, g⟩ r ⟨tm, hp, nb⟩ K = ((ev P ((mapTy P u).map (·.2) |>.getD 0) ⟨tm, hp, nb⟩ v).known = true ∧ mapUpdateK P u (ev P u ⟨tm, hp, nb⟩ x) (ev P ((mapTy P u).map (·.1) |>.getD 0) ⟨tm, hp, nb⟩ k) (ev P ((mapTy P u).map (·.2) |>.getD 0) ⟨tm, hp, nb⟩ v) ⟨tm, hp, nb⟩ d K) := rfl
theorem x_range {u : TypeId} {x : Operand} : stepK P ⟨d, .range u x, t, p, af, g⟩ r ⟨tm, hp, nb⟩ K = (match ev P u ⟨tm, hp, nb⟩ x with
    | .map id => (match hp[id]? with
      | some (.map c _) => (mapTy P u).isSome = true ∧ K (St.put ⟨tm, hp ++ [IObj.iter id c [] c], nb⟩ d (.ptr hp.length 0))
      | _ => False)
    | _ => False) := rfl
theorem x_next {x : Operand} : stepK P ⟨d, .next x false, t, p, af, g⟩ r ⟨tm, hp, nb⟩ K = nextK ⟨tm, hp, nb⟩ (ev P 0 ⟨tm, hp, nb⟩ x) d K := rfl
theorem x_call {c : Call} : stepK P ⟨d, .call c, t, p, af, g⟩ r ⟨tm, hp, nb⟩ K = callK P c ⟨tm, hp, nb⟩ d K := rfl
theorem x_convert {u u' : TypeId} {x : Operand} : stepK P ⟨d, .convert u u' x, t, p, af, g⟩ r ⟨tm, hp, nb⟩ K = (match ev P u ⟨tm, hp, nb⟩ x with
    | .d (.int _ n) => match P.underlying u' with
      | some (.int k) => (P.underlying u).isSome = true ∧ K (St.put ⟨tm, hp, nb⟩ d (.d (.int k (k.wrap n))))
      | _ => False
    | .d (.str b) => P.underlying u' = some .string ∧ P.underlying u = some .string ∧ K (St.put ⟨tm, hp, nb⟩ d (.d (.str b)))
    | _ => False) := rfl

theorem e_tmp {i : Nat} : ev P t ⟨tm, hp, nb⟩ (.tmp i) = tm.getD i .un := rfl
theorem e_const {s : St} {v : Value} : ev P t s (.const v) = constV P t v := rfl
theorem e_func {s : St} {f : FuncId} : ev P t s (.func f) = .fn (.func f) [] := rfl
theorem c_int {k : IntKind} {n : Int} : constV P t (.int k n) = .d (.int k n) := rfl
theorem c_bool {b : Bool} : constV P t (.bool b) = .d (.bool b) := rfl
theorem c_str {b : ByteArray} : constV P t (.string b) = .d (.str b) := rfl
theorem c_nil : constV P t (.slice none 0 0) = .nil (elemSz P t) := rfl
theorem c_ptr : constV P t (.pointer none) = .d (.con (.pointer none)) := rfl
theorem put_some {i : Nat} {v : V} : St.put ⟨tm, hp, nb⟩ (some i) v = ⟨tm.set i v, hp, nb⟩ := rfl
theorem put_none {s : St} {v : V} : St.put s none v = s := rfl
theorem mv_false' {s : St} {x : Operand} {v : V} {dst : Option Nat} : mv s x v dst false = s.put dst v.cp := by simp [mv]
theorem mv_tmp {i : Nat} {v : V} {dst : Option Nat} : mv ⟨tm, hp, nb⟩ (.tmp i) v dst true = St.put ⟨tm.set i v.cp, hp, nb⟩ dst v := by simp [mv]
theorem mv_const {s : St} {c : Value} {v : V} {dst : Option Nat} : mv s (.const c) v dst true = s.put dst v := by simp [mv]
theorem mv_func {s : St} {c : FuncId} {v : V} {dst : Option Nat} : mv s (.func c) v dst true = s.put dst v := by simp [mv]
theorem cp_d {x : D} : (V.d x).cp = .d x := rfl
theorem cp_own {z : Nat} {xs : List D} : (V.own z xs).cp = .d (.sl false z xs) := rfl
theorem cp_hold {z : Nat} {xs : List D} : (V.hold z xs).cp = .d (shapeD xs.length) := rfl
theorem cp_nil {z : Nat} : (V.nil z).cp = .nil z := rfl
theorem cp_st {cs : List V} : (V.st cs).cp = .st cs := rfl
theorem cp_map {i : Nat} : (V.map i).cp = .map i := rfl
theorem cp_ref {i z o l c : Nat} : (V.ref i z o l c).cp = .ref i z o l c := rfl
theorem cp_ptr {i j : Nat} : (V.ptr i j).cp = .ptr i j := rfl
theorem cp_lptr {l : Bool} {z : Nat} {xs : List D} {i j : Nat} : (V.lptr l z xs i j).cp = .lptr l z xs i j := rfl
theorem cp_aptr {id z i j : Nat} : (V.aptr id z i j).cp = .aptr id z i j := rfl
theorem cp_un : V.un.cp = .un := rfl
theorem cp_fn {f : Fn} {cs : List V} : (V.fn f cs).cp = .fn f cs := rfl
theorem cp_skip : (V.tup []).cp = .tup [] := rfl
def V.cp1 : V → V := fun v => match v with | .own z xs => .d (.sl false z xs) | .hold _ xs => .d (shapeD xs.length) | v => v
theorem cp_tup {vs : List V} : (V.tup vs).cp = .tup (vs.map V.cp1) := rfl
theorem cp1_d {x : D} : (V.d x).cp1 = .d x := rfl
theorem cp1_own {z : Nat} {xs : List D} : (V.own z xs).cp1 = .d (.sl false z xs) := rfl
theorem cp1_hold {z : Nat} {xs : List D} : (V.hold z xs).cp1 = .d (shapeD xs.length) := rfl
theorem cp1_nil {z : Nat} : (V.nil z).cp1 = .nil z := rfl
theorem cp1_ref {i z o l c : Nat} : (V.ref i z o l c).cp1 = .ref i z o l c := rfl
theorem cp1_ptr {i j : Nat} : (V.ptr i j).cp1 = .ptr i j := rfl
theorem cp1_st {cs : List V} : (V.st cs).cp1 = .st cs := rfl
theorem cp1_fn {f : Fn} {cs : List V} : (V.fn f cs).cp1 = .fn f cs := rfl
theorem cp1_map {i : Nat} : (V.map i).cp1 = .map i := rfl
theorem cp_yld {i : Nat} : (V.yld i).cp = .yld i := rfl
theorem tup_d {x : D} : (V.d x).isTup = false := rfl
theorem tup_own {z : Nat} {xs : List D} : (V.own z xs).isTup = false := rfl
theorem tup_hold {z : Nat} {xs : List D} : (V.hold z xs).isTup = false := rfl
theorem tup_nil {z : Nat} : (V.nil z).isTup = false := rfl
theorem tup_st {cs : List V} : (V.st cs).isTup = false := rfl
theorem tup_map {i : Nat} : (V.map i).isTup = false := rfl
theorem tup_ref {i z o l c : Nat} : (V.ref i z o l c).isTup = false := rfl
theorem tup_ptr {i j : Nat} : (V.ptr i j).isTup = false := rfl
theorem tup_lptr {l : Bool} {z : Nat} {xs : List D} {i j : Nat} : (V.lptr l z xs i j).isTup = false := rfl
theorem tup_aptr {id z i j : Nat} : (V.aptr id z i j).isTup = false := rfl
theorem tup_un : V.un.isTup = false := rfl
theorem tup_fn {f : Fn} {cs : List V} : (V.fn f cs).isTup = false := rfl
theorem tup_yld {i : Nat} : (V.yld i).isTup = false := rfl
theorem tup_tup {vs : List V} : (V.tup vs).isTup = true := rfl
theorem kn_d {x : D} : (V.d x).known = true := rfl
theorem kn_own {z : Nat} {xs : List D} : (V.own z xs).known = true := rfl
theorem kn_hold {z : Nat} {xs : List D} : (V.hold z xs).known = true := rfl
theorem kn_nil {z : Nat} : (V.nil z).known = true := rfl
theorem kn_st {cs : List V} : (V.st cs).known = true := rfl
theorem kn_map {i : Nat} : (V.map i).known = true := rfl
theorem kn_ref {i z o l c : Nat} : (V.ref i z o l c).known = true := rfl
theorem kn_ptr {i j : Nat} : (V.ptr i j).known = true := rfl
theorem kn_aptr {i z j k : Nat} : (V.aptr i z j k).known = true := rfl
theorem kn_lptr {l : Bool} {z : Nat} {xs : List D} {i j : Nat} : (V.lptr l z xs i j).known = true := rfl
theorem kn_fn {f : Fn} {cs : List V} : (V.fn f cs).known = true := rfl
theorem kn_yld {i : Nat} : (V.yld i).known = true := rfl
theorem kn_un : V.un.known = false := rfl
theorem lt_d {m : Nat} {x : D} : V.lt m (.d x) = true := rfl
theorem lt_un {m : Nat} : V.lt m .un = true := rfl
theorem lt_nil {m z : Nat} : V.lt m (.nil z) = true := rfl
theorem lt_own {m z : Nat} {xs : List D} : V.lt m (.own z xs) = true := rfl
theorem lt_hold {m z : Nat} {xs : List D} : V.lt m (.hold z xs) = true := rfl
theorem lt_lptr {m : Nat} {l : Bool} {z : Nat} {xs : List D} {i j : Nat} : V.lt m (.lptr l z xs i j) = true := rfl

variable {Q : Ex → St → Prop} {s : St}
theorem t_normal {K : St → Prop} : thenK K Q .normal s = K s := rfl
theorem t_ret {K : St → Prop} : thenK K Q .ret s = Q .ret s := rfl
theorem t_exit {K : St → Prop} {id : Nat} : thenK K Q (.exit id) s = Q (.exit id) s := rfl
theorem b_normal {id : Nat} : inBlockK id Q .normal s = Q .normal s := rfl
theorem b_ret {id : Nat} : inBlockK id Q .ret s = Q .ret s := rfl
theorem b_exit {id i : Nat} : inBlockK id Q (.exit i) s = if i = id then Q .normal s else Q (.exit i) s := rfl

theorem argVs_mk {ce : Callee} {xs : Array Operand} {ts : Array TypeId} : argVs P s { callee := ce, args := xs, argTypes := ts } = (List.zip xs.toList (ts.toList ++ List.replicate xs.size 0)).map fun (x, t) => (ev P t s x).cp := rfl

/-- what is asked at a function's end, by its results: its arrays are frozen -/
def retF (P : Program) (rs : List ResultVar) (r : V) (e : Ex) (s : St) : Prop :=
  match e with
  | .normal | .ret => (match resVs P s rs with
    | some [v] => LeR (frzV s.hp v) r
    | some vs => LeR (frzV s.hp (.tup vs)) r
    | none => False)
  | _ => False
/-- the same, with the memory behind it -/
def retH (P : Program) (rs : List ResultVar) (K : V → List IObj → Prop) (e : Ex) (s : St) : Prop :=
  match e with
  | .normal | .ret => (match resVs P s rs with
    | some [v] => K v s.hp
    | some vs => K (.tup vs) s.hp
    | none => False)
  | _ => False

theorem retK_retH {fn : Func} {K : V → List IObj → Prop} : retK P fn K = retH P fn.results.toList K := by
  funext e s
  unfold retK retH retV
  cases e <;> simp only
  all_goals
    cases h : resVs P s fn.results.toList with
    | none => rfl
    | some vs =>
      cases vs with
      | nil => rfl
      | cons v vs => cases vs <;> rfl
theorem retF_retH {rs : List ResultVar} {rv : V} : retF P rs rv = retH P rs fun r hp => LeR (frzV hp r) rv := by
  funext e s
  cases e <;> rfl

theorem r_ret {rs : List ResultVar} {rv : V} : retF P rs rv .ret s = (match resVs P s rs with
    | some [v] => LeR (frzV s.hp v) rv
    | some vs => LeR (frzV s.hp (.tup vs)) rv
    | none => False) := rfl
theorem r_normal {rs : List ResultVar} {rv : V} : retF P rs rv .normal s = (match resVs P s rs with
    | some [v] => LeR (frzV s.hp v) rv
    | some vs => LeR (frzV s.hp (.tup vs)) rv
    | none => False) := rfl
theorem rh_ret {rs : List ResultVar} {K : V → List IObj → Prop} : retH P rs K .ret s = (match resVs P s rs with
    | some [v] => K v s.hp
    | some vs => K (.tup vs) s.hp
    | none => False) := rfl
theorem rh_normal {rs : List ResultVar} {K : V → List IObj → Prop} : retH P rs K .normal s = (match resVs P s rs with
    | some [v] => K v s.hp
    | some vs => K (.tup vs) s.hp
    | none => False) := rfl

/-- component by component -/
def Le1 (v u : V) : Prop := v.data1 = true ∧ (u = v ∨ u = v.cp ∨ NilLe v u)
def LeRL : List V → List V → Prop
  | [], [] => True
  | v :: vs, u :: us => Le1 v u ∧ LeRL vs us
  | _, _ => False
theorem LeRL.get : ∀ {vs us : List V}, LeRL vs us → vs.length = us.length ∧ ∀ (i : Nat) v u, vs[i]? = some v → us[i]? = some u → v.data1 = true ∧ (u = v ∨ u = v.cp ∨ NilLe v u)
  | [], [], _ => by simp
  | v :: vs, u :: us, h => by
    obtain ⟨h1, h2⟩ := LeRL.get h.2
    refine ⟨by simp [h1], fun i a b ha hb => ?_⟩
    cases i with
    | zero => simp at ha hb; subst ha; subst hb; exact h.1
    | succ i => exact h2 i a b (by simpa using ha) (by simpa using hb)
  | [], _ :: _, h => h.elim
  | _ :: _, [], h => h.elim
theorem LeR_tup {vs us : List V} : LeR (.tup vs) (.tup us) = LeRL vs us := by
  refine propext ⟨fun h => ?_, fun h => .tup h.get.1 h.get.2⟩
  cases h with
  | one h _ => cases h
  | tup h1 h2 =>
    have aux : ∀ (vs us : List V), vs.length = us.length → (∀ (i : Nat) v u, vs[i]? = some v → us[i]? = some u → v.data1 = true ∧ (u = v ∨ u = v.cp ∨ NilLe v u)) → LeRL vs us := by
      intro vs
      induction vs with
      | nil => intro us h1 _; cases us with | nil => trivial | cons => simp at h1
      | cons v vs ih =>
        intro us h1 h2
        cases us with
        | nil => simp at h1
        | cons u us => exact ⟨h2 0 v u rfl rfl, ih us (by simpa using h1) fun i a b ha hb => h2 (i + 1) a b (by simpa using ha) (by simpa using hb)⟩
    exact aux _ _ h1 h2
theorem LeR_one {v u : V} (h : u.isTup = false) (h' : v.isTup = false) : LeR v u = Le1 v u := by
  refine propext ⟨fun hh => ?_, fun hh => .one hh.1 hh.2⟩
  cases hh with
  | one a b => exact ⟨a, b⟩
  | tup => cases h
theorem LeR_d {x : D} {u : V} (h : u.isTup = false) : LeR (.d x) u = Le1 (.d x) u := LeR_one h rfl
theorem LeR_own {z : Nat} {x : List D} {u : V} (h : u.isTup = false) : LeR (.own z x) u = Le1 (.own z x) u := LeR_one h rfl
theorem LeR_nil {z : Nat} {u : V} (h : u.isTup = false) : LeR (.nil z) u = Le1 (.nil z) u := LeR_one h rfl
theorem Le1_d {x y : D} : Le1 (.d x) (.d y) = (x = y) := by
  refine propext ⟨?_, fun h => ⟨rfl, .inl (by rw [h])⟩⟩
  rintro ⟨_, h | h | h⟩
  · injection h with h; exact h.symm
  · injection h with h; exact h.symm
  · cases h
theorem Le1_own {z z' : Nat} {x y : List D} : Le1 (.own z x) (.own z' y) = (z = z' ∧ x = y) := by
  refine propext ⟨?_, fun h => ⟨rfl, .inl (by rw [h.1, h.2])⟩⟩
  rintro ⟨_, h | h | h⟩
  · injection h with h h'; exact ⟨h.symm, h'.symm⟩
  · cases h
  · cases h
theorem Le1_own_d {z z' : Nat} {l : Bool} {x y : List D} : Le1 (.own z x) (.d (.sl l z' y)) = (l = false ∧ z = z' ∧ x = y) := by
  refine propext ⟨?_, fun h => ⟨rfl, .inr (.inl (by rw [h.1, h.2.1, h.2.2]; rfl))⟩⟩
  rintro ⟨_, h | h | h⟩
  · cases h
  · injection h with h; injection h with h h' h''; exact ⟨h, h'.symm, h''.symm⟩
  · cases h
theorem Le1_nil {z z' : Nat} : Le1 (.nil z) (.nil z') = (z = z') := by
  refine propext ⟨?_, fun h => ⟨rfl, .inl (by rw [h])⟩⟩
  rintro ⟨_, h | h | h⟩
  · injection h with h; exact h.symm
  · injection h with h; exact h.symm
  · cases h
theorem Le1_nil_own {z z' : Nat} {y : List D} : Le1 (.nil z) (.own z' y) = (z = z' ∧ y = []) := by
  refine propext ⟨?_, fun h => ⟨rfl, .inr (.inr (by rw [h.1, h.2]; exact .own))⟩⟩
  rintro ⟨_, h | h | h⟩
  · cases h
  · cases h
  · cases h; exact ⟨rfl, rfl⟩
theorem Le1_nil_d {z z' : Nat} {l : Bool} {y : List D} : Le1 (.nil z) (.d (.sl l z' y)) = (z = z' ∧ y = []) := by
  refine propext ⟨?_, fun h => ⟨rfl, .inr (.inr (by rw [h.1, h.2]; exact .d))⟩⟩
  rintro ⟨_, h | h | h⟩
  · cases h
  · cases h
  · cases h; exact ⟨rfl, rfl⟩

theorem fz_d {x : D} : frzV hp (.d x) = .d x := rfl
theorem fz_own {z : Nat} {x : List D} : frzV hp (.own z x) = .own z x := rfl
theorem fz_hold {z : Nat} {x : List D} : frzV hp (.hold z x) = .hold z x := rfl
theorem fz_nil {z : Nat} : frzV hp (.nil z) = .nil z := rfl
theorem fz_ref {id z off len cap : Nat} : frzV hp (.ref id z off len cap) = frz1 hp (.ref id z off len cap) := rfl
theorem fz_st {cs : List V} : frzV hp (.st cs) = mkAgg (cs.map (frz1 hp)) := rfl
theorem fz_tup {vs : List V} : frzV hp (.tup vs) = .tup (vs.map (frz2 hp)) := rfl
theorem f2_d {x : D} : frz2 hp (.d x) = .d x := rfl
theorem f2_own {z : Nat} {x : List D} : frz2 hp (.own z x) = .own z x := rfl
theorem f2_hold {z : Nat} {x : List D} : frz2 hp (.hold z x) = .hold z x := rfl
theorem f2_nil {z : Nat} : frz2 hp (.nil z) = .nil z := rfl
theorem f2_ref {id z off len cap : Nat} : frz2 hp (.ref id z off len cap) = frz1 hp (.ref id z off len cap) := rfl
theorem f2_st {cs : List V} : frz2 hp (.st cs) = mkAgg (cs.map (frz1 hp)) := rfl
theorem f1_d {x : D} : frz1 hp (.d x) = .d x := rfl
theorem f1_own {z : Nat} {x : List D} : frz1 hp (.own z x) = .own z x := rfl
theorem f1_hold {z : Nat} {x : List D} : frz1 hp (.hold z x) = .hold z x := rfl
theorem f1_nil {z : Nat} : frz1 hp (.nil z) = .nil z := rfl
theorem f1_ref {id z off len cap : Nat} : frz1 hp (.ref id z off len cap) = (match hp[id]? with
    | some (.arr z' xs) => if z' = z ∧ 0 < z ∧ len ≤ cap ∧ off + len ≤ xs.length then .d (.sl false z ((xs.drop off).take len)) else .ref id z off len cap
    | _ => .ref id z off len cap) := rfl

/-! ### Calls, for simp -/
variable {xs : Array Operand} {ts : Array TypeId}
/-- what is to be shown behind a call, where simp does not look into it -/
class Kont where
  run : V → List IObj → Prop
theorem kont_run {f : V → List IObj → Prop} {r : V} {hp : List IObj} : @Kont.run ⟨f⟩ r hp = f r hp := rfl
def CallH (P : Program) (f : FuncId) (args : List V) (hp : List IObj) [k : Kont] : Prop := CallK P f args hp k.run
def CallEH (P : Program) (f : FuncId) (args : List V) (hp : List IObj) [k : Kont] : Prop := CallE P f args hp k.run
def RoundH (P : Program) (id : Nat) (args : List V) (hp : List IObj) [k : Kont] : Prop := RoundK P id args hp k.run
theorem k_val {q : Operand} : callK P ⟨.value q, xs, ts⟩ s d K = (match ev P 0 s q with
    | .fn (.func f) caps => (argVs P s ⟨.value q, xs, ts⟩ ++ caps).all V.bare = true ∧ (bif hasBody P f then @CallH P f (argVs P s ⟨.value q, xs, ts⟩ ++ caps) s.hp ⟨fun r hp' => K (({ s with hp := hp' } : St).put d r)⟩
        else @CallEH P f (argVs P s ⟨.value q, xs, ts⟩ ++ caps) s.hp ⟨fun r hp' => K (({ s with hp := hp' } : St).put d r)⟩)
    | .yld id => (argVs P s ⟨.value q, xs, ts⟩).all V.bare = true ∧ @RoundH P id (argVs P s ⟨.value q, xs, ts⟩) s.hp ⟨fun r hp' => K (({ s with hp := hp' } : St).put d r)⟩
    | _ => False) := rfl
/-- a call among operations that are free, where simp does not look behind it -/
class Kont1 where
  run : V → Prop
theorem kont1_run {f : V → Prop} {r : V} : @Kont1.run ⟨f⟩ r = f r := rfl
def FreeH (P : Program) (f : FuncId) (args : List V) [k : Kont1] : Prop := ∃ ds r, allD args = some ds ∧ r.data = true ∧ PCall P f ds r ∧ k.run r
theorem free_pcall {f : FuncId} {ds : List D} {args : List V} {r : V} {k : Kont1} (h : PCall P f ds r) (ha : allD args = some ds) (hd : r.data = true) (hk : k.run r) : @FreeH P f args k := ⟨ds, r, ha, hd, h, hk⟩
theorem fc_val {q : Operand} : freeCall P ⟨.value q, xs, ts⟩ s d K = (match ev P 0 s q with
    | .fn (.func f) caps => hasBody P f = true ∧ caps.all V.bare = true ∧ @FreeH P f (argVs P s ⟨.value q, xs, ts⟩ ++ caps) ⟨fun r => K (s.put d r)⟩
    | _ => False) := rfl
theorem fc_len : freeCall P ⟨.builtin .len, xs, ts⟩ s d K = (match argVs P s ⟨.builtin .len, xs, ts⟩ with
    | [.map _] => False
    | _ => callK0 P ⟨.builtin .len, xs, ts⟩ s d K) := rfl
theorem fc_append : freeCall P ⟨.builtin .append, xs, ts⟩ s d K = callK0 P ⟨.builtin .append, xs, ts⟩ s d K := rfl
theorem fc_min : freeCall P ⟨.builtin .min, xs, ts⟩ s d K = callK0 P ⟨.builtin .min, xs, ts⟩ s d K := rfl
theorem fc_max : freeCall P ⟨.builtin .max, xs, ts⟩ s d K = callK0 P ⟨.builtin .max, xs, ts⟩ s d K := rfl
theorem k_append {x y : Operand} {t0 t1 : TypeId} : callK P ⟨.builtin .append, #[x, y], #[t0, t1]⟩ s d K = (match ev P t0 s x with
    | .ref id z off len cap => appendRefK P t0 t1 (.ref id z off len cap) (ev P t1 s y) s d K
    | _ => callK0 P ⟨.builtin .append, #[x, y], #[t0, t1]⟩ s d K) := rfl
theorem k0_append {x y : Operand} {t0 t1 : TypeId} : callK0 P ⟨.builtin .append, #[x, y], #[t0, t1]⟩ s d K = (match appBase (ev P t0 s x), (ev P t1 s y).cp.d? with
      | some (z, xs), some (.sl _ z' ys) => match elI P t0 with
        | some (e, by_) => d.isSome = true ∧ (#[t0, t1] : Array TypeId).size = 2 ∧ z = e ∧ z' = z ∧ 0 < z ∧ (elemTy P t1).isSome = true ∧ 0 < by_ ∧ (xs.length + ys.length) * by_ ≤ 140737488355328 ∧
            K (({ s with tm := s.at_ x (ev P t0 s x).cp } : St).put d (.own z (xs ++ ys)))
        | none => False
      | _, _ => False) := rfl
theorem k_copy {x y : Operand} {t0 t1 : TypeId} : callK P ⟨.builtin .copy, #[x, y], #[t0, t1]⟩ s d K = copyK P t0 t1 (ev P t0 s x) (ev P t1 s y) s d K := rfl
theorem k_clear {x : Operand} {t0 : TypeId} : callK P ⟨.builtin .clear, #[x], #[t0]⟩ s d K = clearK P t0 (ev P t0 s x) s d K := rfl
theorem k_cap {x : Operand} {t0 : TypeId} : callK P ⟨.builtin .cap, #[x], #[t0]⟩ s d K = (match ev P t0 s x with
    | .ref _ _ _ _ cap => (elemTy P t0).isSome = true ∧ K (s.put d (.d (.int .i64 cap)))
    | .nil _ => (elemTy P t0).isSome = true ∧ K (s.put d (.d (.int .i64 0)))
    | _ => False) := rfl
theorem k_delete {x y : Operand} {t0 t1 : TypeId} : callK P ⟨.builtin .delete, #[x, y], #[t0, t1]⟩ s d K = deleteK P t0 (ev P t0 s x) (ev P t1 s y) s d K := rfl
theorem k0_len {x : Operand} {t0 : TypeId} : callK0 P ⟨.builtin .len, #[x], #[t0]⟩ s d K = (match (ev P t0 s x).cp with
    | .d (.sl _ _ xs) => (some t0).isSome = true ∧ (elemTy P t0).isSome = true ∧ K (s.put d (.d (.int .i64 xs.length)))
    | .nil _ => (some t0).isSome = true ∧ (elemTy P t0).isSome = true ∧ K (s.put d (.d (.int .i64 0)))
    | .d (.str b) => (some t0).isSome = true ∧ P.underlying t0 = some .string ∧ K (s.put d (.d (.int .i64 b.size)))
    | .ref _ _ _ n _ => (some t0).isSome = true ∧ (elemTy P t0).isSome = true ∧ K (s.put d (.d (.int .i64 n)))
    | .map id => (match s.hp[id]? with
      | some (.map _ es) => (some t0).isSome = true ∧ (mapTy P t0).isSome = true ∧ K (s.put d (.d (.int .i64 es.length)))
      | _ => False)
    | _ => False) := by
  show (match argVs P s ⟨.builtin .len, #[x], #[t0]⟩ with
    | [.d (.sl _ _ xs)] => _
    | [.nil _] => _
    | [.d (.str b)] => _
    | [.ref _ _ _ n _] => _
    | [.map id] => _
    | _ => False) = _
  have e : argVs P s ⟨.builtin .len, #[x], #[t0]⟩ = [(ev P t0 s x).cp] := rfl
  rw [e]
  cases (ev P t0 s x).cp with
  | d y => cases y <;> rfl
  | _ => rfl
theorem k_len {x : Operand} {t0 : TypeId} : callK P ⟨.builtin .len, #[x], #[t0]⟩ s d K = callK0 P ⟨.builtin .len, #[x], #[t0]⟩ s d K := rfl
theorem k_min {x y : Operand} {t0 t1 : TypeId} : callK P ⟨.builtin .min, #[x, y], #[t0, t1]⟩ s d K = (match [(ev P t0 s x).cp, (ev P t1 s y).cp] with
    | [.d (.int k a), .d (.int _ b)] => K (s.put d (.d (.int k (if b < a then b else a))))
    | _ => False) := rfl
theorem k_max {x y : Operand} {t0 t1 : TypeId} : callK P ⟨.builtin .max, #[x, y], #[t0, t1]⟩ s d K = (match [(ev P t0 s x).cp, (ev P t1 s y).cp] with
    | [.d (.int k a), .d (.int _ b)] => K (s.put d (.d (.int k (if a < b then b else a))))
    | _ => False) := rfl
theorem R_tmp {i : Nat} : resV P ⟨tm, hp, nb⟩ (.tmp i) = if (tm.getD i .un).isTup then none else some (tm.getD i .un) := rfl
theorem R_cell {i : Nat} {t : TypeId} : resV P ⟨tm, hp, nb⟩ (.cell i t) = (match tm.getD i .un with
    | .ptr id off => match hp[id]? with
      | some (.var cs) => match kindD P t with
        | some true => match allD ((cs.drop off).take (sizeD P t)) with
          | some ds => if ds.length = sizeD P t then some (.d (.agg ds)) else none
          | none => none
        | some false => match cs[off]? with
          | some v => if v.isTup then none else some v.cp
          | none => none
        | none => none
      | _ => none
    | _ => none) := rfl
theorem Rs_nil : resVs P s [] = some [] := rfl
theorem Rs_cons {rv : ResultVar} {rs : List ResultVar} : resVs P ⟨tm, hp, nb⟩ (rv :: rs) = (match resV P ⟨tm, hp, nb⟩ rv, resVs P ⟨tm, hp, nb⟩ rs with
    | some v, some vs => some (v :: vs)
    | _, _ => none) := rfl
end

/-! ### Loops, for simp -/
/-- a value that says no more than another -/
def LeV (v u : V) : Prop := u = .un ∨ u = v ∨ u = v.cp ∨ NilLe v u
def LeL : List V → List V → Prop
  | [], [] => True
  | v :: vs, u :: us => LeV v u ∧ LeL vs us
  | _, _ => False
/-- a state that says no more than another; what was made since is forgotten -/
def LeS (s t : St) : Prop := LeL s.tm t.tm ∧ V.ltL t.hp.length t.tm = true ∧ ltObjs t.hp.length t.hp = true ∧ s.nb ≤ t.hp.length ∧ s.hp.take t.hp.length = t.hp ∧ s.nb = t.nb ∧ t.hp.length ≤ s.hp.length

theorem LeL.le : ∀ {vs us : List V}, LeL vs us → LeTm vs us
  | [], [], _ => .nil
  | v :: vs, u :: us, h => by
    obtain ⟨h1, h2⟩ := h
    rcases h1 with rfl | rfl | rfl | h1
    · exact .un (LeL.le h2)
    · exact .same (LeL.le h2)
    · exact .cp (LeL.le h2)
    · exact .to h1 (LeL.le h2)
  | [], _ :: _, h => h.elim
  | _ :: _, [], h => h.elim

theorem LeS.le {s t : St} (h : LeS s t) : s.le t := by
  obtain ⟨h1, h2, h3, h4, h5, h6, h7⟩ := h
  have := St.le_cut (s := s) t.hp.length h1.le h2 (by rw [h5]; exact h3) h4 h7
  rw [h5, h6] at this
  exact this

theorem LeS_mk {tm tm' : List V} {hp hp' : List IObj} {nb nb' : Nat} : LeS ⟨tm, hp, nb⟩ ⟨tm', hp', nb'⟩ = (LeL tm tm' ∧ V.ltL hp'.length tm' = true ∧ ltObjs hp'.length hp' = true ∧ nb ≤ hp'.length ∧ hp.take hp'.length = hp' ∧ nb = nb' ∧ hp'.length ≤ hp.length) := rfl
theorem LeL_nil : LeL [] [] = True := rfl
theorem LeL_cons {v u : V} {vs us : List V} : LeL (v :: vs) (u :: us) = (LeV v u ∧ LeL vs us) := rfl
theorem LeV_un {v : V} : LeV v .un = True := eq_true (.inl rfl)
theorem LeV_refl {v : V} : LeV v v = True := eq_true (.inr (.inl rfl))
theorem LeV_d {x y : D} : LeV (.d x) (.d y) = (x = y) := by
  refine propext ⟨?_, fun h => .inr (.inl (by rw [h]))⟩
  rintro (h | h | h | h)
  · cases h
  · injection h with h; exact h.symm
  · injection h with h; exact h.symm
  · cases h
theorem LeV_own {z z' : Nat} {xs ys : List D} : LeV (.own z xs) (.own z' ys) = (z = z' ∧ xs = ys) := by
  refine propext ⟨?_, fun h => .inr (.inl (by rw [h.1, h.2]))⟩
  rintro (h | h | h | h)
  · cases h
  · injection h with h h'; exact ⟨h.symm, h'.symm⟩
  · cases h
  · cases h
theorem LeV_hold {z z' : Nat} {xs ys : List D} : LeV (.hold z xs) (.hold z' ys) = (z = z' ∧ xs = ys) := by
  refine propext ⟨?_, fun h => .inr (.inl (by rw [h.1, h.2]))⟩
  rintro (h | h | h | h)
  · cases h
  · injection h with h h'; exact ⟨h.symm, h'.symm⟩
  · cases h
  · cases h
theorem LeV_nil_hold {z z' : Nat} {y : List D} : LeV (.nil z) (.hold z' y) = (z = z' ∧ y = []) := by
  refine propext ⟨?_, fun h => .inr (.inr (.inr (by rw [h.1, h.2]; exact .hold)))⟩
  rintro (h | h | h | h)
  · cases h
  · cases h
  · cases h
  · cases h; exact ⟨rfl, rfl⟩
theorem LeV_own_d {z z' : Nat} {l : Bool} {x y : List D} : LeV (.own z x) (.d (.sl l z' y)) = (l = false ∧ z = z' ∧ x = y) := by
  refine propext ⟨?_, fun h => .inr (.inr (.inl (by rw [h.1, h.2.1, h.2.2]; rfl)))⟩
  rintro (h | h | h | h)
  · cases h
  · cases h
  · injection h with h; injection h with h h' h''; exact ⟨h, h'.symm, h''.symm⟩
  · cases h
theorem LeV_nil {z z' : Nat} : LeV (.nil z) (.nil z') = (z = z') := by
  refine propext ⟨?_, fun h => .inr (.inl (by rw [h]))⟩
  rintro (h | h | h | h)
  · cases h
  · injection h with h; exact h.symm
  · injection h with h; exact h.symm
  · cases h
theorem LeV_nil_own {z z' : Nat} {y : List D} : LeV (.nil z) (.own z' y) = (z = z' ∧ y = []) := by
  refine propext ⟨?_, fun h => .inr (.inr (.inr (by rw [h.1, h.2]; exact .own)))⟩
  rintro (h | h | h | h)
  · cases h
  · cases h
  · cases h
  · cases h; exact ⟨rfl, rfl⟩
theorem LeV_nil_d {z z' : Nat} {l : Bool} {y : List D} : LeV (.nil z) (.d (.sl l z' y)) = (z = z' ∧ y = []) := by
  refine propext ⟨?_, fun h => .inr (.inr (.inr (by rw [h.1, h.2]; exact .d)))⟩
  rintro (h | h | h | h)
  · cases h
  · cases h
  · cases h
  · cases h; exact ⟨rfl, rfl⟩
theorem LeV_nil_ref {z z' id off len cap : Nat} : LeV (.nil z) (.ref id z' off len cap) = (z = z' ∧ len = 0 ∧ cap = 0) := by
  refine propext ⟨?_, fun h => .inr (.inr (.inr (by rw [h.1, h.2.1, h.2.2]; exact .ref)))⟩
  rintro (h | h | h | h)
  · cases h
  · cases h
  · cases h
  · cases h; exact ⟨rfl, rfl, rfl⟩
theorem LeV_ref {id z off len cap id' z' off' len' cap' : Nat} : LeV (.ref id z off len cap) (.ref id' z' off' len' cap') = (id = id' ∧ z = z' ∧ off = off' ∧ len = len' ∧ cap = cap') := by
  refine propext ⟨?_, ?_⟩
  · rintro (h | h | h | h)
    · cases h
    · injection h with h1 h2 h3 h4 h5; exact ⟨h1.symm, h2.symm, h3.symm, h4.symm, h5.symm⟩
    · injection h with h1 h2 h3 h4 h5; exact ⟨h1.symm, h2.symm, h3.symm, h4.symm, h5.symm⟩
    · cases h
  · rintro ⟨rfl, rfl, rfl, rfl, rfl⟩; exact .inr (.inl rfl)
theorem LeV_ptr {id off id' off' : Nat} : LeV (.ptr id off) (.ptr id' off') = (id = id' ∧ off = off') := by
  refine propext ⟨?_, ?_⟩
  · rintro (h | h | h | h)
    · cases h
    · injection h with h1 h2; exact ⟨h1.symm, h2.symm⟩
    · injection h with h1 h2; exact ⟨h1.symm, h2.symm⟩
    · cases h
  · rintro ⟨rfl, rfl⟩; exact .inr (.inl rfl)
theorem LeV_map {id id' : Nat} : LeV (.map id) (.map id') = (id = id') := by
  refine propext ⟨?_, ?_⟩
  · rintro (h | h | h | h)
    · cases h
    · injection h with h1; exact h1.symm
    · injection h with h1; exact h1.symm
    · cases h
  · rintro rfl; exact .inr (.inl rfl)

/-! ### Drawn regions, for simp -/
theorem imp_congr_right' {a b c : Prop} (h : a → (b = c)) : (a → b) ↔ (a → c) := ⟨fun f x => h x ▸ f x, fun f x => (h x).symm ▸ f x⟩

section
variable {P : Program} {base : Nat} {all r : List Oper} {tm : List V} {hp : List IObj} {nb : Nat} {K : St → Prop} {d : Option Nat} {t : TypeId} {p : String} {af : Array Edge} {g : Option (Nat × Bool)}
theorem set_self {tm : List V} {i : Nat} {v : V} (h : tm[i]? = some v) : tm.set i v = tm := by
  apply List.ext_getElem?
  intro k
  rw [List.getElem?_set]
  split
  · rename_i e; subst e
    rw [h]; simp [(List.getElem?_eq_some_iff.1 h).1]
  · rfl
theorem f_move {x : Operand} : freeStep P base ⟨d, .move x, t, p, af, g⟩ ⟨tm, hp, nb⟩ K = K (St.put ⟨tm, hp, nb⟩ d (ev P t ⟨tm, hp, nb⟩ x).cp) := rfl
theorem f_assign {x : Operand} : freeStep P base ⟨d, .assign x, t, p, af, g⟩ ⟨tm, hp, nb⟩ K = K (St.put ⟨tm, hp, nb⟩ d (ev P t ⟨tm, hp, nb⟩ x).cp) := rfl
theorem f_load {u : TypeId} {x : Operand} : freeStep P base ⟨d, .load u x, t, p, af, g⟩ ⟨tm, hp, nb⟩ K = (match ev P 0 ⟨tm, hp, nb⟩ x with
    | .ptr id _ => id < base ∧ loadK P u (ev P 0 ⟨tm, hp, nb⟩ x) ⟨tm, hp, nb⟩ d false K
    | .aptr id _ _ _ => id < base ∧ loadK P u (ev P 0 ⟨tm, hp, nb⟩ x) ⟨tm, hp, nb⟩ d false K
    | v => loadK P u v ⟨tm, hp, nb⟩ d false K) := rfl
theorem f_extract {x : Operand} {ix : Nat} : freeStep P base ⟨d, .extract x ix, t, p, af, g⟩ ⟨tm, hp, nb⟩ K = (match ev P 0 ⟨tm, hp, nb⟩ x with
    | .tup vs => match vs[ix]? with
      | some v => v.isTup = false ∧ K (St.put ⟨tm, hp, nb⟩ d v.cp)
      | none => False
    | _ => False) := rfl
theorem f_call {c : Call} : freeStep P base ⟨d, .call c, t, p, af, g⟩ ⟨tm, hp, nb⟩ K = freeCall P c ⟨tm, hp, nb⟩ d K := rfl
theorem f_pick {c x y : Operand} : freeStep P base ⟨d, .pick c x y, t, p, af, g⟩ ⟨tm, hp, nb⟩ K = stepK P ⟨d, .pick c x y, t, p, af, g⟩ [] ⟨tm, hp, nb⟩ K := rfl
theorem f_alloc {u : TypeId} : freeStep P base ⟨d, .alloc u, t, p, af, g⟩ ⟨tm, hp, nb⟩ K = stepK P ⟨d, .alloc u, t, p, af, g⟩ [] ⟨tm, hp, nb⟩ K := rfl
theorem f_box {u : TypeId} {x : Operand} : freeStep P base ⟨d, .box u x, t, p, af, g⟩ ⟨tm, hp, nb⟩ K = stepK P ⟨d, .box u x, t, p, af, g⟩ [] ⟨tm, hp, nb⟩ K := rfl
theorem f_build {u : TypeId} {ps : Array (Nat × Operand)} : freeStep P base ⟨d, .build u ps, t, p, af, g⟩ ⟨tm, hp, nb⟩ K = stepK P ⟨d, .build u ps, t, p, af, g⟩ [] ⟨tm, hp, nb⟩ K := rfl
theorem f_buildSlice {u : TypeId} {n : Nat} {ps : Array (Nat × Operand)} : freeStep P base ⟨d, .buildSlice u n ps, t, p, af, g⟩ ⟨tm, hp, nb⟩ K = stepK P ⟨d, .buildSlice u n ps, t, p, af, g⟩ [] ⟨tm, hp, nb⟩ K := rfl
theorem f_makeSlice {u : TypeId} {x y : Operand} : freeStep P base ⟨d, .makeSlice u x y, t, p, af, g⟩ ⟨tm, hp, nb⟩ K = (match elemTy P u, elI P u, ev P 0 ⟨tm, hp, nb⟩ x, ev P 0 ⟨tm, hp, nb⟩ y with
  | some e, some (z, by_), .d (.int _ n), .d (.int _ m) => match (zeroCs P e).bind (ofCells P e) with
    | some zd => n = m ∧ 0 ≤ n ∧ by_ * n ≤ 281474976710656 ∧ n ≤ 9223372036854775807 ∧ d.isSome = true ∧ zd.flat.length = z ∧ 0 < z ∧ K (St.put ⟨tm, hp, nb⟩ d (.own z (List.replicate n.toNat zd)))
    | none => False
  | _, _, _, _ => False) := rfl
theorem f_bin {op : BinOp} {u u' : TypeId} {x y : Operand} : freeStep P base ⟨d, .binOp op u x y u', t, p, af, g⟩ ⟨tm, hp, nb⟩ K = (isNilC y = false ∧ stepK P ⟨d, .binOp op u x y u', t, p, af, g⟩ [] ⟨tm, hp, nb⟩ K) := rfl
theorem f_un {op : UnOp} {u : TypeId} {x : Operand} : freeStep P base ⟨d, .unOp op u x, t, p, af, g⟩ ⟨tm, hp, nb⟩ K = stepK P ⟨d, .unOp op u x, t, p, af, g⟩ [] ⟨tm, hp, nb⟩ K := rfl
theorem f_makeFunc {f : Fn} {fs cs : Array Operand} : freeStep P base ⟨d, .makeFunc f fs cs, t, p, af, g⟩ ⟨tm, hp, nb⟩ K = stepK P ⟨d, .makeFunc f fs cs, t, p, af, g⟩ [] ⟨tm, hp, nb⟩ K := rfl
theorem f_slice {u : TypeId} {x : Operand} {lo hi mx : Option Operand} : freeStep P base ⟨d, .slice u x lo hi mx, t, p, af, g⟩ ⟨tm, hp, nb⟩ K = stepK P ⟨d, .slice u x lo hi mx, t, p, af, g⟩ [] ⟨tm, hp, nb⟩ K := rfl
theorem f_fieldAddr {u : TypeId} {x : Operand} {f : Nat} : freeStep P base ⟨d, .fieldAddr u x f, t, p, af, g⟩ ⟨tm, hp, nb⟩ K = stepK P ⟨d, .fieldAddr u x f, t, p, af, g⟩ [] ⟨tm, hp, nb⟩ K := rfl
theorem f_field {u : TypeId} {x : Operand} {f : Nat} : freeStep P base ⟨d, .field u x f, t, p, af, g⟩ ⟨tm, hp, nb⟩ K = stepK P ⟨d, .field u x f, t, p, af, g⟩ [] ⟨tm, hp, nb⟩ K := rfl
theorem f_indexAddr {u : TypeId} {x i : Operand} : freeStep P base ⟨d, .indexAddr u x i, t, p, af, g⟩ ⟨tm, hp, nb⟩ K = (match (ev P u ⟨tm, hp, nb⟩ x).cp with
    | .ref id _ _ _ _ => id < base ∧ stepK P ⟨d, .indexAddr u x i, t, p, af, g⟩ [] ⟨tm, hp, nb⟩ K
    | _ => stepK P ⟨d, .indexAddr u x i, t, p, af, g⟩ [] ⟨tm, hp, nb⟩ K) := rfl
theorem f_lookup {u : TypeId} {x k : Operand} {ok : Bool} : freeStep P base ⟨d, .lookup u x k ok, t, p, af, g⟩ ⟨tm, hp, nb⟩ K = (match ev P u ⟨tm, hp, nb⟩ x with
    | .map id => id < base ∧ stepK P ⟨d, .lookup u x k ok, t, p, af, g⟩ [] ⟨tm, hp, nb⟩ K
    | _ => False) := rfl
theorem f_index {u : TypeId} {x i : Operand} : freeStep P base ⟨d, .index u x i, t, p, af, g⟩ ⟨tm, hp, nb⟩ K = stepK P ⟨d, .index u x i, t, p, af, g⟩ [] ⟨tm, hp, nb⟩ K := rfl
theorem f_convert {u u' : TypeId} {x : Operand} : freeStep P base ⟨d, .convert u u' x, t, p, af, g⟩ ⟨tm, hp, nb⟩ K = stepK P ⟨d, .convert u u' x, t, p, af, g⟩ [] ⟨tm, hp, nb⟩ K := rfl

/-- all of the region is free -/
theorem draw_all {Q : Ex → St → Prop} {id : Nat} {ops : Array Oper} {s : St} (hmo : P.follows .mixedOrders = true) (hd : drawOK ops.size ops.toList = true)
    (hk : freeK P s.hp.length ops.toList ops.toList s (Q .normal)) : SemC P (.region id ops true) Q s := by
  refine draw_sem ops.size hmo hd (Nat.le_refl _) ?_
  have e1 : ops.toList.take ops.size = ops.toList := by rw [← Array.length_toList, List.take_length]
  have e2 : ops.toList.drop ops.size = [] := by rw [← Array.length_toList, List.drop_length]
  rw [e1, e2]; exact hk

end

attribute [simp] V.bare LeS_mk LeL_nil LeL_cons LeV_un LeV_refl LeV_d LeV_own LeV_hold LeV_nil_hold LeV_own_d LeV_nil LeV_nil_own LeV_nil_d LeV_nil_ref LeV_ref LeV_ptr LeV_map V.lt V.ltL IObj.lt ltObjs
attribute [simp] f_makeSlice f_move f_assign f_load f_extract f_call f_pick f_alloc f_box f_build f_buildSlice f_bin f_un f_makeFunc f_slice f_fieldAddr f_field f_indexAddr f_convert f_lookup f_index kont1_run fc_val fc_len fc_append fc_min fc_max
attribute [simp] gd_tt gd_ff gd_tf gd_ft
attribute [simp] ofCells cp_skip gd_t gd_f R_cell
attribute [simp] x_move x_assign x_pick x_alloc x_box x_build x_buildSlice x_load x_store x_bin x_un x_makeFunc x_slice x_fieldAddr x_field x_indexAddr x_extract x_call x_convert x_makeSlice x_index x_makeMap x_lookup x_mapUpdate x_range x_next
attribute [simp] e_tmp e_const e_func c_int c_bool c_str c_nil c_ptr put_some put_none mv_false' mv_tmp mv_const mv_func
attribute [simp] cp_tup cp1_d cp1_own cp1_hold cp1_nil cp1_ref cp1_ptr cp1_st cp1_fn cp1_map cp_d cp_own cp_hold cp_ptr cp_lptr cp_aptr cp_un cp_fn cp_yld cp_nil cp_st cp_map cp_ref tup_d tup_own tup_hold tup_ptr tup_lptr tup_aptr tup_un tup_fn tup_yld tup_tup tup_nil tup_st tup_map tup_ref
attribute [simp] kn_d kn_own kn_hold kn_nil kn_st kn_map kn_ref kn_ptr kn_aptr kn_lptr kn_fn kn_yld kn_un
attribute [simp] t_normal t_ret t_exit b_normal b_ret b_exit kont_run k_val k_append k0_append k_copy k_clear k_cap k_delete k0_len k_len k_min k_max argVs_mk takes loadK storeK binK sliceK isZero sliceIx intOp partD partV V.flat D.flat St.at_ allD mkAgg allKnown V.d? fillD fillEl appBase ptrEq
attribute [simp] r_ret r_normal rh_ret rh_normal R_tmp Rs_nil Rs_cons LeR_tup LeR_d LeR_own LeR_nil LeRL Le1_d Le1_own Le1_own_d Le1_nil Le1_nil_own Le1_nil_d fz_d fz_own fz_hold fz_nil fz_ref fz_st fz_tup f2_d f2_own f2_hold f2_nil f2_ref f2_st f1_d f1_own f1_hold f1_nil f1_ref
attribute [simp] nc_tmp nc_int nc_bool nc_str nc_ptr nc_nil nc_fn nilK
attribute [simp] appendRefK appendNewK copyK clearK deleteK appElems elemsOf zeroEl lookupK mapUpdateK nextK lendL lendV lend1 lendL1
end Go.Idl
