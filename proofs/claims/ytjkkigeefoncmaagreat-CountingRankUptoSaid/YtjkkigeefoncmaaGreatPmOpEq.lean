/-
  Each operation's equation, and what it gives at data that is encoded.
-/
import Derived.Test.YtjkkigeefoncmaaGreatPmWalk
import Derived.Laws.Strings
set_option linter.unusedVariables false
set_option linter.unusedSimpArgs false
namespace Go.Pm
open Go

/-! ### operations -/
section
variable (E : Env) (C : Callee) (rd : Rd) (nid : Nat) (tm : List PV) (d : Option Nat) (ty : Nat) (ps : String) (af : Array Edge) (g : Option (Nat × Bool))

theorem op_tmp (t : Nat) : opnd tm (.tmp t) = some (nth tm t) := rfl
theorem op_const (v : Value) : opnd tm (.const v) = constPV v := rfl
theorem op_func (f : Nat) : opnd tm (.func f) = some (.fn f []) := rfl
theorem k_bool (b : Bool) : constPV (.bool b) = some (.bool b) := rfl
theorem k_int (k : IntKind) (n : Int) : constPV (.int k n) = some (.int k n) := rfl
theorem k_str (s : ByteArray) : constPV (.string s) = some (.str s) := rfl
theorem k_nilp : constPV (.pointer none) = some .nilp := rfl
theorem k_nils : constPV (.slice none 0 0) = some .nils := rfl
theorem k_nilf : constPV .nilFunc = some .nilf := rfl

theorem ev_move (x : Operand) : evOp E C rd nid tm ⟨d, .move x, ty, ps, af, g⟩ = (opnd tm x).map fun v => ⟨v, [], []⟩ := rfl
theorem ev_assign (x : Operand) : evOp E C rd nid tm ⟨d, .assign x, ty, ps, af, g⟩ = (opnd tm x).map fun v => ⟨v, [], []⟩ := rfl
def pickK (c a b : Option PV) : Option Eff := match c, a, b with
  | some (.bool c), some a, some b => ok (if c then a else b)
  | _, _, _ => none
theorem ev_pick (x a b : Operand) : evOp E C rd nid tm ⟨d, .pick x a b, ty, ps, af, g⟩ = pickK (opnd tm x) (opnd tm a) (opnd tm b) := rfl
theorem pick_t (a b : PV) : pickK (some (.bool true)) (some a) (some b) = some ⟨a, [], []⟩ := rfl
theorem pick_f (a b : PV) : pickK (some (.bool false)) (some a) (some b) = some ⟨b, [], []⟩ := rfl
theorem pick_b (c a b : Bool) : pickK (some (.bool c)) (some (.bool a)) (some (.bool b)) = some ⟨.bool (if c = true then a else b), [], []⟩ := by cases c <;> rfl
def allocK (nid : Nat) (t : Option TI) : Option Eff := match t with
  | some ti => some ⟨.ptr nid 0, [(nid, some (.box ti.zero))], []⟩
  | none => none
theorem ev_alloc (t : Nat) : evOp E C rd nid tm ⟨d, .alloc t, ty, ps, af, g⟩ = allocK nid (E.tab t) := rfl
theorem alloc_some (kd : TK) (s b : Nat) (z : List PV) (q : Bool) : allocK nid (some ⟨kd, s, b, z, q⟩) = some ⟨.ptr nid 0, [(nid, some (.box z))], []⟩ := rfl
def boxK (nid : Nat) (cs : Option (List PV)) : Option Eff := match cs with
  | some cs => some ⟨.ptr nid 0, [(nid, some (.box cs))], []⟩
  | none => none
theorem ev_box (t : Nat) (x : Operand) : evOp E C rd nid tm ⟨d, .box t x, ty, ps, af, g⟩ = boxK nid ((opnd tm x).bind cellsOf) := rfl
theorem box_some (cs : List PV) : boxK nid (some cs) = some ⟨.ptr nid 0, [(nid, some (.box cs))], []⟩ := rfl
theorem cl_agg (cs : List PV) : cellsOf (.agg cs) = some cs := rfl
theorem cl_int (k : IntKind) (n : Int) : cellsOf (.int k n) = some [.int k n] := rfl
theorem cl_bool (b : Bool) : cellsOf (.bool b) = some [.bool b] := rfl
theorem cl_str (s : ByteArray) : cellsOf (.str s) = some [.str s] := rfl
theorem cl_lit (xs : List (List PV)) (fl : Fl) : cellsOf (.lit xs fl) = some [.lit xs fl] := rfl
theorem cl_own (a k o n : Nat) : cellsOf (.own a k o n) = some [.own a k o n] := rfl
theorem cl_nils : cellsOf .nils = some [.nils] := rfl
theorem cl_ptr (a o : Nat) : cellsOf (.ptr a o) = some [.ptr a o] := rfl
theorem cl_fn (f : Nat) (cs : List PV) : cellsOf (.fn f cs) = some [.fn f cs] := rfl
theorem cl_nilp : cellsOf .nilp = some [.nilp] := rfl

def buildK (tab : Nat → Option TI) (t : Option TI) (ps : Option (List (Nat × PV))) : Option Eff := match t, ps with
  | some { kind := .struct fs, zero := z, .. }, some ps => (fillParts tab fs z ps).map fun cs => ⟨.agg cs, [], []⟩
  | some { kind := .array n e, zero := z, .. }, some ps =>
    match sizeAt tab e with
    | some sz => (fillParts tab ((List.range n).map fun i => (i * sz, e)) z ps).map fun cs => ⟨.agg cs, [], []⟩
    | none => none
  | _, _ => none
theorem ev_build (t : Nat) (parts : Array (Nat × Operand)) : evOp E C rd nid tm ⟨d, .build t parts, ty, ps, af, g⟩ = buildK E.tab (E.tab t) (opndp tm parts.toList) := rfl
theorem build_struct (tab : Nat → Option TI) (fs : List (Nat × Nat)) (s b : Nat) (z : List PV) (q : Bool) (ps : List (Nat × PV)) :
    buildK tab (some ⟨.struct fs, s, b, z, q⟩) (some ps) = (fillParts tab fs z ps).map fun cs => ⟨.agg cs, [], []⟩ := rfl
theorem build_array (tab : Nat → Option TI) (n e s b : Nat) (z : List PV) (q : Bool) (ps : List (Nat × PV)) :
    buildK tab (some ⟨.array n e, s, b, z, q⟩) (some ps) = match sizeAt tab e with
    | some sz => (fillParts tab ((List.range n).map fun i => (i * sz, e)) z ps).map fun cs => ⟨.agg cs, [], []⟩
    | none => none := rfl
def fillK (tab : Nat → Option TI) (fs : List (Nat × Nat)) (cells : List PV) (o : Option (Nat × Nat)) (v : PV) (r : List (Nat × PV)) : Option (List PV) :=
  match o with
  | some (off, ft) => match tab ft, cellsOf v with
    | some ti, some cs => if cs.length == ti.size && decide (off + cs.length ≤ cells.length) then fillParts tab fs (splice cells off cs) r else none
    | _, _ => none
  | none => none
theorem fill_nil (tab : Nat → Option TI) (fs : List (Nat × Nat)) (cells : List PV) : fillParts tab fs cells [] = some cells := rfl
theorem fill_cons (tab : Nat → Option TI) (fs : List (Nat × Nat)) (cells : List PV) (i : Nat) (v : PV) (r : List (Nat × PV)) :
    fillParts tab fs cells ((i, v) :: r) = fillK tab fs cells fs[i]? v r := rfl
def fillJ (tab : Nat → Option TI) (fs : List (Nat × Nat)) (cells : List PV) (off : Nat) (t : Option TI) (cs : Option (List PV)) (r : List (Nat × PV)) : Option (List PV) :=
  match t, cs with
  | some ti, some cs => if cs.length == ti.size && decide (off + cs.length ≤ cells.length) then fillParts tab fs (splice cells off cs) r else none
  | _, _ => none
theorem fillK_some (tab : Nat → Option TI) (fs : List (Nat × Nat)) (cells : List PV) (off ft : Nat) (v : PV) (r : List (Nat × PV)) :
    fillK tab fs cells (some (off, ft)) v r = fillJ tab fs cells off (tab ft) (cellsOf v) r := by
  simp only [fillK, fillJ]
theorem fillJ_some (tab : Nat → Option TI) (fs : List (Nat × Nat)) (cells : List PV) (off : Nat) (kd : TK) (s b : Nat) (z : List PV) (q : Bool) (cs : List PV) (r : List (Nat × PV)) :
    fillJ tab fs cells off (some ⟨kd, s, b, z, q⟩) (some cs) r = if (cs.length == s && decide (off + cs.length ≤ cells.length)) = true then fillParts tab fs (splice cells off cs) r else none := rfl

def bsliceK (tab : Nat → Option TI) (rd : Rd) (nid n : Nat) (inO : Bool) (t : Option TI) (vs : Option (List PV)) : Option Eff :=
  match t, vs with
  | some { kind := .slice e, .. }, some vs =>
    match tab e with
    | some ti => if inO && vs.length == n && decide (n * ti.size ≤ 4096) && decide (0 < ti.size) then
        match settleAll rd ti.size vs with
        | some (rows, fz, flat) => some ⟨.own nid ti.size 0 n, freezes rd fz ++ [(nid, some (.arr ti.size rows flat false))], fz⟩
        | none => none
      else none
    | none => none
  | _, _ => none
theorem ev_bslice (t n : Nat) (parts : Array (Nat × Operand)) : evOp E C rd nid tm ⟨d, .buildSlice t n parts, ty, ps, af, g⟩ = bsliceK E.tab rd nid n (inOrder 0 parts.toList) (E.tab t) (opnds tm parts.toList) := rfl
def bsliceJ (rd : Rd) (nid n : Nat) (inO : Bool) (t : Option TI) (vs : List PV) : Option Eff :=
  match t with
  | some ti => if inO && vs.length == n && decide (n * ti.size ≤ 4096) && decide (0 < ti.size) then
      match settleAll rd ti.size vs with
      | some (rows, fz, flat) => some ⟨.own nid ti.size 0 n, freezes rd fz ++ [(nid, some (.arr ti.size rows flat false))], fz⟩
      | none => none
    else none
  | none => none
theorem bslice_s (tab : Nat → Option TI) (n : Nat) (i : Bool) (e s b : Nat) (z : List PV) (q : Bool) (vs : List PV) :
    bsliceK tab rd nid n i (some ⟨.slice e, s, b, z, q⟩) (some vs) = bsliceJ rd nid n i (tab e) vs := rfl
def bsliceL (rd : Rd) (nid n sz : Nat) (x : Option (List (List PV) × List Nat × Bool)) : Option Eff :=
  match x with
  | some (rows, fz, flat) => some ⟨.own nid sz 0 n, freezes rd fz ++ [(nid, some (.arr sz rows flat false))], fz⟩
  | none => none
theorem bslice_j (n : Nat) (i : Bool) (kd : TK) (s b : Nat) (z : List PV) (q : Bool) (vs : List PV) :
    bsliceJ rd nid n i (some ⟨kd, s, b, z, q⟩) vs = if (i && vs.length == n && decide (n * s ≤ 4096) && decide (0 < s)) = true then bsliceL rd nid n s (settleAll rd s vs) else none := by
  simp only [bsliceJ, bsliceL]
theorem bslice_l (n s : Nat) (rows : List (List PV)) (fz : List Nat) (fl : Bool) : bsliceL rd nid n s (some (rows, fz, fl)) = some ⟨.own nid s 0 n, freezes rd fz ++ [(nid, some (.arr s rows fl false))], fz⟩ := rfl

def loadK (rd : Rd) (t : Option TI) (p : Option PV) : Option Eff := match t, p with
  | some ti, some p => loadAt rd ti p
  | _, _ => none
theorem ev_load (t : Nat) (p : Operand) : evOp E C rd nid tm ⟨d, .load t p, ty, ps, af, g⟩ = loadK rd (E.tab t) (opnd tm p) := rfl
/-- A value out of cells, as an effect. -/
def ldC (t : TI) (cs : List PV) (ft : List Nat) : Option Eff := (ofCells t cs).map fun v => ⟨v, [], ft⟩
theorem ldC_struct (fs : List (Nat × Nat)) (s b : Nat) (z : List PV) (q : Bool) (cs : List PV) (ft : List Nat) :
    ldC ⟨.struct fs, s, b, z, q⟩ cs ft = if cs.length = s then some ⟨.agg cs, [], ft⟩ else none := by
  simp only [ldC, ofCells, isAggK]
  by_cases h : cs.length = s <;> simp [h]
theorem ldC_array (n e : Nat) (s b : Nat) (z : List PV) (q : Bool) (cs : List PV) (ft : List Nat) :
    ldC ⟨.array n e, s, b, z, q⟩ cs ft = if cs.length = s then some ⟨.agg cs, [], ft⟩ else none := by
  simp only [ldC, ofCells, isAggK]
  by_cases h : cs.length = s <;> simp [h]
theorem ldC_int (k : IntKind) (s b : Nat) (z : List PV) (q : Bool) (v : PV) (ft : List Nat) : ldC ⟨.int k, s, b, z, q⟩ [v] ft = some ⟨v, [], ft⟩ := rfl
theorem ldC_bool (s b : Nat) (z : List PV) (q : Bool) (v : PV) (ft : List Nat) : ldC ⟨.bool, s, b, z, q⟩ [v] ft = some ⟨v, [], ft⟩ := rfl
theorem ldC_str (s b : Nat) (z : List PV) (q : Bool) (v : PV) (ft : List Nat) : ldC ⟨.str, s, b, z, q⟩ [v] ft = some ⟨v, [], ft⟩ := rfl
theorem ldC_slice (e s b : Nat) (z : List PV) (q : Bool) (v : PV) (ft : List Nat) : ldC ⟨.slice e, s, b, z, q⟩ [v] ft = some ⟨v, [], ft⟩ := rfl
theorem ldC_ptr (s b : Nat) (z : List PV) (q : Bool) (v : PV) (ft : List Nat) : ldC ⟨.ptr, s, b, z, q⟩ [v] ft = some ⟨v, [], ft⟩ := rfl
theorem ldC_func (s b : Nat) (z : List PV) (q : Bool) (v : PV) (ft : List Nat) : ldC ⟨.func, s, b, z, q⟩ [v] ft = some ⟨v, [], ft⟩ := rfl
def ldB (ti : TI) (a o : Nat) (b : Option PObj) : Option Eff := match b with
  | some (.box cs) => ldC ti (slab cs o ti.size) [a]
  | _ => none
theorem load_ptr (ti : TI) (a o : Nat) : loadK rd (some ti) (some (.ptr a o)) = ldB ti a o (rd a) := by
  simp only [loadK, loadAt, ldB, ldC]
  cases rd a with
  | none => rfl
  | some p => cases p <;> rfl
theorem ldB_box (kd : TK) (s b : Nat) (z : List PV) (q : Bool) (a o : Nat) (cs : List PV) : ldB ⟨kd, s, b, z, q⟩ a o (some (.box cs)) = ldC ⟨kd, s, b, z, q⟩ (slab cs o s) [a] := rfl
theorem load_eptr (kd : TK) (s b : Nat) (z : List PV) (q : Bool) (cs : List PV) (o : Nat) : loadK rd (some ⟨kd, s, b, z, q⟩) (some (.eptr [cs] 0 o)) = ldC ⟨kd, s, b, z, q⟩ (slab cs o s) [] := rfl
def ldA (ti : TI) (a i o : Nat) (b : Option PObj) : Option Eff := match b with
  | some (.arr _ xs _ _) => (xs[i]?).bind fun cs => ldC ti (slab cs o ti.size) [a]
  | _ => none
theorem load_aptr (ti : TI) (a i o : Nat) : loadK rd (some ti) (some (.aptr a i o)) = ldA ti a i o (rd a) := by
  simp only [loadK, loadAt, ldA, ldC]
  cases rd a with
  | none => rfl
  | some p => cases p with
    | box cs => rfl
    | arr k xs fl fz => simp only; cases xs[i]? <;> rfl
theorem ldA_arr (kd : TK) (s b : Nat) (z : List PV) (q : Bool) (a i o k : Nat) (xs : List (List PV)) (fl fz : Bool) :
    ldA ⟨kd, s, b, z, q⟩ a i o (some (.arr k xs fl fz)) = (xs[i]?).bind fun cs => ldC ⟨kd, s, b, z, q⟩ (slab cs o s) [a] := rfl

def storeK (rd : Rd) (t : Option TI) (p v : Option PV) : Option Eff := match t, p, v with
  | some ti, some p, some v => storeAt rd ti p v
  | _, _, _ => none
theorem ev_store (t : Nat) (p v : Operand) : evOp E C rd nid tm ⟨d, .store t p v, ty, ps, af, g⟩ = storeK rd (E.tab t) (opnd tm p) (opnd tm v) := rfl
def stB (a o s : Nat) (b : Option PObj) (vs : Option (List PV)) : Option Eff := match b, vs with
  | some (.box cs), some vs => if vs.length = s ∧ o + vs.length ≤ cs.length then some ⟨.void, [(a, some (.box (splice cs o vs)))], [a]⟩ else none
  | _, _ => none
theorem store_ptr (kd : TK) (s b : Nat) (z : List PV) (q : Bool) (a o : Nat) (v : PV) : storeK rd (some ⟨kd, s, b, z, q⟩) (some (.ptr a o)) (some v) = stB a o s (rd a) (cellsOf v) := by
  simp only [storeK, storeAt, stB]
  cases cellsOf v with
  | none => cases rd a with
    | none => rfl
    | some p => cases p <;> rfl
  | some vs =>
    cases rd a with
    | none => by_cases h : vs.length = s <;> simp [h]
    | some p => cases p <;> by_cases h : vs.length = s <;> simp [h]
theorem stB_box (a o s : Nat) (cs vs : List PV) : stB a o s (some (.box cs)) (some vs) = if vs.length = s ∧ o + vs.length ≤ cs.length then some ⟨.void, [(a, some (.box (splice cs o vs)))], [a]⟩ else none := rfl
def stA (rd : Rd) (a i o s : Nat) (b : Option PObj) (vs : Option (List PV)) : Option Eff := match b, vs with
  | some (.arr k xs flat false), some vs => if vs.length = s then
      (xs[i]?).bind fun cs => match settle rd vs with
      | some (ws, fz) => if (decide (o + ws.length ≤ cs.length) && !has fz a && !ws.isEmpty) = true then some ⟨.void, freezes rd fz ++ [(a, some (.arr k (setNth xs i (splice cs o ws)) (flat && allPlain ws) false))], a :: fz⟩ else none
      | none => none
    else none
  | _, _ => none
theorem store_aptr (kd : TK) (s b : Nat) (z : List PV) (q : Bool) (a i o : Nat) (v : PV) : storeK rd (some ⟨kd, s, b, z, q⟩) (some (.aptr a i o)) (some v) = stA rd a i o s (rd a) (cellsOf v) := by
  simp only [storeK, storeAt, stA]
  cases cellsOf v with
  | none => cases rd a with
    | none => rfl
    | some p => cases p with
      | box => rfl
      | arr k xs fl fz => cases fz <;> rfl
  | some vs =>
    cases rd a with
    | none => by_cases h : vs.length = s <;> simp [h]
    | some p => cases p with
      | box => by_cases h : vs.length = s <;> simp [h]
      | arr k xs fl fz => cases fz with
        | true => by_cases h : vs.length = s <;> simp [h]
        | false =>
          by_cases h : vs.length = s
          · simp only [h, beq_self_eq_true, ↓reduceIte]
            cases xs[i]? with
            | none => rfl
            | some cs => cases hs : settle rd vs <;> rfl
          · simp [h]
def stC (rd : Rd) (a i o k : Nat) (xs : List (List PV)) (flat : Bool) (cs : List PV) (x : Option (List PV × List Nat)) : Option Eff := match x with
  | some (ws, fz) => if (decide (o + ws.length ≤ cs.length) && !has fz a && !ws.isEmpty) = true then some ⟨.void, freezes rd fz ++ [(a, some (.arr k (setNth xs i (splice cs o ws)) (flat && allPlain ws) false))], a :: fz⟩ else none
  | none => none
theorem stA_arr (a i o s k : Nat) (xs : List (List PV)) (flat : Bool) (vs : List PV) :
    stA rd a i o s (some (.arr k xs flat false)) (some vs) = if vs.length = s then (xs[i]?).bind fun cs => stC rd a i o k xs flat cs (settle rd vs) else none := rfl
theorem stC_some (a i o k : Nat) (xs : List (List PV)) (flat : Bool) (cs ws : List PV) (fz : List Nat) :
    stC rd a i o k xs flat cs (some (ws, fz)) = if (decide (o + ws.length ≤ cs.length) && !has fz a && !ws.isEmpty) = true then some ⟨.void, freezes rd fz ++ [(a, some (.arr k (setNth xs i (splice cs o ws)) (flat && allPlain ws) false))], a :: fz⟩ else none := rfl

def nilK (p : Option PV) : Option Eff := match p with
  | some (.ptr a o) => ok (.ptr a o)
  | some (.aptr a i o) => ok (.aptr a i o)
  | some (.eptr xs i o) => ok (.eptr xs i o)
  | some (.fn f cs) => ok (.fn f cs)
  | _ => none
theorem ev_nilCheck (x : Operand) : evOp E C rd nid tm ⟨d, .nilCheck x, ty, ps, af, g⟩ = nilK (opnd tm x) := by
  simp only [evOp, evBasic, nilK]
  cases opnd tm x with
  | none => rfl
  | some p => cases p <;> rfl
theorem nil_ptr (a o : Nat) : nilK (some (.ptr a o)) = some ⟨.ptr a o, [], []⟩ := rfl
theorem nil_aptr (a i o : Nat) : nilK (some (.aptr a i o)) = some ⟨.aptr a i o, [], []⟩ := rfl
theorem nil_eptr (xs : List (List PV)) (i o : Nat) : nilK (some (.eptr xs i o)) = some ⟨.eptr xs i o, [], []⟩ := rfl
theorem nil_fn (f : Nat) (cs : List PV) : nilK (some (.fn f cs)) = some ⟨.fn f cs, [], []⟩ := rfl

def binK (t : Option TI) (o : BinOp) (x y : Option PV) : Option Eff := match x, y with
  | some x, some y => (binPV t o x y).map fun v => ⟨v, [], []⟩
  | _, _ => none
theorem ev_bin (o : BinOp) (t t' : Nat) (x y : Operand) : evOp E C rd nid tm ⟨d, .binOp o t x y t', ty, ps, af, g⟩ = binK (E.tab t) o (opnd tm x) (opnd tm y) := rfl
section
variable (t : Option TI) (k : IntKind) (a b : Int)
theorem bin_eql : binK t .eql (some (.int k a)) (some (.int k b)) = some ⟨.bool (a == b), [], []⟩ := by simp [binK, binPV, eqPV]
theorem bin_neq : binK t .neq (some (.int k a)) (some (.int k b)) = some ⟨.bool (!(a == b)), [], []⟩ := by simp [binK, binPV, eqPV]
theorem bin_add : binK t .add (some (.int k a)) (some (.int k b)) = some ⟨.int k (k.wrap (a + b)), [], []⟩ := by simp [binK, binPV]
theorem bin_sub : binK t .sub (some (.int k a)) (some (.int k b)) = some ⟨.int k (k.wrap (a - b)), [], []⟩ := by simp [binK, binPV]
theorem bin_mul : binK t .mul (some (.int k a)) (some (.int k b)) = some ⟨.int k (k.wrap (a * b)), [], []⟩ := by simp [binK, binPV]
theorem bin_quo : binK t .quo (some (.int k a)) (some (.int k b)) = if (b == 0) = true then none else some ⟨.int k (k.wrap (a.tdiv b)), [], []⟩ := by
  simp only [binK, binPV, ↓reduceIte]; by_cases h : b = 0 <;> simp [h]
theorem bin_rem : binK t .rem (some (.int k a)) (some (.int k b)) = if (b == 0) = true then none else some ⟨.int k (a.tmod b), [], []⟩ := by
  simp only [binK, binPV, ↓reduceIte]; by_cases h : b = 0 <;> simp [h]
theorem bin_lss : binK t .lss (some (.int k a)) (some (.int k b)) = some ⟨.bool (decide (a < b)), [], []⟩ := by simp [binK, binPV]
theorem bin_leq : binK t .leq (some (.int k a)) (some (.int k b)) = some ⟨.bool (decide (a ≤ b)), [], []⟩ := by simp [binK, binPV]
theorem bin_gtr : binK t .gtr (some (.int k a)) (some (.int k b)) = some ⟨.bool (decide (b < a)), [], []⟩ := by simp [binK, binPV]
theorem bin_geq : binK t .geq (some (.int k a)) (some (.int k b)) = some ⟨.bool (decide (b ≤ a)), [], []⟩ := by simp [binK, binPV]
theorem bin_shr (k' : IntKind) : binK t .shr (some (.int k a)) (some (.int k' b)) = if decide (0 ≤ b) = true then some ⟨.int k (a.fdiv (2 ^ min b.toNat k.bits)), [], []⟩ else none := by
  simp only [binK, binPV]; by_cases h : 0 ≤ b <;> simp [h]
theorem bin_shl (k' : IntKind) : binK t .shl (some (.int k a)) (some (.int k' b)) = if decide (0 ≤ b) = true then some ⟨.int k (k.wrap (a * 2 ^ min b.toNat k.bits)), [], []⟩ else none := by
  simp only [binK, binPV]; by_cases h : 0 ≤ b <;> simp [h]
theorem str_beq (a b : ByteArray) : (a.toList == b.toList) = decide (a = b) := by
  have h : a.toList = b.toList ↔ a = b := by
    constructor
    · intro h
      have h1 : a.data.toList = b.data.toList := by
        rw [← ByteArray.toList_eq, ← ByteArray.toList_eq]; exact h
      exact ByteArray.ext (Array.toList_inj.1 h1)
    · rintro rfl; rfl
  by_cases hc : a = b
  · simp [hc]
  · simp [hc, h]
theorem bin_eqs (a b : ByteArray) : binK t .eql (some (.str a)) (some (.str b)) = some ⟨.bool (decide (a = b)), [], []⟩ := by simp only [binK, binPV, eqPV, Option.map_some, str_beq]
theorem bin_nes (a b : ByteArray) : binK t .neq (some (.str a)) (some (.str b)) = some ⟨.bool (!decide (a = b)), [], []⟩ := by simp only [binK, binPV, eqPV, Option.map_some, str_beq]
theorem bin_addstr (a b : ByteArray) : binK t .add (some (.str a)) (some (.str b)) = none := rfl
theorem bin_eqb (s b' : Nat) (z : List PV) (q : Bool) (a b : Bool) : binK (some ⟨.bool, s, b', z, q⟩) .eql (some (.bool a)) (some (.bool b)) = some ⟨.bool (a == b), [], []⟩ := rfl
theorem bin_neb (s b' : Nat) (z : List PV) (q : Bool) (a b : Bool) : binK (some ⟨.bool, s, b', z, q⟩) .neq (some (.bool a)) (some (.bool b)) = some ⟨.bool (!(a == b)), [], []⟩ := rfl
theorem bin_eqa (fs : List (Nat × Nat)) (s b' : Nat) (z : List PV) (xs ys : List PV) : binK (some ⟨.struct fs, s, b', z, true⟩) .eql (some (.agg xs)) (some (.agg ys)) = (eqCells xs ys).map fun b => ⟨.bool b, [], []⟩ := by
  simp only [binK, binPV, eqPV, ↓reduceIte, Option.map_map]; rfl
theorem bin_nea (fs : List (Nat × Nat)) (s b' : Nat) (z : List PV) (xs ys : List PV) : binK (some ⟨.struct fs, s, b', z, true⟩) .neq (some (.agg xs)) (some (.agg ys)) = (eqCells xs ys).map fun b => ⟨.bool (!b), [], []⟩ := by
  simp only [binK, binPV, eqPV, ↓reduceIte, Option.map_map]; rfl
theorem eqc_nil : eqCells [] [] = some true := rfl
theorem eqc_int (xs ys : List PV) : eqCells (.int k a :: xs) (.int k b :: ys) = (eqCells xs ys).map fun r => (a == b) && r := by
  simp only [eqCells, eqCell, ↓reduceIte]; cases eqCells xs ys <;> rfl
theorem eqc_bool (a b : Bool) (xs ys : List PV) : eqCells (.bool a :: xs) (.bool b :: ys) = (eqCells xs ys).map fun r => (a == b) && r := by
  simp only [eqCells, eqCell]; cases eqCells xs ys <;> rfl
theorem eqc_str (a b : ByteArray) (xs ys : List PV) : eqCells (.str a :: xs) (.str b :: ys) = (eqCells xs ys).map fun r => decide (a = b) && r := by
  simp only [eqCells, eqCell]
  have : (a == b) = decide (a = b) := by
    have h0 : (a == b) = (a.data == b.data) := rfl
    rw [h0]
    by_cases h : a = b
    · simp [h]
    · have : a.data ≠ b.data := fun h' => h (ByteArray.ext h')
      simp [h, this]
  rw [this]
  cases eqCells xs ys <;> rfl
end
def unK (o : UnOp) (x : Option PV) : Option Eff := match x with
  | some x => (unPV o x).map fun v => ⟨v, [], []⟩
  | none => none
theorem ev_un (o : UnOp) (t : Nat) (x : Operand) : evOp E C rd nid tm ⟨d, .unOp o t x, ty, ps, af, g⟩ = unK o (opnd tm x) := rfl
theorem un_not (b : Bool) : unK .not (some (.bool b)) = some ⟨.bool (!b), [], []⟩ := rfl
theorem un_neg (k : IntKind) (n : Int) : unK .neg (some (.int k n)) = some ⟨.int k (k.wrap (0 - n)), [], []⟩ := rfl
def convK (s t : Option TI) (x : Option PV) : Option Eff := match s, t, x with
  | some { kind := .int _, .. }, some { kind := .int k, .. }, some (.int _ n) => ok (.int k (k.wrap n))
  | _, _, _ => none
theorem ev_conv (s t : Nat) (x : Operand) : evOp E C rd nid tm ⟨d, .convert s t x, ty, ps, af, g⟩ = convK (E.tab s) (E.tab t) (opnd tm x) := rfl
theorem conv_int (k k' k'' : IntKind) (s b : Nat) (z : List PV) (q : Bool) (s' b' : Nat) (z' : List PV) (q' : Bool) (n : Int) :
    convK (some ⟨.int k, s, b, z, q⟩) (some ⟨.int k', s', b', z', q'⟩) (some (.int k'' n)) = some ⟨.int k' (k'.wrap n), [], []⟩ := rfl
def mfK (f : Nat) (cs : Option (List PV)) : Option Eff := cs.map fun cs => ⟨.fn f cs, [], []⟩
theorem ev_makeFunc (f : Nat) (caps : Array Operand) : evOp E C rd nid tm ⟨d, .makeFunc (.func f) #[] caps, ty, ps, af, g⟩ = mfK f (opndl tm caps.toList) := rfl
theorem mf_some (f : Nat) (cs : List PV) : mfK f (some cs) = some ⟨.fn f cs, [], []⟩ := rfl
def mkK (tab : Nat → Option TI) (nid : Nat) (t : Option TI) (l c : Option PV) : Option Eff := match t, l, c with
  | some { kind := .slice e, .. }, some (.int .i64 l), some (.int .i64 c) =>
    match tab e with
    | some ti => if 0 ≤ l ∧ l ≤ c ∧ c ≤ bound ∧ ti.bytes ≤ 4096 then
        some ⟨.own nid ti.size 0 l.toNat, [(nid, some (.arr ti.size (zeroRow ti l.toNat) false false))], []⟩
      else none
    | none => none
  | _, _, _ => none
theorem ev_makeSlice (t : Nat) (l c : Operand) : evOp E C rd nid tm ⟨d, .makeSlice t l c, ty, ps, af, g⟩ = mkK E.tab nid (E.tab t) (opnd tm l) (opnd tm c) := rfl
def mkJ (nid : Nat) (t : Option TI) (l c : Int) : Option Eff := match t with
  | some ti => if 0 ≤ l ∧ l ≤ c ∧ c ≤ bound ∧ ti.bytes ≤ 4096 then
      some ⟨.own nid ti.size 0 l.toNat, [(nid, some (.arr ti.size (zeroRow ti l.toNat) false false))], []⟩
    else none
  | none => none
theorem mkK_s (tab : Nat → Option TI) (e s b : Nat) (z : List PV) (q : Bool) (l c : Int) : mkK tab nid (some ⟨.slice e, s, b, z, q⟩) (some (.int .i64 l)) (some (.int .i64 c)) = mkJ nid (tab e) l c := rfl
theorem mkJ_s (kd : TK) (s b : Nat) (z : List PV) (q : Bool) (l : Int) : mkJ nid (some ⟨kd, s, b, z, q⟩) l l =
    if decide (0 ≤ l ∧ l ≤ bound) = true then (if b ≤ 4096 then some ⟨.own nid s 0 (List.replicate l.toNat z).length, [(nid, some (.arr s (List.replicate l.toNat z) false false))], []⟩ else none) else none := by
  simp only [mkJ, zeroRow, List.length_replicate, Int.le_refl, true_and, decide_eq_true_eq]
  by_cases h1 : 0 ≤ l <;> by_cases h2 : l ≤ bound <;> by_cases h3 : b ≤ 4096 <;> simp [h1, h2, h3]
def sliceK (tab : Nat → Option TI) (t : Nat) (x : Option PV) (lo hi : Option (Option PV)) : Option Eff := match x, lo, hi with
  | some x, some lo, some hi => cutAt tab t x lo hi
  | _, _, _ => none
theorem ev_slice_nn (t : Nat) (x : Operand) : evOp E C rd nid tm ⟨d, .slice t x none none none, ty, ps, af, g⟩ = sliceK E.tab t (opnd tm x) (some none) (some none) := rfl
theorem ev_slice_ln (t : Nat) (x l : Operand) : evOp E C rd nid tm ⟨d, .slice t x (some l) none none, ty, ps, af, g⟩ = sliceK E.tab t (opnd tm x) ((opnd tm l).map some) (some none) := rfl
theorem ev_slice_nh (t : Nat) (x h : Operand) : evOp E C rd nid tm ⟨d, .slice t x none (some h) none, ty, ps, af, g⟩ = sliceK E.tab t (opnd tm x) (some none) ((opnd tm h).map some) := rfl
theorem ev_slice_lh (t : Nat) (x l h : Operand) : evOp E C rd nid tm ⟨d, .slice t x (some l) (some h) none, ty, ps, af, g⟩ = sliceK E.tab t (opnd tm x) ((opnd tm l).map some) ((opnd tm h).map some) := rfl
theorem slice_some (tab : Nat → Option TI) (t : Nat) (x : PV) (lo hi : Option PV) : sliceK tab t (some x) (some lo) (some hi) = cutAt tab t x lo hi := rfl

def faK (tab : Nat → Option TI) (f : Nat) (s : Option TI) (p : Option PV) : Option Eff := match s, p with
  | some { kind := .struct fs, .. }, some p => match fs[f]? with
    | some (off, ft) => match tab ft with
      | some ti => if ti.size == 0 then none else
        match p with
        | .ptr a o => ok (.ptr a (o + off))
        | .aptr a i o => ok (.aptr a i (o + off))
        | .eptr xs i o => ok (.eptr xs i (o + off))
        | _ => none
      | none => none
    | none => none
  | _, _ => none
theorem ev_fieldAddr (s : Nat) (x : Operand) (f : Nat) : evOp E C rd nid tm ⟨d, .fieldAddr s x f, ty, ps, af, g⟩ = faK E.tab f (E.tab s) (opnd tm x) := by
  simp only [evOp, evBasic, fieldAddrAt, fieldOff, faK]
  cases opnd tm x with
  | none => simp only; cases E.tab s with
    | none => rfl
    | some ti => obtain ⟨kd, s, b, z, q⟩ := ti; cases kd <;> rfl
  | some p =>
    cases E.tab s with
    | none => rfl
    | some ti => obtain ⟨kd, s, b, z, q⟩ := ti; cases kd <;> rfl
def faJ (off : Nat) (t : Option TI) (p : PV) : Option Eff := match t with
  | some ti => if ti.size == 0 then none else
    match p with
    | .ptr a o => ok (.ptr a (o + off))
    | .aptr a i o => ok (.aptr a i (o + off))
    | .eptr xs i o => ok (.eptr xs i (o + off))
    | _ => none
  | none => none
def faI (tab : Nat → Option TI) (o : Option (Nat × Nat)) (p : PV) : Option Eff := match o with
  | some (off, ft) => faJ off (tab ft) p
  | none => none
theorem faK_s (tab : Nat → Option TI) (f : Nat) (fs : List (Nat × Nat)) (s b : Nat) (z : List PV) (q : Bool) (p : PV) : faK tab f (some ⟨.struct fs, s, b, z, q⟩) (some p) = faI tab fs[f]? p := rfl
theorem faI_s (tab : Nat → Option TI) (off ft : Nat) (p : PV) : faI tab (some (off, ft)) p = faJ off (tab ft) p := rfl
theorem faJ_ptr (off : Nat) (kd : TK) (s b : Nat) (z : List PV) (q : Bool) (a o : Nat) : faJ off (some ⟨kd, s + 1, b, z, q⟩) (.ptr a o) = some ⟨.ptr a (o + off), [], []⟩ := rfl
theorem faJ_aptr (off : Nat) (kd : TK) (s b : Nat) (z : List PV) (q : Bool) (a i o : Nat) : faJ off (some ⟨kd, s + 1, b, z, q⟩) (.aptr a i o) = some ⟨.aptr a i (o + off), [], []⟩ := rfl
theorem faJ_eptr (off : Nat) (kd : TK) (s b : Nat) (z : List PV) (q : Bool) (xs : List (List PV)) (i o : Nat) : faJ off (some ⟨kd, s + 1, b, z, q⟩) (.eptr xs i o) = some ⟨.eptr xs i (o + off), [], []⟩ := rfl

def fdK (tab : Nat → Option TI) (f : Nat) (s : Option TI) (v : Option PV) : Option Eff := match s, v with
  | some { kind := .struct fs, .. }, some (.agg cs) => match fs[f]? with
    | some (off, ft) => match tab ft with
      | some ti => ldC ti (slab cs off ti.size) []
      | none => none
    | none => none
  | _, _ => none
theorem ev_field (s : Nat) (x : Operand) (f : Nat) : evOp E C rd nid tm ⟨d, .field s x f, ty, ps, af, g⟩ = fdK E.tab f (E.tab s) (opnd tm x) := by
  simp only [evOp, evBasic, fieldAt, fieldOff, fdK, ldC]
  cases opnd tm x with
  | none => simp only; cases E.tab s with
    | none => rfl
    | some ti => obtain ⟨kd, s, b, z, q⟩ := ti; cases kd <;> rfl
  | some p =>
    cases E.tab s with
    | none => rfl
    | some ti =>
      obtain ⟨kd, s, b, z, q⟩ := ti
      cases kd with
      | struct fs =>
        cases p <;> simp only
        all_goals (cases fs[f]? with
        | none => rfl
        | some o => obtain ⟨off, ft⟩ := o; rfl)
      | _ => rfl
def fdI (tab : Nat → Option TI) (o : Option (Nat × Nat)) (cs : List PV) : Option Eff := match o with
  | some (off, ft) => match tab ft with
    | some ti => ldC ti (slab cs off ti.size) []
    | none => none
  | none => none
def fdJ (off : Nat) (t : Option TI) (cs : List PV) : Option Eff := match t with
  | some ti => ldC ti (slab cs off ti.size) []
  | none => none
theorem fdK_s (tab : Nat → Option TI) (f : Nat) (fs : List (Nat × Nat)) (s b : Nat) (z : List PV) (q : Bool) (cs : List PV) : fdK tab f (some ⟨.struct fs, s, b, z, q⟩) (some (.agg cs)) = fdI tab fs[f]? cs := rfl
theorem fdI_s (tab : Nat → Option TI) (off ft : Nat) (cs : List PV) : fdI tab (some (off, ft)) cs = fdJ off (tab ft) cs := rfl
theorem fdJ_s (off : Nat) (kd : TK) (s b : Nat) (z : List PV) (q : Bool) (cs : List PV) : fdJ off (some ⟨kd, s, b, z, q⟩) cs = ldC ⟨kd, s, b, z, q⟩ (slab cs off s) [] := rfl

def ixK (tab : Nat → Option TI) (t : Option TI) (x i : Option PV) : Option Eff := match t, x, i with
  | some { kind := .slice e, .. }, some x, some (.int _ i) =>
    match tab e with
    | some ti =>
      match x with
      | .own a k off len => if k == ti.size && decide (0 ≤ i) && decide (i < len) then ok (.aptr a (off + i.toNat) 0) else none
      | .lit xs _ => if 0 ≤ i then match xs[i.toNat]? with
          | some cs => if cs.length == ti.size then ok (.eptr [cs] 0 0) else none
          | none => none
        else none
      | _ => none
    | none => none
  | some { kind := .array n e, .. }, some x, some (.int _ i) =>
    match tab e with
    | some ti => if decide (0 ≤ i) && decide (i < n) then
        match x with
        | .ptr a o => ok (.ptr a (o + i.toNat * ti.size))
        | .aptr a j o => ok (.aptr a j (o + i.toNat * ti.size))
        | .eptr xs j o => ok (.eptr xs j (o + i.toNat * ti.size))
        | _ => none
      else none
    | none => none
  | _, _, _ => none
theorem ev_indexAddr (t : Nat) (x i : Operand) : evOp E C rd nid tm ⟨d, .indexAddr t x i, ty, ps, af, g⟩ = ixK E.tab (E.tab t) (opnd tm x) (opnd tm i) := by
  simp only [evOp, evBasic, ixK]
  cases opnd tm x with
  | none => cases E.tab t with
    | none => rfl
    | some ti => obtain ⟨kd, s, b, z, q⟩ := ti; cases kd <;> rfl
  | some p =>
    cases opnd tm i with
    | none => cases E.tab t with
      | none => rfl
      | some ti => obtain ⟨kd, s, b, z, q⟩ := ti; cases kd <;> rfl
    | some w =>
      simp only [indexAddrAt]
      cases E.tab t with
      | none => rfl
      | some ti =>
        obtain ⟨kd, s, b, z, q⟩ := ti
        cases kd with
        | slice e =>
          cases w <;> try rfl
          simp only [intOf, sizeAt]
          cases E.tab e <;> rfl
        | array n e =>
          cases w <;> try rfl
          simp only [intOf, sizeAt]
          cases E.tab e <;> rfl
        | _ => cases w <;> rfl
def ixS (t : Option TI) (x : PV) (i : Int) : Option Eff := match t with
  | some ti =>
    match x with
    | .own a k off len => if k == ti.size && decide (0 ≤ i) && decide (i < len) then ok (.aptr a (off + i.toNat) 0) else none
    | .lit xs _ => if 0 ≤ i then match xs[i.toNat]? with
        | some cs => if cs.length == ti.size then ok (.eptr [cs] 0 0) else none
        | none => none
      else none
    | _ => none
  | none => none
theorem ixK_s (tab : Nat → Option TI) (e s b : Nat) (z : List PV) (q : Bool) (x : PV) (k : IntKind) (i : Int) : ixK tab (some ⟨.slice e, s, b, z, q⟩) (some x) (some (.int k i)) = ixS (tab e) x i := rfl
theorem ixS_own (kd : TK) (s b : Nat) (z : List PV) (q : Bool) (a k off len : Nat) (i : Int) : ixS (some ⟨kd, s, b, z, q⟩) (.own a k off len) i = if (k == s && decide (0 ≤ i) && decide (i < len)) = true then some ⟨.aptr a (off + i.toNat) 0, [], []⟩ else none := rfl
def ixA (n : Nat) (t : Option TI) (x : PV) (i : Int) : Option Eff := match t with
  | some ti => if decide (0 ≤ i) && decide (i < n) then
      match x with
      | .ptr a o => ok (.ptr a (o + i.toNat * ti.size))
      | .aptr a j o => ok (.aptr a j (o + i.toNat * ti.size))
      | .eptr xs j o => ok (.eptr xs j (o + i.toNat * ti.size))
      | _ => none
    else none
  | none => none
theorem ixK_a (tab : Nat → Option TI) (n e s b : Nat) (z : List PV) (q : Bool) (x : PV) (k : IntKind) (i : Int) : ixK tab (some ⟨.array n e, s, b, z, q⟩) (some x) (some (.int k i)) = ixA n (tab e) x i := rfl
theorem ixA_ptr (n : Nat) (kd : TK) (s b : Nat) (z : List PV) (q : Bool) (a o : Nat) (i : Int) : ixA n (some ⟨kd, s, b, z, q⟩) (.ptr a o) i = if (decide (0 ≤ i) && decide (i < n)) = true then some ⟨.ptr a (o + i.toNat * s), [], []⟩ else none := rfl
theorem ixA_eptr (n : Nat) (kd : TK) (s b : Nat) (z : List PV) (q : Bool) (xs : List (List PV)) (j o : Nat) (i : Int) : ixA n (some ⟨kd, s, b, z, q⟩) (.eptr xs j o) i = if (decide (0 ≤ i) && decide (i < n)) = true then some ⟨.eptr xs j (o + i.toNat * s), [], []⟩ else none := rfl

/-- A byte of a text. -/
def byteAt? (s : ByteArray) (i : Int) : Option Int := if 0 ≤ i then (s[i.toNat]?).map fun b => (b.toNat : Int) else none
def inK (tab : Nat → Option TI) (t : Nat) (x i : Option PV) : Option Eff := match x, i with
  | some x, some i => indexAt tab t x i
  | _, _ => none
theorem ev_index (t : Nat) (x i : Operand) : evOp E C rd nid tm ⟨d, .index t x i, ty, ps, af, g⟩ = inK E.tab t (opnd tm x) (opnd tm i) := rfl
def inJ (tab : Nat → Option TI) (t : Option TI) (x : PV) (i : Int) : Option Eff := match t, x with
  | some { kind := .str, .. }, .str s => (byteAt? s i).bind fun b => some ⟨.int .u8 b, [], []⟩
  | some { kind := .array n e, .. }, .agg cs =>
    match tab e with
    | some ti => if decide (0 ≤ i) && decide (i < n) then ldC ti (slab cs (i.toNat * ti.size) ti.size) [] else none
    | none => none
  | _, _ => none
theorem inK_s (tab : Nat → Option TI) (t : Nat) (x : PV) (k : IntKind) (i : Int) : inK tab t (some x) (some (.int k i)) = inJ tab (tab t) x i := by
  simp only [inK, indexAt, intOf, inJ]
  cases tab t with
  | none => rfl
  | some ti =>
    obtain ⟨kd, s, b, z, q⟩ := ti
    cases kd with
    | str =>
      cases x <;> try rfl
      simp only [byteAt?]
      split
      · rename_i s _
        cases s[i.toNat]? <;> rfl
      · rfl
    | array n e =>
      cases x <;> try rfl
    | _ => cases x <;> rfl
theorem inJ_str (tab : Nat → Option TI) (s b : Nat) (z : List PV) (q : Bool) (x : ByteArray) (i : Int) : inJ tab (some ⟨.str, s, b, z, q⟩) (.str x) i = (byteAt? x i).bind fun b => some ⟨.int .u8 b, [], []⟩ := rfl
theorem inJ_arr (tab : Nat → Option TI) (n e s b : Nat) (z : List PV) (q : Bool) (cs : List PV) (i : Int) : inJ tab (some ⟨.array n e, s, b, z, q⟩) (.agg cs) i = match tab e with
    | some ti => if decide (0 ≤ i) && decide (i < n) then ldC ti (slab cs (i.toNat * ti.size) ti.size) [] else none
    | none => none := rfl

def exK (x : Option PV) (i : Nat) : Option Eff := match x with
  | some (.tup vs) => match vs[i]? with
    | some v => ok v
    | none => none
  | _ => none
theorem ev_extract (x : Operand) (i : Nat) : evOp E C rd nid tm ⟨d, .extract x i, ty, ps, af, g⟩ = exK (opnd tm x) i := by
  simp only [evOp, evBasic, exK]
  cases opnd tm x with
  | none => rfl
  | some p => cases p <;> rfl
theorem ex_tup0 (v : PV) (r : List PV) : exK (some (.tup (v :: r))) 0 = some ⟨v, [], []⟩ := rfl
theorem ex_tup1 (v w : PV) (r : List PV) : exK (some (.tup (v :: w :: r))) 1 = some ⟨w, [], []⟩ := rfl
theorem ex_tup2 (v w x : PV) (r : List PV) : exK (some (.tup (v :: w :: x :: r))) 2 = some ⟨x, [], []⟩ := rfl
theorem ex_tup3 (v w x y : PV) (r : List PV) : exK (some (.tup (v :: w :: x :: y :: r))) 3 = some ⟨y, [], []⟩ := rfl

def biK (tab : Nat → Option TI) (rd : Rd) (nid : Nat) (b : Builtin) (ts : List Nat) (vs : Option (List PV)) : Option Eff := match vs with
  | some vs => builtinAt tab rd nid b ts vs
  | none => none
theorem ev_builtin (b : Builtin) (args : Array Operand) (ts : Array Nat) : evOp E C rd nid tm ⟨d, .call ⟨.builtin b, args, ts⟩, ty, ps, af, g⟩ = biK E.tab rd nid b ts.toList (opndl tm args.toList) := by
  simp only [evOp, evBasic, biK]
  cases opndl tm args.toList <;> rfl
def lenK (t : Option TI) (v : PV) : Option Eff := match t, v with
  | some { kind := .slice _, .. }, v => match v with
    | .str _ => none
    | v => (lenPV v).map fun (n : Nat) => ⟨.int .i64 (n : Int), [], []⟩
  | some { kind := .str, .. }, .str s => ok (.int .i64 s.size)
  | some { kind := .array n _, .. }, _ => ok (.int .i64 n)
  | _, _ => none
theorem bi_len (tab : Nat → Option TI) (t : Nat) (ts : List Nat) (v : PV) : biK tab rd nid .len (t :: ts) (some [v]) = lenK (tab t) v := by
  simp only [biK, builtinAt, lenK]
  cases tab t with
  | none => rfl
  | some ti => obtain ⟨kd, s, b, z, q⟩ := ti; cases kd <;> cases v <;> rfl
theorem len_lit (e s b : Nat) (z : List PV) (q : Bool) (xs : List (List PV)) (fl : Fl) : lenK (some ⟨.slice e, s, b, z, q⟩) (.lit xs fl) = some ⟨.int .i64 (xs.length : Int), [], []⟩ := rfl
theorem len_own (e s b : Nat) (z : List PV) (q : Bool) (a k o n : Nat) : lenK (some ⟨.slice e, s, b, z, q⟩) (.own a k o n) = some ⟨.int .i64 (n : Int), [], []⟩ := rfl
theorem len_nils (e s b : Nat) (z : List PV) (q : Bool) : lenK (some ⟨.slice e, s, b, z, q⟩) .nils = some ⟨.int .i64 0, [], []⟩ := rfl
theorem len_str (s b : Nat) (z : List PV) (q : Bool) (x : ByteArray) : lenK (some ⟨.str, s, b, z, q⟩) (.str x) = some ⟨.int .i64 (x.size : Int), [], []⟩ := rfl
theorem len_arr (n e s b : Nat) (z : List PV) (q : Bool) (x : PV) : lenK (some ⟨.array n e, s, b, z, q⟩) x = some ⟨.int .i64 (n : Int), [], []⟩ := by cases x <;> rfl
theorem bi_min2 (tab : Nat → Option TI) (ts : List Nat) (k k' : IntKind) (a b : Int) : biK tab rd nid .min ts (some [.int k a, .int k' b]) = some ⟨.int k (if decide (b < a) = true then b else a), [], []⟩ := by
  simp only [biK, builtinAt, foldMin, Option.map_some, decide_eq_true_eq]
theorem bi_max2 (tab : Nat → Option TI) (ts : List Nat) (k k' : IntKind) (a b : Int) : biK tab rd nid .max ts (some [.int k a, .int k' b]) = some ⟨.int k (if decide (a < b) = true then b else a), [], []⟩ := by
  simp only [biK, builtinAt, foldMax, Option.map_some, decide_eq_true_eq]

/-! append -/
def apK (tab : Nat → Option TI) (rd : Rd) (nid : Nat) (t t' : Option TI) (s x : PV) : Option Eff := match t, t' with
  | some { kind := .slice e, .. }, some { kind := .slice _, .. } => match tab e with
    | none => none
    | some ti => match srcOf rd ti.size x with
      | none => none
      | some (new, nf, foot) =>
      if ti.bytes ≤ 4096 then
        match s with
        | .nils => match new with
          | [] => some ⟨.own nid ti.size 0 0, [(nid, some (.arr ti.size [] nf false))], foot⟩
          | _ :: _ => if new.length ≤ bound then some ⟨.own nid ti.size 0 new.length, [(nid, some (.arr ti.size new nf false))], foot⟩ else none
        | .own a k off len => match rd a with
          | some (.arr k' xs flat false) =>
            if k == ti.size && k' == k && decide (off + len ≤ xs.length) && decide (len + new.length ≤ bound) && !has foot a then
              some ⟨.own nid k 0 (len + new.length), [(a, none), (nid, some (.arr k ((xs.drop off).take len ++ new) (flat && nf) false))], a :: foot⟩
            else none
          | _ => none
        | _ => none
      else none
  | _, _ => none
theorem bi_append (tab : Nat → Option TI) (t t' : Nat) (s x : PV) : biK tab rd nid .append [t, t'] (some [s, x]) = apK tab rd nid (tab t) (tab t') s x := by
  simp only [biK, builtinAt, appendAt, apK]
  cases tab t' with
  | none => cases tab t with
    | none => rfl
    | some ti => obtain ⟨kd, s, b, z, q⟩ := ti; cases kd <;> rfl
  | some ti' =>
    obtain ⟨kd', s', b', z', q'⟩ := ti'
    cases tab t with
    | none => cases kd' <;> rfl
    | some ti =>
      obtain ⟨kd, s, b, z, q⟩ := ti
      cases kd <;> cases kd' <;> rfl
def apJ (rd : Rd) (nid : Nat) (sz by' : Nat) (s : PV) (src : Option (List (List PV) × Bool × List Nat)) : Option Eff := match src with
  | none => none
  | some (new, nf, foot) =>
    if by' ≤ 4096 then
      match s with
      | .nils => match new with
        | [] => some ⟨.own nid sz 0 0, [(nid, some (.arr sz [] nf false))], foot⟩
        | _ :: _ => if new.length ≤ bound then some ⟨.own nid sz 0 new.length, [(nid, some (.arr sz new nf false))], foot⟩ else none
      | .own a k off len => match rd a with
        | some (.arr k' xs flat false) =>
          if k == sz && k' == k && decide (off + len ≤ xs.length) && decide (len + new.length ≤ bound) && !has foot a then
            some ⟨.own nid k 0 (len + new.length), [(a, none), (nid, some (.arr k ((xs.drop off).take len ++ new) (flat && nf) false))], a :: foot⟩
          else none
        | _ => none
      | _ => none
    else none
def apI (rd : Rd) (nid : Nat) (t : Option TI) (s x : PV) : Option Eff := match t with
  | none => none
  | some ti => apJ rd nid ti.size ti.bytes s (srcOf rd ti.size x)
theorem apK_s (tab : Nat → Option TI) (e s b : Nat) (z : List PV) (q : Bool) (e' s' b' : Nat) (z' : List PV) (q' : Bool) (u x : PV) :
    apK tab rd nid (some ⟨.slice e, s, b, z, q⟩) (some ⟨.slice e', s', b', z', q'⟩) u x = apI rd nid (tab e) u x := by
  simp only [apK, apI, apJ]
theorem apI_s (kd : TK) (s b : Nat) (z : List PV) (q : Bool) (u x : PV) : apI rd nid (some ⟨kd, s, b, z, q⟩) u x = apJ rd nid s b u (srcOf rd s x) := rfl
def apO (nid sz a k off len : Nat) (new : List (List PV)) (nf : Bool) (foot : List Nat) (o : Option PObj) : Option Eff := match o with
  | some (.arr k' xs flat false) =>
    if k == sz && k' == k && decide (off + len ≤ xs.length) && decide (len + new.length ≤ bound) && !has foot a then
      some ⟨.own nid k 0 (len + new.length), [(a, none), (nid, some (.arr k ((xs.drop off).take len ++ new) (flat && nf) false))], a :: foot⟩
    else none
  | _ => none
theorem apJ_own (sz by' a k off len : Nat) (new : List (List PV)) (nf : Bool) (foot : List Nat) :
    apJ rd nid sz by' (.own a k off len) (some (new, nf, foot)) = if by' ≤ 4096 then apO nid sz a k off len new nf foot (rd a) else none := by
  simp only [apJ, apO]
theorem apO_arr (sz a k k' len : Nat) (xs new : List (List PV)) (nf flat : Bool) (foot : List Nat) (hl : len = xs.length) :
    apO nid sz a k 0 len new nf foot (some (.arr k' xs flat false)) =
      if (k == sz && k' == k && !has foot a) = true then
        if decide ((xs ++ new).length ≤ bound) = true then some ⟨.own nid k 0 (xs ++ new).length, [(a, none), (nid, some (.arr k (xs ++ new) (flat && nf) false))], a :: foot⟩ else none
      else none := by
  subst hl
  simp only [apO, Nat.zero_add, Nat.le_refl, decide_true, Bool.and_true, List.drop_zero, List.take_length, List.length_append]
  by_cases h1 : (k == sz && k' == k) = true
  · by_cases h2 : xs.length + new.length ≤ bound
    · simp [h1, h2]
    · simp [h1, h2]
  · simp [h1]
theorem apJ_nils (sz by' : Nat) (new : List (List PV)) (nf : Bool) (foot : List Nat) :
    apJ rd nid sz by' .nils (some (new, nf, foot)) = if by' ≤ 4096 then (if decide (new.length ≤ bound) = true then some ⟨.own nid sz 0 new.length, [(nid, some (.arr sz new nf false))], foot⟩ else none) else none := by
  cases new with
  | nil => simp [apJ]
  | cons x r => simp only [apJ, decide_eq_true_eq]
theorem src_nils (sz : Nat) : srcOf rd sz .nils = some ([], true, []) := rfl
def srcL (sz : Nat) (xs : List (List PV)) (fl : Bool) : Option (List (List PV) × Bool × List Nat) := if xs.all (fun x => x.length == sz) = true then some (xs, fl, []) else none
theorem src_lit (sz : Nat) (xs : List (List PV)) (fl : Fl) : srcOf rd sz (.lit xs fl) = srcL sz xs fl.flat := rfl
def srcO (sz a k off len : Nat) (o : Option PObj) : Option (List (List PV) × Bool × List Nat) := match o with
  | some (.arr k' xs flat _) => if k == sz && k' == k && decide (off + len ≤ xs.length) then some ((xs.drop off).take len, flat, [a]) else none
  | _ => none
theorem src_own (sz a k off len : Nat) : srcOf rd sz (.own a k off len) = srcO sz a k off len (rd a) := by
  simp only [srcOf, srcO]
  cases rd a with
  | none => rfl
  | some p => cases p <;> rfl
theorem srcO_full (sz a k k' len : Nat) (xs : List (List PV)) (fl fz : Bool) (hl : len = xs.length) : srcO sz a k 0 len (some (.arr k' xs fl fz)) = if (k == sz && k' == k) = true then some (xs, fl, [a]) else none := by
  subst hl; simp [srcO]

/-! calls -/
def clK (E : Env) (C : Callee) (rd : Rd) (nid : Nat) (f : Option PV) (vs : Option (List PV)) : Option Eff := match f, vs with
  | some (.fn g caps), some vs => evCall E C rd nid g (vs ++ caps)
  | _, _ => none
theorem ev_call (fo : Operand) (args : Array Operand) (ts : Array Nat) : evOp E C rd nid tm ⟨d, .call ⟨.value fo, args, ts⟩, ty, ps, af, g⟩ = clK E C rd nid (opnd tm fo) (opndl tm args.toList) := rfl
theorem cl_call (f : Nat) (caps vs : List PV) : clK E C rd nid (some (.fn f caps)) (some vs) = evCall E C rd nid f (vs ++ caps) := rfl
def imK (rd : Rd) (foot : List Nat) (x : Option (PV × Upd × Bool × Nat)) : Option Eff := match x with
  | some (v, u, sh, j) => if decide (j ≤ 64) && (!sh || foot.all (isArr rd)) then some ⟨v, (if sh then freezes rd (dedup foot []) else []) ++ u, foot⟩ else none
  | none => none
def prK (rk : List (Option Nat)) (rd : Rd) (nid : Nat) (foot : List Nat) (x : Option PV) : Option Eff := match x with
  | some r => imK rd foot (importR nid r rk)
  | none => none
def puK (C : Callee) (f : Nat) (rk : List (Option Nat)) (rd : Rd) (nid : Nat) (x : Option (List PV × List Nat)) : Option Eff := match x with
  | some (as, foot) => prK rk rd nid foot (C.pureC f as)
  | none => none
theorem call_pure (f : Nat) (args : List PV) (h : E.isRef f = false) : evCall E C rd nid f args = puK C f (E.resK f) rd nid (snaps rd (E.keepNil f) snapFuel args) := by
  simp only [evCall, h, puK, prK, imK]
  cases snaps rd (E.keepNil f) snapFuel args with
  | none => rfl
  | some p =>
    obtain ⟨as, foot⟩ := p
    simp only [Bool.false_eq_true, ↓reduceIte]
    cases C.pureC f as with
    | none => rfl
    | some r => simp only; cases importR nid r (E.resK f) <;> rfl
theorem pu_some (f : Nat) (rk : List (Option Nat)) (as : List PV) (foot : List Nat) : puK C f rk rd nid (some (as, foot)) = prK rk rd nid foot (C.pureC f as) := rfl
theorem pr_some (rk : List (Option Nat)) (foot : List Nat) (r : PV) : prK rk rd nid foot (some r) = imK rd foot (importR nid r rk) := rfl
theorem pr_map {α : Type} (rk : List (Option Nat)) (foot : List Nat) (o : Option α) (enc : α → PV) : prK rk rd nid foot (o.map enc) = o.bind fun a => imK rd foot (importR nid (enc a) rk) := by cases o <;> rfl
theorem im_some (foot : List Nat) (v : PV) (u : Upd) (j : Nat) : imK rd foot (some (v, u, false, j)) = if decide (j ≤ 64) = true then some ⟨v, u, foot⟩ else none := by
  simp only [imK, Bool.not_false, Bool.true_or, Bool.and_true]; rfl
theorem im_sh0 (v : PV) (u : Upd) (sh : Bool) (j : Nat) : imK rd [] (some (v, u, sh, j)) = if decide (j ≤ 64) = true then some ⟨v, u, []⟩ else none := by
  cases sh <;> simp [imK, dedup, freezes]
theorem im_sh (foot : List Nat) (v : PV) (u : Upd) (j : Nat) : imK rd foot (some (v, u, true, j)) = if (decide (j ≤ 64) && foot.all (isArr rd)) = true then some ⟨v, freezes rd (dedup foot []) ++ u, foot⟩ else none := by
  simp only [imK, Bool.not_true, Bool.false_or]; rfl
end
end Go.Pm
