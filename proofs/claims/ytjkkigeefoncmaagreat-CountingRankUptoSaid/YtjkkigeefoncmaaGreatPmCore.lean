/-
  An evaluator for loaded Go code over data: values are numbers, texts, lists; no machine memory, no tape.
-/
import Derived.Orders
import Derived.Below
set_option linter.unusedVariables false
namespace Go.Pm

/-- What is known of a slice that is data: may its holder append to it in place; are all its cells plain. -/
structure Fl where
  u : Bool
  flat : Bool
  deriving DecidableEq

inductive PV where
  | undef
  | void
  | bool (b : Bool)
  | int (k : IntKind) (n : Int)
  | str (s : ByteArray)
  | nilp
  | ptr (a o : Nat)
  | aptr (a i o : Nat)
  | nils
  | lit (xs : List (List PV)) (fl : Fl)
  | own (a k off len : Nat)
  | eptr (xs : List (List PV)) (i o : Nat)
  | agg (cs : List PV)
  | tup (vs : List PV)
  | fn (f : Nat) (caps : List PV)
  | nilf

inductive PObj where
  | box (cs : List PV)
  | arr (k : Nat) (xs : List (List PV)) (flat frozen : Bool)

inductive TK where
  | bool | int (k : IntKind) | str
  | slice (elem : Nat)
  | struct (fs : List (Nat × Nat))
  | array (n elem : Nat)
  | ptr
  | func
  | other

structure TI where
  kind : TK
  size : Nat
  bytes : Nat
  zero : List PV
  eqok : Bool

abbrev Upd := List (Nat × Option PObj)
abbrev Rd := Nat → Option PObj

structure St where
  tmps : List PV
  heap : List (Nat × PObj)
  next : Nat

def look : List (Nat × PObj) → Nat → Option PObj
  | [], _ => none
  | (b, o) :: r, a => if a == b then some o else look r a

def setObj : List (Nat × PObj) → Nat → PObj → List (Nat × PObj)
  | [], a, o => [(a, o)]
  | (b, p) :: r, a, o => if a == b then (a, o) :: r else (b, p) :: setObj r a o

def delObj : List (Nat × PObj) → Nat → List (Nat × PObj)
  | [], _ => []
  | (b, p) :: r, a => if a == b then delObj r a else (b, p) :: delObj r a

def applyUpd (h : List (Nat × PObj)) : Upd → List (Nat × PObj)
  | [] => h
  | (a, some o) :: r => applyUpd (setObj h a o) r
  | (a, none) :: r => applyUpd (delObj h a) r

def nth : List PV → Nat → PV
  | [], _ => .undef
  | v :: _, 0 => v
  | _ :: r, n + 1 => nth r n

def put : List PV → Nat → PV → List PV
  | [], _, _ => []
  | _ :: r, 0, v => v :: r
  | x :: r, n + 1, v => x :: put r n v

def constPV : Value → Option PV
  | .bool b => some (.bool b)
  | .int k n => some (.int k n)
  | .string s => some (.str s)
  | .pointer none => some .nilp
  | .slice none 0 0 => some .nils
  | .nilFunc => some .nilf
  | _ => none

def opnd (tm : List PV) : Operand → Option PV
  | .tmp t => some (nth tm t)
  | .const v => constPV v
  | .func f => some (.fn f [])
  | .global _ => none

/-- A value of one cell. -/
def oneP : PV → Bool
  | .undef | .void | .agg _ | .tup _ => false
  | _ => true

def cellsOf : PV → Option (List PV)
  | .agg cs => some cs
  | v => if oneP v then some [v] else none

def isAggK : TK → Bool
  | .struct _ | .array _ _ => true
  | _ => false

/-- A value out of its cells. -/
def ofCells (t : TI) (cs : List PV) : Option PV :=
  if isAggK t.kind then (if cs.length == t.size then some (.agg cs) else none)
  else match cs with
    | [v] => some v
    | _ => none

def slab (cs : List PV) (o n : Nat) : List PV := (cs.drop o).take n

def splice (cs : List PV) (o : Nat) (vs : List PV) : List PV := cs.take o ++ vs ++ cs.drop (o + vs.length)

def setNth {α : Type} : List α → Nat → α → List α
  | [], _, _ => []
  | _ :: r, 0, v => v :: r
  | x :: r, n + 1, v => x :: setNth r n v

/-- A cell of plain data. -/
def plainCell : PV → Bool
  | .bool _ | .int _ _ | .str _ => true
  | _ => false

/-- Data, with nothing of the local heap in it (looked at from above). -/
def dataCell : PV → Bool
  | .bool _ | .int _ _ | .str _ | .lit _ _ | .nils | .nilp => true
  | _ => false

structure Eff where
  val : PV
  upd : Upd
  foot : List Nat

/-! ### snapshots -/
mutual
/-- A value as data: what it leads to in the local heap is laid in; the places that were read. -/
def snap (rd : Rd) (keepNil : Bool) : Nat → PV → Option (PV × List Nat)
  | 0, _ => none
  | n + 1, .own a k off len =>
    match rd a with
    | some (.arr k' xs flat _) => if k' == k && decide (off + len ≤ xs.length) then some (.lit ((xs.drop off).take len) ⟨false, flat⟩, [a]) else none
    | _ => none
  | n + 1, .ptr a o =>
    match rd a with
    | some (.box cs) => match snaps rd keepNil n cs with
      | some (cs', l) => some (.eptr [cs'] 0 o, a :: l)
      | none => none
    | _ => none
  | n + 1, .fn f caps => match snaps rd keepNil n caps with
    | some (cs, l) => some (.fn f cs, l)
    | none => none
  | n + 1, .agg cs => match snaps rd keepNil n cs with
    | some (cs', l) => some (.agg cs', l)
    | none => none
  | n + 1, .nils => some (if keepNil then .nils else .lit [] ⟨false, false⟩, [])
  | n + 1, .lit xs fl => some (.lit xs fl, [])
  | n + 1, .eptr xs i o => some (.eptr xs i o, [])
  | n + 1, .bool b => some (.bool b, [])
  | n + 1, .int k x => some (.int k x, [])
  | n + 1, .str s => some (.str s, [])
  | n + 1, .nilp => some (.nilp, [])
  | n + 1, .nilf => some (.nilf, [])
  | n + 1, .undef => some (.undef, [])
  | n + 1, .void => some (.void, [])
  | _, _ => none
def snaps (rd : Rd) (keepNil : Bool) : Nat → List PV → Option (List PV × List Nat)
  | 0, _ => none
  | n + 1, [] => some ([], [])
  | n + 1, v :: r => match snap rd keepNil n v with
    | some (v', l) => match snaps rd keepNil n r with
      | some (r', l') => some (v' :: r', l ++ l')
      | none => none
    | none => none
end

/-! ### the part of the heap that values lead to, numbered in a fixed order -/
mutual
def ids : PV → List Nat
  | .own a _ _ _ => [a]
  | .ptr a _ => [a]
  | .aptr a _ _ => [a]
  | .agg cs => idss cs
  | .tup cs => idss cs
  | .fn _ cs => idss cs
  | _ => []
def idss : List PV → List Nat
  | [] => []
  | v :: r => ids v ++ idss r
end

def has : List Nat → Nat → Bool
  | [], _ => false
  | b :: r, a => a == b || has r a

def pos : List Nat → Nat → Nat → Option Nat
  | [], _, _ => none
  | b :: r, a, i => if a == b then some i else pos r a (i + 1)

def reach (rd : Rd) : Nat → List Nat → List Nat → List Nat
  | 0, _, seen => seen
  | _, [], seen => seen
  | n + 1, a :: r, seen =>
    if has seen a then reach rd n r seen else
    match rd a with
    | some (.box cs) => reach rd n (r ++ idss cs) (seen ++ [a])
    | some (.arr ..) => reach rd n r (seen ++ [a])
    | none => reach rd n r (seen ++ [a])

mutual
def ren (g : Nat → Option Nat) : PV → PV
  | .own a k off len => match g a with | some j => .own j k off len | none => .undef
  | .ptr a o => match g a with | some j => .ptr j o | none => .undef
  | .aptr a i o => match g a with | some j => .aptr j i o | none => .undef
  | .agg cs => .agg (rens g cs)
  | .tup cs => .tup (rens g cs)
  | .fn f cs => .fn f (rens g cs)
  | .undef => .undef
  | .void => .void
  | .bool b => .bool b
  | .int k n => .int k n
  | .str s => .str s
  | .nilp => .nilp
  | .nils => .nils
  | .nilf => .nilf
  | .lit xs fl => .lit xs fl
  | .eptr xs i o => .eptr xs i o
def rens (g : Nat → Option Nat) : List PV → List PV
  | [] => []
  | v :: r => ren g v :: rens g r
end

def renObj (g : Nat → Option Nat) : PObj → PObj
  | .box cs => .box (rens g cs)
  | .arr k xs fl fz => .arr k xs fl fz

/-- The objects at some places, numbered anew. -/
def picks (rd : Rd) (g : Nat → Option Nat) : List Nat → Nat → List (Nat × PObj)
  | [], _ => []
  | a :: r, j => match rd a with
    | some o => (j, renObj g o) :: picks rd g r (j + 1)
    | none => picks rd g r (j + 1)

def dedup : List Nat → List Nat → List Nat
  | [], acc => acc
  | a :: r, acc => if has acc a then dedup r acc else dedup r (acc ++ [a])

/-- The children of some places. -/
def kids (rd : Rd) : List Nat → List Nat
  | [] => []
  | a :: r => match rd a with
    | some (.box cs) => idss cs ++ kids rd r
    | _ => kids rd r

def reachFuel : Nat := 400

/-- The places in order: some roots first, then what they and some values lead to. -/
def order (rd : Rd) (roots : List Nat) (vals : List PV) : List Nat := reach rd reachFuel (kids rd roots ++ idss vals) roots

/-! ### what an operation gives -/
def eqNil : TK → PV → PV → Option Bool
  | .slice _, .nils, .nils => some true
  | .slice _, .own _ _ _ (_ + 1), .nils => some false
  | .slice _, .lit (_ :: _) _, .nils => some false
  | .ptr, .nilp, .nilp => some true
  | .ptr, .ptr _ _, .nilp => some false
  | .func, .nilf, .nilf => some true
  | .func, .fn _ _, .nilf => some false
  | _, _, _ => none

mutual
def eqCells : List PV → List PV → Option Bool
  | [], [] => some true
  | x :: xs, y :: ys => match eqCell x y, eqCells xs ys with
    | some a, some b => some (a && b)
    | _, _ => none
  | _, _ => none
def eqCell : PV → PV → Option Bool
  | .int k a, .int k' b => if k = k' then some (a == b) else none
  | .bool a, .bool b => some (a == b)
  | .str a, .str b => some (a == b)
  | _, _ => none
end

def eqPV (ti : Option TI) (x y : PV) : Option Bool :=
  match x, y with
  | .int k a, .int k' b => if k = k' then some (a == b) else none
  | .bool a, .bool b => match ti with
    | some { kind := .bool, .. } => some (a == b)
    | _ => none
  | .str a, .str b => some (a.toList == b.toList)
  | .agg xs, .agg ys => match ti with
    | some t => if t.eqok then eqCells xs ys else none
    | none => none
  | x, y => match ti with
    | some t => eqNil t.kind x y
    | none => none

def binPV (ti : Option TI) (op : BinOp) (x y : PV) : Option PV :=
  match op with
  | .eql => (eqPV ti x y).map .bool
  | .neq => (eqPV ti x y).map fun b => .bool (!b)
  | .shl => match x, y with
    | .int k a, .int _ b => if 0 ≤ b then some (.int k (k.wrap (a * 2 ^ min b.toNat k.bits))) else none
    | _, _ => none
  | .shr => match x, y with
    | .int k a, .int _ b => if 0 ≤ b then some (.int k (a.fdiv (2 ^ min b.toNat k.bits))) else none
    | _, _ => none
  | op => match x, y with
    | .int k a, .int k' b =>
      if k = k' then match op with
        | .add => some (.int k (k.wrap (a + b)))
        | .sub => some (.int k (k.wrap (a - b)))
        | .mul => some (.int k (k.wrap (a * b)))
        | .quo => if b = 0 then none else some (.int k (k.wrap (a.tdiv b)))
        | .rem => if b = 0 then none else some (.int k (a.tmod b))
        | .lss => some (.bool (decide (a < b)))
        | .leq => some (.bool (decide (a ≤ b)))
        | .gtr => some (.bool (decide (a > b)))
        | .geq => some (.bool (decide (a ≥ b)))
        | .and => some (.int k (k.wrap (BitVec.ofInt k.bits a &&& BitVec.ofInt k.bits b).toNat))
        | .or => some (.int k (k.wrap (BitVec.ofInt k.bits a ||| BitVec.ofInt k.bits b).toNat))
        | .xor => some (.int k (k.wrap (BitVec.ofInt k.bits a ^^^ BitVec.ofInt k.bits b).toNat))
        | .andNot => some (.int k (k.wrap (BitVec.ofInt k.bits a &&& ~~~ BitVec.ofInt k.bits b).toNat))
        | _ => none
      else none
    | _, _ => none

def unPV (op : UnOp) (x : PV) : Option PV :=
  match op, x with
  | .not, .bool b => some (.bool (!b))
  | .neg, .int k n => some (.int k (k.wrap (0 - n)))
  | _, _ => none

def lenPV : PV → Option Nat
  | .nils => some 0
  | .own _ _ _ n => some n
  | .lit xs _ => some xs.length
  | .str s => some s.size
  | _ => none

def natOf : PV → Option Nat
  | .int _ n => if 0 ≤ n then some n.toNat else none
  | _ => none

def intOf : PV → Option Int
  | .int _ n => some n
  | _ => none

/-- What an element of a row may be made of: data alone; a slice of the local heap becomes data, and its row is written no more. -/
def settle (rd : Rd) : List PV → Option (List PV × List Nat)
  | [] => some ([], [])
  | .own a k off len :: r =>
    match rd a, settle rd r with
    | some (.arr k' xs flat _), some (r', l) => if k' == k && decide (off + len ≤ xs.length) then some (.lit ((xs.drop off).take len) ⟨false, flat⟩ :: r', a :: l) else none
    | _, _ => none
  | .nils :: r => match settle rd r with
    | some (r', l) => some (.lit [] ⟨false, false⟩ :: r', l)
    | none => none
  | .lit xs fl :: r => match settle rd r with
    | some (r', l) => some (.lit xs ⟨false, fl.flat⟩ :: r', l)
    | none => none
  | v :: r => match settle rd r with
    | some (r', l) => if plainCell v then some (v :: r', l) else none
    | none => none

def freezes (rd : Rd) : List Nat → Upd
  | [] => []
  | a :: r => match rd a with
    | some (.arr k xs flat _) => (a, some (.arr k xs flat true)) :: freezes rd r
    | _ => freezes rd r

def allPlain : List PV → Bool
  | [] => true
  | v :: r => plainCell v && allPlain r

/-- The elements of what is appended: settled; the rows that are frozen; are they flat; the places read. -/
def srcOf (rd : Rd) (size : Nat) : PV → Option (List (List PV) × Bool × List Nat)
  | .nils => some ([], true, [])
  | .lit xs fl => if xs.all (fun x => x.length == size) then some (xs, fl.flat, []) else none
  | .own a k off len => match rd a with
    | some (.arr k' xs flat _) => if k == size && k' == k && decide (off + len ≤ xs.length) then some ((xs.drop off).take len, flat, [a]) else none
    | _ => none
  | _ => none

def settleAll (rd : Rd) (size : Nat) : List PV → Option (List (List PV) × List Nat × Bool)
  | [] => some ([], [], false)
  | v :: r => match (cellsOf v).bind (settle rd), settleAll rd size r with
    | some (cs, l), some (r', l', fl) => if cs.length == size then some (cs :: r', l ++ l', false) else none
    | _, _ => none

/-- The parts of a literal that names each place once, in order. -/
def inOrder : Nat → List (Nat × Operand) → Bool
  | _, [] => true
  | i, (j, _) :: r => i == j && inOrder (i + 1) r

def opnds (tm : List PV) : List (Nat × Operand) → Option (List PV)
  | [] => some []
  | (_, x) :: r => match opnd tm x, opnds tm r with
    | some v, some vs => some (v :: vs)
    | _, _ => none

def opndl (tm : List PV) : List Operand → Option (List PV)
  | [] => some []
  | x :: r => match opnd tm x, opndl tm r with
    | some v, some vs => some (v :: vs)
    | _, _ => none

def sizeAt (tab : Nat → Option TI) (t : Nat) : Option Nat := (tab t).map (·.size)

def fillParts (tab : Nat → Option TI) (fs : List (Nat × Nat)) : List PV → List (Nat × PV) → Option (List PV)
  | cells, [] => some cells
  | cells, (i, v) :: r =>
    match fs[i]? with
    | some (off, ft) => match tab ft, cellsOf v with
      | some ti, some cs =>
        if cs.length == ti.size && decide (off + cs.length ≤ cells.length) then fillParts tab fs (splice cells off cs) r else none
      | _, _ => none
    | none => none

def opndp (tm : List PV) : List (Nat × Operand) → Option (List (Nat × PV))
  | [] => some []
  | (i, x) :: r => match opnd tm x, opndp tm r with
    | some v, some vs => some ((i, v) :: vs)
    | _, _ => none

def bound : Nat := 1073741824

def ok (v : PV) : Option Eff := some ⟨v, [], []⟩

def loadAt (rd : Rd) (ti : TI) : PV → Option Eff
  | .ptr a o => match rd a with
    | some (.box cs) => (ofCells ti (slab cs o ti.size)).map fun v => ⟨v, [], [a]⟩
    | _ => none
  | .aptr a i o => match rd a with
    | some (.arr _ xs _ _) => match xs[i]? with
      | some cs => (ofCells ti (slab cs o ti.size)).map fun v => ⟨v, [], [a]⟩
      | none => none
    | _ => none
  | .eptr xs i o => match xs[i]? with
    | some cs => (ofCells ti (slab cs o ti.size)).map fun v => ⟨v, [], []⟩
    | none => none
  | _ => none

def storeAt (rd : Rd) (ti : TI) (p v : PV) : Option Eff :=
  match cellsOf v with
  | none => none
  | some vs =>
  if vs.length == ti.size then
    match p with
    | .ptr a o => match rd a with
      | some (.box cs) => if o + vs.length ≤ cs.length then some ⟨.void, [(a, some (.box (splice cs o vs)))], [a]⟩ else none
      | _ => none
    | .aptr a i o => match rd a with
      | some (.arr k xs flat false) => match xs[i]?, settle rd vs with
        | some cs, some (ws, fz) =>
          if o + ws.length ≤ cs.length && !has fz a && !ws.isEmpty then some ⟨.void, freezes rd fz ++ [(a, some (.arr k (setNth xs i (splice cs o ws)) (flat && allPlain ws) false))], a :: fz⟩ else none
        | _, _ => none
      | _ => none
    | _ => none
  else none

def fieldOff (tab : Nat → Option TI) (s f : Nat) : Option (Nat × Nat) :=
  match tab s with
  | some { kind := .struct fs, .. } => fs[f]?
  | _ => none

def fieldAddrAt (tab : Nat → Option TI) (s f : Nat) (p : PV) : Option Eff :=
  match fieldOff tab s f with
  | some (off, ft) => match tab ft with
    | some ti => if ti.size == 0 then none else
      match p with
      | .ptr a o => ok (.ptr a (o + off))
      | .aptr a i o => ok (.aptr a i (o + off))
      | .eptr xs i o => ok (.eptr xs i (o + off))
      | _ => none
    | none => none
  | none => none

def fieldAt (tab : Nat → Option TI) (s f : Nat) (v : PV) : Option Eff :=
  match fieldOff tab s f, v with
  | some (off, ft), .agg cs => match tab ft with
    | some ti => (ofCells ti (slab cs off ti.size)).map fun v => ⟨v, [], []⟩
    | none => none
  | _, _ => none

def indexAddrAt (tab : Nat → Option TI) (t : Nat) (x i : PV) : Option Eff :=
  match tab t, intOf i with
  | some { kind := .slice e, .. }, some i =>
    match sizeAt tab e with
    | some sz =>
      match x with
      | .own a k off len => if k == sz && decide (0 ≤ i) && decide (i < len) then ok (.aptr a (off + i.toNat) 0) else none
      | .lit xs _ => if 0 ≤ i then match xs[i.toNat]? with
          | some cs => if cs.length == sz then ok (.eptr [cs] 0 0) else none
          | none => none
        else none
      | _ => none
    | none => none
  | some { kind := .array n e, .. }, some i =>
    match sizeAt tab e with
    | some sz => if decide (0 ≤ i) && decide (i < n) then
        match x with
        | .ptr a o => ok (.ptr a (o + i.toNat * sz))
        | .aptr a j o => ok (.aptr a j (o + i.toNat * sz))
        | .eptr xs j o => ok (.eptr xs j (o + i.toNat * sz))
        | _ => none
      else none
    | none => none
  | _, _ => none

def indexAt (tab : Nat → Option TI) (t : Nat) (x i : PV) : Option Eff :=
  match tab t, x, intOf i with
  | some { kind := .str, .. }, .str s, some i => if 0 ≤ i then match s[i.toNat]? with
      | some b => ok (.int .u8 b.toNat)
      | none => none
    else none
  | some { kind := .array n e, .. }, .agg cs, some i =>
    match tab e with
    | some ti => if decide (0 ≤ i) && decide (i < n) then (ofCells ti (slab cs (i.toNat * ti.size) ti.size)).map fun v => ⟨v, [], []⟩ else none
    | none => none
  | _, _, _ => none

def headOK (sz : Nat) : List (List PV) → Bool
  | x :: _ => x.length == sz
  | [] => true

def cutAt (tab : Nat → Option TI) (t : Nat) (x : PV) (lo hi : Option PV) : Option Eff :=
  match tab t, lenPV x with
  | some { kind := kd, .. }, some n =>
    match (match lo with | none => some 0 | some v => natOf v), (match hi with | none => some n | some v => natOf v) with
    | some l, some h => if l ≤ h && h ≤ n then
        match kd, x with
        | .slice el, .own a k off _ => match sizeAt tab el with
          | some sz => if k == sz then ok (.own a k (off + l) (h - l)) else none
          | none => none
        | .slice el, .lit xs fl => match sizeAt tab el with
          | some sz => if l == 0 || headOK sz xs then ok (.lit ((xs.drop l).take (h - l)) ⟨false, fl.flat⟩) else none
          | none => none
        | .slice el, .nils => match sizeAt tab el with
          | some _ => ok .nils
          | none => none
        | .str, .str s => ok (.str (s.extract l h))
        | _, _ => none
      else none
    | _, _ => none
  | _, _ => none

def appendAt (tab : Nat → Option TI) (rd : Rd) (nid t : Nat) (s x : PV) : Option Eff :=
  match tab t with
  | some { kind := .slice e, .. } => match tab e with
    | none => none
    | some ti => match srcOf rd ti.size x with
    | none => none
    | some (new, nf, foot) =>
      if ti.bytes ≤ 4096 then
        match s with
        | .nils => match new with
          | [] => some ⟨.own nid ti.size 0 0, [(nid, some (.arr ti.size [] nf false))], foot⟩
          | _ :: _ => if new.length ≤ bound then some ⟨.own nid ti.size 0 new.length, [(nid, some (.arr ti.size new nf false))], foot⟩ else none
        | .own a k off len => match rd a with
          | some (.arr k' xs flat false) =>
            if k == ti.size && k' == k && decide (off + len ≤ xs.length) && decide (len + new.length ≤ bound) && !has foot a then
              some ⟨.own nid k 0 (len + new.length), [(a, none), (nid, some (.arr k ((xs.drop off).take len ++ new) (flat && nf) false))], a :: foot⟩
            else none
          | _ => none
        | _ => none
      else none
  | _ => none

def foldMin : Int → List PV → Option Int
  | m, [] => some m
  | m, .int _ n :: r => foldMin (if n < m then n else m) r
  | _, _ => none
def foldMax : Int → List PV → Option Int
  | m, [] => some m
  | m, .int _ n :: r => foldMax (if n > m then n else m) r
  | _, _ => none

def copyAt (tab : Nat → Option TI) (rd : Rd) (t : Nat) (d x : PV) : Option Eff :=
  match tab t with
  | some { kind := .slice e, .. } => match tab e with
    | none => none
    | some ti => match srcOf rd ti.size x with
    | none => none
    | some (new, nf, foot) =>
      match d with
      | .nils => some ⟨.int .i64 0, [], foot⟩
      | .own a k off len => match rd a with
        | some (.arr k' xs flat false) =>
          if k == ti.size && k' == k && decide (off + len ≤ xs.length) then
            let new := new.take len
            some ⟨.int .i64 new.length, [(a, some (.arr k (xs.take off ++ new ++ xs.drop (off + new.length)) (flat && nf) false))], a :: foot⟩
          else none
        | _ => none
      | _ => none
  | _ => none

def clearAt (tab : Nat → Option TI) (rd : Rd) (t : Nat) (d : PV) : Option Eff :=
  match tab t with
  | some { kind := .slice e, .. } => match tab e with
    | some ti => match d with
      | .nils => ok .void
      | .own a k off len => match rd a with
        | some (.arr k' xs flat false) =>
          if k == ti.size && k' == k && decide (off + len ≤ xs.length) then
            some ⟨.void, [(a, some (.arr k (xs.take off ++ List.replicate len ti.zero ++ xs.drop (off + len)) (flat && allPlain ti.zero) false))], [a]⟩
          else none
        | _ => none
      | _ => none
    | none => none
  | _ => none

def builtinAt (tab : Nat → Option TI) (rd : Rd) (nid : Nat) (b : Builtin) (ts : List Nat) (vs : List PV) : Option Eff :=
  match b, ts, vs with
  | .len, t :: _, [v] => match tab t, v with
    | some { kind := .slice _, .. }, v => match v with
      | .str _ => none
      | v => (lenPV v).map fun (n : Nat) => ⟨.int .i64 (n : Int), [], []⟩
    | some { kind := .str, .. }, .str s => ok (.int .i64 s.size)
    | some { kind := .array n _, .. }, _ => ok (.int .i64 n)
    | _, _ => none
  | .append, [t, t'], [s, x] => match tab t' with
    | some { kind := .slice _, .. } => appendAt tab rd nid t s x
    | _ => none
  | .copy, [t, _], [d, x] => copyAt tab rd t d x
  | .clear, t :: _, [d] => clearAt tab rd t d
  | .min, _, .int k n :: r => (foldMin n r).map fun m => ⟨.int k m, [], []⟩
  | .max, _, .int k n :: r => (foldMax n r).map fun m => ⟨.int k m, [], []⟩
  | _, _, _ => none

def zeroRow (ti : TI) (n : Nat) : List (List PV) := List.replicate n ti.zero

/-- The operations that call no function. -/
def evBasic (tab : Nat → Option TI) (rd : Rd) (nid : Nat) (tm : List PV) (o : Oper) : Option Eff :=
  match o.op with
  | .move x | .assign x => (opnd tm x).map fun v => ⟨v, [], []⟩
  | .pick c a b => match opnd tm c, opnd tm a, opnd tm b with
    | some (.bool c), some a, some b => ok (if c then a else b)
    | _, _, _ => none
  | .alloc t => match tab t with
    | some ti => some ⟨.ptr nid 0, [(nid, some (.box ti.zero))], []⟩
    | none => none
  | .box _ x => match (opnd tm x).bind cellsOf with
    | some cs => some ⟨.ptr nid 0, [(nid, some (.box cs))], []⟩
    | none => none
  | .build t parts => match tab t, opndp tm parts.toList with
    | some { kind := .struct fs, zero := z, .. }, some ps => (fillParts tab fs z ps).map fun cs => ⟨.agg cs, [], []⟩
    | some { kind := .array n e, zero := z, .. }, some ps =>
      match sizeAt tab e with
      | some sz => (fillParts tab ((List.range n).map fun i => (i * sz, e)) z ps).map fun cs => ⟨.agg cs, [], []⟩
      | none => none
    | _, _ => none
  | .buildSlice t n parts => match tab t, opnds tm parts.toList with
    | some { kind := .slice e, .. }, some vs =>
      match tab e with
      | some ti => if inOrder 0 parts.toList && vs.length == n && decide (n * ti.size ≤ 4096) && decide (0 < ti.size) then
          match settleAll rd ti.size vs with
          | some (rows, fz, flat) => some ⟨.own nid ti.size 0 n, freezes rd fz ++ [(nid, some (.arr ti.size rows flat false))], fz⟩
          | none => none
        else none
      | none => none
    | _, _ => none
  | .load t p => match tab t, opnd tm p with
    | some ti, some p => loadAt rd ti p
    | _, _ => none
  | .store t p v => match tab t, opnd tm p, opnd tm v with
    | some ti, some p, some v => storeAt rd ti p v
    | _, _, _ => none
  | .nilCheck x => match opnd tm x with
    | some (.ptr a o) => ok (.ptr a o)
    | some (.aptr a i o) => ok (.aptr a i o)
    | some (.eptr xs i o) => ok (.eptr xs i o)
    | some (.fn f cs) => ok (.fn f cs)
    | _ => none
  | .binOp op t x y _ => match opnd tm x, opnd tm y with
    | some x, some y => (binPV (tab t) op x y).map fun v => ⟨v, [], []⟩
    | _, _ => none
  | .unOp op _ x => match opnd tm x with
    | some x => (unPV op x).map fun v => ⟨v, [], []⟩
    | none => none
  | .convert s d x => match tab s, tab d, opnd tm x with
    | some { kind := .int _, .. }, some { kind := .int k, .. }, some (.int _ n) => ok (.int k (k.wrap n))
    | _, _, _ => none
  | .makeFunc (.func f) first caps => if first.isEmpty then (opndl tm caps.toList).map fun cs => ⟨.fn f cs, [], []⟩ else none
  | .makeSlice t l c => match tab t, opnd tm l, opnd tm c with
    | some { kind := .slice e, .. }, some (.int .i64 l), some (.int .i64 c) =>
      match tab e with
      | some ti => if 0 ≤ l ∧ l ≤ c ∧ c ≤ bound ∧ ti.bytes ≤ 4096 then
          some ⟨.own nid ti.size 0 l.toNat, [(nid, some (.arr ti.size (zeroRow ti l.toNat) false false))], []⟩
        else none
      | none => none
    | _, _, _ => none
  | .slice t x lo hi none =>
    match opnd tm x, (match lo with | none => some none | some v => (opnd tm v).map some), (match hi with | none => some none | some v => (opnd tm v).map some) with
    | some x, some lo, some hi => cutAt tab t x lo hi
    | _, _, _ => none
  | .fieldAddr s x f => match opnd tm x with
    | some p => fieldAddrAt tab s f p
    | none => none
  | .field s x f => match opnd tm x with
    | some v => fieldAt tab s f v
    | none => none
  | .indexAddr t x i => match opnd tm x, opnd tm i with
    | some x, some i => indexAddrAt tab t x i
    | _, _ => none
  | .index t x i => match opnd tm x, opnd tm i with
    | some x, some i => indexAt tab t x i
    | _, _ => none
  | .extract x i => match opnd tm x with
    | some (.tup vs) => match vs[i]? with
      | some v => ok v
      | none => none
    | _ => none
  | .call { callee := .builtin b, args, argTypes } => match opndl tm args.toList with
    | some vs => builtinAt tab rd nid b argTypes.toList vs
    | none => none
  | _ => none

/-! ### calls -/
structure Callee where
  pureC : Nat → List PV → Option PV
  refC : Nat → Nat → List PV → List (Nat × PObj) → Nat → Option (PV × List (Nat × PObj) × Nat)

structure Env where
  tab : Nat → Option TI
  code : Nat → Option Func
  isRef : Nat → Bool
  keepNil : Nat → Bool
  resK : Nat → List (Option Nat)
  keep : Nat → Nat → List (Nat × List (Nat × Nat × Bool))
  keepR : Nat → Nat → Option (List (Nat × List (Nat × Nat × Bool)))
  keepE : Nat → Option (List (Nat × List (Nat × Nat × Bool)))
  pairs : Nat → Nat → List (Nat × Nat)
  norm : Nat → List (Nat × List (Nat × Nat × Bool))
  primP : Nat → Option (List PV → Option PV)
  primR : Nat → Option (List PV → List (Nat × PObj) → Nat → Option (PV × List (Nat × PObj) × Nat))

/-- The cells of a result, as the caller has them: (the cells; the new rows; does something in them lie in memory that others may know). -/
def imports (nid : Nat) : List PV → List (Option Nat) → Nat → Option (List PV × Upd × Bool × Nat)
  | [], _, j => some ([], [], false, j)
  | v :: r, ks, j =>
    match v with
    | .lit xs ⟨true, flat⟩ => match ks.head? with
      | some (some k) => match imports nid r ks.tail (j + 1) with
        | some (vs, u, sh, j') => some (.own (nid + j) k 0 xs.length :: vs, (nid + j, some (.arr k xs false false)) :: u, sh || !(xs.all allPlain), j')
        | none => none
      | _ => none
    | .lit xs fl => match imports nid r ks.tail j with
      | some (vs, u, _, j') => some (.lit xs fl :: vs, u, true, j')
      | none => none
    | v => if plainCell v || (match v with | .undef | .nils | .nilp => true | _ => false) then
        match imports nid r ks.tail j with
        | some (vs, u, sh, j') => some (v :: vs, u, sh, j')
        | none => none
      else none

def importV (nid : Nat) (v : PV) (ks : List (Option Nat)) (j : Nat) : Option (PV × Upd × Bool × Nat × List (Option Nat)) :=
  match v with
  | .agg cs => match imports nid cs (ks.take cs.length) j with
    | some (cs', u, sh, j') => some (.agg cs', u, sh, j', ks.drop cs.length)
    | none => none
  | v => match imports nid [v] (ks.take 1) j with
    | some ([v'], u, sh, j') => some (v', u, sh, j', ks.drop 1)
    | _ => none

def importVs (nid : Nat) : List PV → List (Option Nat) → Nat → Option (List PV × Upd × Bool × Nat)
  | [], _, j => some ([], [], false, j)
  | v :: r, ks, j => match importV nid v ks j with
    | some (v', u, sh, j', ks') => match importVs nid r ks' j' with
      | some (vs, u', sh', j'') => some (v' :: vs, u ++ u', sh || sh', j'')
      | none => none
    | none => none

def importR (nid : Nat) (v : PV) (ks : List (Option Nat)) : Option (PV × Upd × Bool × Nat) :=
  match v with
  | .tup vs => match importVs nid vs ks 0 with
    | some (vs', u, sh, j) => some (.tup vs', u, sh, j)
    | none => none
  | v => match importV nid v ks 0 with
    | some (v', u, sh, j, _) => some (v', u, sh, j)
    | none => none

/-- How often a row is named. -/
def times (a : Nat) : List Nat → Nat
  | [] => 0
  | b :: r => (if a == b then 1 else 0) + times a r

/-- The cells of a result, as data. 'all': every place that the result names. -/
def exports (rd : Rd) (all : List Nat) : List PV → List (Option Nat) → Option (List PV)
  | [], _ => some []
  | v :: r, ks =>
    match exports rd all r ks.tail with
    | none => none
    | some r' =>
      match v with
      | .own a k off len => match rd a with
        | some (.arr k' xs flat fz) =>
          if k' == k && decide (off + len ≤ xs.length) then
            match ks.head? with
            | some (some k2) => if k2 == k && (!fz && times a all == 1) then some (.lit ((xs.drop off).take len) ⟨true, flat⟩ :: r') else none
            | _ => if !fz && times a all == 1 then none else some (.lit ((xs.drop off).take len) ⟨false, flat⟩ :: r')
          else none
        | _ => none
      | .nils => match ks.head? with
        | some (some _) => some (.lit [] ⟨true, false⟩ :: r')
        | _ => some (.lit [] ⟨false, false⟩ :: r')
      | .lit xs fl => match ks.head? with
        | some (some _) => none
        | _ => some (.lit xs ⟨false, fl.flat⟩ :: r')
      | v => if plainCell v then some (v :: r') else none

def exportV (rd : Rd) (all : List Nat) (v : PV) (ks : List (Option Nat)) : Option (PV × List (Option Nat)) :=
  match v with
  | .agg cs => match exports rd all cs (ks.take cs.length) with
    | some cs' => some (.agg cs', ks.drop cs.length)
    | none => none
  | v => match exports rd all [v] (ks.take 1) with
    | some [v'] => some (v', ks.drop 1)
    | _ => none

def exportVs (rd : Rd) (all : List Nat) : List PV → List (Option Nat) → Option (List PV)
  | [], _ => some []
  | v :: r, ks => match exportV rd all v ks with
    | some (v', ks') => match exportVs rd all r ks' with
      | some vs => some (v' :: vs)
      | none => none
    | none => none

/-- What is to be handed out as shared. -/
def shIds : List PV → List (Option Nat) → List Nat
  | [], _ => []
  | v :: r, ks => (match ks.head? with | some (some _) => [] | _ => ids v) ++ shIds r ks.tail

def shV (v : PV) (ks : List (Option Nat)) : List Nat × List (Option Nat) :=
  match v with
  | .agg cs => (shIds cs (ks.take cs.length), ks.drop cs.length)
  | v => (shIds [v] (ks.take 1), ks.drop 1)

def shVs : List PV → List (Option Nat) → List Nat
  | [], _ => []
  | v :: r, ks => (shV v ks).1 ++ shVs r (shV v ks).2

def exportR (rd : Rd) (v : PV) (ks : List (Option Nat)) : Option PV :=
  match v with
  | .tup vs => (exportVs rd (idss vs ++ shVs vs ks) vs ks).map .tup
  | v => (exportV rd (ids v ++ (shV v ks).1) v ks).map (·.1)

def snapFuel : Nat := 400

def boxes (rd : Rd) : List Nat → List Nat
  | [] => []
  | a :: r => match rd a with
    | some (.box _) => a :: boxes rd r
    | _ => boxes rd r

def dels : List Nat → Upd
  | [] => []
  | a :: r => (a, none) :: dels r

/-- What became of the roots, and the new places. -/
def backs (g : Nat → Option Nat) (h : List (Nat × PObj)) : Upd :=
  match h with
  | [] => []
  | (j, o) :: r => match g j with
    | some a => (a, some (renObj g o)) :: backs g r
    | none => backs g r

def backId (roots : List Nat) (nid : Nat) (j : Nat) : Option Nat :=
  if j < roots.length then roots[j]? else some (nid + (j - roots.length))

def isArr (rd : Rd) (a : Nat) : Bool :=
  match rd a with
  | some (.arr ..) => true
  | _ => false

def isObj (rd : Rd) (a : Nat) : Bool :=
  match rd a with
  | some _ => true
  | none => false

def evCall (E : Env) (C : Callee) (rd : Rd) (nid : Nat) (f : Nat) (args : List PV) : Option Eff :=
  if E.isRef f then
    let L0 := order rd (dedup (idss args) []) []
    let roots := dedup (boxes rd L0) (dedup (idss args) [])
    let L := order rd roots []
    let g := fun a => pos L a 0
    match C.refC f roots.length (rens g args) (picks rd g L 0) L.length with
    | some (v, h, nx) =>
      let b := backId roots nid
      if decide (nx ≤ roots.length + 64) && roots.all (isObj rd) then
        some ⟨ren b v, dels L ++ backs b h, L0 ++ L⟩
      else none
    | none => none
  else
    match snaps rd (E.keepNil f) snapFuel args with
    | some (as, foot) => match C.pureC f as with
      | some r => match importR nid r (E.resK f) with
        | some (v, u, sh, j) => if decide (j ≤ 64) && (!sh || foot.all (isArr rd)) then some ⟨v, (if sh then freezes rd (dedup foot []) else []) ++ u, foot⟩ else none
        | none => none
      | none => none
    | none => none

def evOp (E : Env) (C : Callee) (rd : Rd) (nid : Nat) (tm : List PV) (o : Oper) : Option Eff :=
  match o.op with
  | .call { callee := .value f, args, .. } => match opnd tm f, opndl tm args.toList with
    | some (.fn g caps), some vs => evCall E C rd nid g (vs ++ caps)
    | _, _ => none
  | _ => evBasic E.tab rd nid tm o

def guardOf (ops : List Oper) (tm : List PV) (o : Oper) : Option Bool :=
  match o.guard with
  | none => some true
  | some (j, want) => match (ops[j]?).bind (·.dst) with
    | some d => match nth tm d with
      | .bool b => some (b == want)
      | .void => some false
      | _ => none
    | none => none

def putD (tm : List PV) (d : Option Nat) (v : PV) : List PV :=
  match d with
  | some d => put tm d v
  | none => tm

def stepOp (E : Env) (C : Callee) (ops : List Oper) (rd : Rd) (nid : Nat) (tm : List PV) (o : Oper) : Option Eff :=
  match guardOf ops tm o with
  | some true => evOp E C rd nid tm o
  | some false => some ⟨.void, [], []⟩
  | none => none

/-- The operations of a region in the text's order; what each of them did. -/
def evOps (E : Env) (C : Callee) (ops : List Oper) : List Oper → Nat → List PV → List (Nat × PObj) → Option (List PV × List (Nat × PObj) × List Eff)
  | [], _, tm, h => some (tm, h, [])
  | o :: r, nid, tm, h => match stepOp E C ops (look h) nid tm o with
    | some e => match evOps E C ops r (nid + 64) (putD tm o.dst e.val) (applyUpd h e.upd) with
      | some (tm', h', es) => some (tm', h', e :: es)
      | none => none
    | none => none

def updIds : Upd → List Nat
  | [] => []
  | (a, _) :: r => a :: updIds r

def disj (xs ys : List Nat) : Bool := xs.all fun a => !has ys a

def apartE (a b : Eff) : Bool := disj (updIds a.upd) (b.foot ++ updIds b.upd) && disj (updIds b.upd) (a.foot ++ updIds a.upd)

/-- An operation that has nothing to do with memory. -/
def noMem : Op → Bool
  | .move _ | .assign _ | .pick .. | .nilCheck _ | .binOp .. | .unOp .. | .convert .. | .makeFunc .. | .fieldAddr .. | .field .. | .indexAddr .. | .index .. | .extract .. | .build .. => true
  | .slice _ _ _ _ none => true
  | .call { callee := .builtin b, .. } => match b with
    | .len | .min | .max => true
    | _ => false
  | _ => false

def isLoad : Op → Bool
  | .load .. => true
  | _ => false

def hasP : List (Nat × Nat) → Nat → Nat → Bool
  | [], _, _ => false
  | (a, b) :: r, i, j => (i == a && j == b) || hasP r i j

def pairOK (ops : Array Oper) (ps : List (Nat × Nat)) (i j : Nat) (x y : Oper) : Bool :=
  x.apart ops y && (noMem x.op || noMem y.op || (isLoad x.op && isLoad y.op) || hasP ps i j)

def edgesDown : List Oper → Nat → Bool
  | [], _ => true
  | o :: r, i => (o.after.toList.all fun e => !Region.binds .any e || decide (e.on < i)) && (match o.op with | .select _ _ => false | _ => true) && edgesDown r (i + 1)

def readyAt (md : Region.Mode) (done : List Nat) (o : Oper) : Bool := o.after.toList.all fun e => !Region.binds md e || has done e.on

def nextOf (md : Region.Mode) (done : List Nat) : Nat → List Oper → Option Nat
  | _, [] => none
  | i, o :: r => if !has done i && readyAt md done o then some i else nextOf md done (i + 1) r

def anOrder (md : Region.Mode) (ops : List Oper) : Nat → List Nat → List Nat
  | 0, _ => []
  | n + 1, done => match nextOf md done 0 ops with
    | some i => i :: anOrder md ops n (i :: done)
    | none => []

def orderOK (md : Region.Mode) (ops : List Oper) : List Nat → List Nat → Bool
  | done, [] => (List.range ops.length).all fun i => has done i
  | done, i :: r => (match ops[i]? with | some o => readyAt md done o | none => false) && orderOK md ops (i :: done) r

def nthL : List (List Nat) → Nat → List Nat
  | [], _ => []
  | x :: _, 0 => x
  | _ :: r, n + 1 => nthL r n

/-- What an operation waits for, near and far. -/
def befOf (acc : List (List Nat)) : List Edge → List Nat
  | [] => []
  | e :: r => if Region.binds .any e then e.on :: (nthL acc e.on ++ befOf acc r) else befOf acc r

def befs : List Oper → List (List Nat) → List (List Nat)
  | [], acc => acc
  | o :: r, acc => befs r (acc ++ [befOf acc o.after.toList])

def indepRow (ops : Array Oper) (ps : List (Nat × Nat)) (y : Oper) (bj : List Nat) : Nat → List Oper → Nat → Bool
  | i, x :: xs, j => decide (j ≤ i) || ((has bj i || pairOK ops ps i j x y) && indepRow ops ps y bj (i + 1) xs j)
  | _, _, _ => true

def indepAll (ops : Array Oper) (ps : List (Nat × Nat)) (xs : List Oper) : Nat → List Oper → List (List Nat) → Bool
  | j, y :: ys, bj :: r => indepRow ops ps y bj 0 xs j && indepAll ops ps xs (j + 1) ys r
  | _, _, _ => true

def nthE : List Eff → Nat → Eff
  | [], _ => ⟨.void, [], []⟩
  | e :: _, 0 => e
  | _ :: r, n + 1 => nthE r n

def pairsApart (es : List Eff) : List (Nat × Nat) → Bool
  | [] => true
  | (i, j) :: r => apartE (nthE es i) (nthE es j) && pairsApart es r

/-- No operation of the region waits for itself, in whatever mode; those that wait for one another in no way have nothing in common, but for what the pairs name. -/
def regionOK (ops : Array Oper) (ps : List (Nat × Nat)) : Bool :=
  edgesDown ops.toList 0 && orderOK .any ops.toList [] (anOrder .any ops.toList ops.size []) && orderOK .text ops.toList [] (anOrder .text ops.toList ops.size []) && orderOK .gc ops.toList [] (anOrder .gc ops.toList ops.size []) &&
  indepAll ops ps ops.toList 0 ops.toList (befs ops.toList [])

def codeOK (pairs : Nat → List (Nat × Nat)) : Code → Bool
  | .region id ops true => regionOK ops (pairs id)
  | .seq x y | .cond _ x y => codeOK pairs x && codeOK pairs y
  | .block _ x | .loop x => codeOK pairs x
  | _ => true

def evRegion (E : Env) (C : Callee) (ops : Array Oper) (draw : Bool) (ps : List (Nat × Nat)) (st : St) : Option St :=
  match evOps E C ops.toList ops.toList st.next st.tmps st.heap with
  | some (tm, h, es) => if !draw || pairsApart es ps then some ⟨tm, h, st.next + 64 * ops.size⟩ else none
  | none => none

/-! ### code -/
inductive Ex where
  | normal | exit (id : Nat) | ret
  deriving DecidableEq

/-- A nil slice becomes a row without elements. -/
def normCell (v : PV) (h : List (Nat × PObj)) (next k : Nat) (flat : Bool) : PV × List (Nat × PObj) × Nat :=
  match v with
  | .nils => (.own next k 0 0, setObj h next (.arr k [] flat false), next + 1)
  | v => (v, h, next)

def normIn (v : PV) (h : List (Nat × PObj)) (next : Nat) : List (Nat × Nat × Bool) → PV × List (Nat × PObj) × Nat
  | [] => (v, h, next)
  | (c, k, flat) :: r => match v with
    | .ptr a 0 => match look h a with
      | some (.box cs) => match normCell (nth cs c) h next k flat with
        | (x, h', nx) => normIn v (setObj h' a (.box (put cs c x))) nx r
      | _ => normIn v h next r
    | v => match normCell v h next k flat with
      | (x, h', nx) => normIn x h' nx r

/-- Only the named slots are kept; in them nil slices become rows. -/
def keepT (h : List (Nat × PObj)) (next : Nat) (tm : List PV) : Nat → List (Nat × List (Nat × Nat × Bool)) → List PV × List (Nat × PObj) × Nat
  | n, ks => match tm with
    | [] => ([], h, next)
    | v :: r => match ks with
      | [] => match keepT h next r (n + 1) [] with
        | (r', h', nx) => (.undef :: r', h', nx)
      | (t, cs) :: ks' =>
        if t == n then match normIn v h next cs with
          | (v', h', nx) => match keepT h' nx r (n + 1) ks' with
            | (r', h'', nx') => (v' :: r', h'', nx')
        else match keepT h next r (n + 1) ks with
          | (r', h', nx) => (.undef :: r', h', nx)

def canon (roots : List Nat) (vals : List PV) (h : List (Nat × PObj)) : List PV × List (Nat × PObj) × Nat :=
  let L := order (look h) roots vals
  let g := fun a => pos L a 0
  (rens g vals, picks (look h) g L 0, L.length)

def upto : Nat → List Nat
  | 0 => []
  | n + 1 => upto n ++ [n]

/-- Behind a round: what no kept slot leads to is forgotten (but for the places that came in), and the places are numbered anew. -/
def clean (nr : Nat) (ks : List (Nat × List (Nat × Nat × Bool))) (st : St) : St :=
  match keepT st.heap st.next st.tmps 0 ks with
  | (tm, h, nx) => match canon (upto nr) tm h with
    | (tm', h', nx') => ⟨tm', h', nx'⟩

def cleanAt (nr : Nat) (ks : Option (List (Nat × List (Nat × Nat × Bool)))) (st : St) : St :=
  match ks with
  | none => st
  | some ks => clean nr ks st

def iter (cl : St → St) (g : St → Option (Ex × St)) : Nat → St → Option (Ex × St)
  | 0, _ => none
  | n + 1, st => match g (cl st) with
    | some (.normal, st') => iter cl g n st'
    | r => r

def evCode (E : Env) (C : Callee) (n f nr : Nat) : Nat → Code → St → Option (Ex × St)
  | _, .skip, st => some (.normal, st)
  | _, .region id ops draw, st => (evRegion E C ops draw (E.pairs f id) (cleanAt nr (E.keepR f id) st)).map fun st => (.normal, st)
  | b, .seq x y, st => match evCode E C n f nr b x st with
    | some (.normal, st') => evCode E C n f nr b y st'
    | r => r
  | b, .cond c x y, st => match opnd st.tmps c with
    | some (.bool t) => if t then evCode E C n f nr b x st else evCode E C n f nr b y st
    | _ => none
  | _, .block id x, st => match evCode E C n f nr id x st with
    | some (.exit i, st') => if i = id then some (.normal, st') else some (.exit i, st')
    | r => r
  | b, .loop x, st => iter (clean nr (E.keep f b)) (evCode E C n f nr b x) n st
  | _, .exit id, st => some (.exit id, st)
  | _, .ret, st => some (.ret, st)
  | _, _, _ => none

def resultOf (tab : Nat → Option TI) (st : St) : ResultVar → Option PV
  | .tmp t => some (nth st.tmps t)
  | .cell a t => match tab t with
    | some ti => (loadAt (look st.heap) ti (nth st.tmps a)).map (·.val)
    | none => none

def resultsOf (tab : Nat → Option TI) (st : St) : List ResultVar → Option (List PV)
  | [] => some []
  | r :: rs => match resultOf tab st r, resultsOf tab st rs with
    | some v, some vs => some (v :: vs)
    | _, _ => none

def pack : List PV → PV
  | [v] => v
  | vs => .tup vs

def runBody (E : Env) (C : Callee) (n f nr : Nat) (args : List PV) (h : List (Nat × PObj)) (next : Nat) : Option (PV × List (Nat × PObj) × Nat) :=
  match E.code f with
  | some fn => match fn.body with
    | some c => match evCode E C n f nr 0 c ⟨args ++ List.replicate (fn.ntmps - args.length) .undef, h, next⟩ with
      | some (ex, st1) => if ex = .normal ∨ ex = .ret then
          let st := cleanAt nr (E.keepE f) st1
          match resultsOf E.tab st fn.results.toList with
          | some vs => some (pack vs, st.heap, st.next)
          | none => none
        else none
      | none => none
    | none => none
  | none => none

def normArgs (h : List (Nat × PObj)) (next : Nat) (args : List PV) (ks : List (Nat × List (Nat × Nat × Bool))) : List (Nat × PObj) × Nat :=
  match ks with
  | [] => (h, next)
  | (i, cs) :: r => match normIn (nth args i) h next cs with
    | (_, h', nx) => normArgs h' nx args r

/-- The most rounds of a loop. -/
def loopMax : Nat := 4611686018427387904

/-- One level of calls more. -/
def level (E : Env) (C : Callee) : Callee :=
    { pureC := fun f args => match E.primP f with
        | some p => p args
        | none => match runBody E C loopMax f 0 args [] 0 with
          | some (v, h, _) => exportR (look h) v (E.resK f)
          | none => none
      refC := fun f r args h next => match E.primR f with
        | some p => p args h next
        | none =>
          match normArgs h next args (E.norm f) with
          | (h1, nx1) =>
            let L := order (look h1) (upto r) []
            let g := fun a => pos L a 0
            match runBody E C loopMax f r (rens g args) (picks (look h1) g L 0) L.length with
            | some (v, h2, _) =>
              match canon (upto r) [v] h2 with
              | ([v'], h3, nx3) => some (v', h3, nx3)
              | _ => none
            | none => none }

def run (E : Env) : Nat → Callee
  | 0 => ⟨fun _ _ => none, fun _ _ _ _ _ => none⟩
  | n + 1 => level E (run E n)

end Go.Pm
