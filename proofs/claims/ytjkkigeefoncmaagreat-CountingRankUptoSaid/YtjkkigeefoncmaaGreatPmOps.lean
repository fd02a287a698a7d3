/-
  What the machine does at an operation is what the evaluator says: the operations that leave memory alone.
-/
import Derived.Test.YtjkkigeefoncmaaGreatPmRel
set_option linter.unusedVariables false
set_option linter.unusedSimpArgs false
namespace Go.Pm
open Go

/-- Cells of plain data and their values. -/
def Ps (ps : List PV) (vs : List Value) : Prop := ps.length = vs.length ∧ ∀ (i : Nat) (c : PV) (v : Value), ps[i]? = some c → vs[i]? = some v → V default (fun _ => False) (fun _ => none) c v

/-- '==' at this type compares cell by cell. -/
def EqOK (P : Program) (t : Nat) : Prop := P.eqGuardType P.depth t = false ∧ ∀ (ps qs : List PV) (xs ys : Array Value) (b : Bool) (w : World),
  Ps ps xs.toList → Ps qs ys.toList → eqCells ps qs = some b → (Op.equal t (.agg xs) (.agg ys)).run P w = .ok b w

structure TIok (P : Program) (t : Nat) (ti : TI) : Prop where
  info : ∃ (i : TypeInfo) (z : Value), P.info? t = some i ∧ i.size = ti.size ∧ i.bytes = ti.bytes ∧ i.zero = some z ∧ z.cells.toList.map constPV = ti.zero.map some ∧ ti.zero.length = ti.size
  agg : ∀ w, (isAgg t).run P w = .ok (isAggK ti.kind) w
  kind : match ti.kind with
    | .bool => P.underlying t = some .bool
    | .int k => P.underlying t = some (.int k)
    | .str => P.underlying t = some .string
    | .slice e => P.underlying t = some (.slice e)
    | .struct fs => ∃ fields : Array Field, P.underlying t = some (.struct fields) ∧ fields.toList.map (fun f => (f.offset, f.type)) = fs
    | .array n e => P.underlying t = some (.array n e)
    | .ptr => ∃ e, P.underlying t = some (.pointer e)
    | .func => ∃ ps rs v, P.underlying t = some (.func ps rs v)
    | .other => True
  eq : ti.eqok = true → EqOK P t
  parts : ∀ fields : Array Field, P.underlying t = some (.struct fields) → ∀ f ∈ fields.toList, (P.info? f.type).isSome = true

theorem TIok.size {P : Program} {t : Nat} {ti : TI} (h : TIok P t ti) (w : World) : (sizeOf t).run P w = .ok ti.size w := by
  obtain ⟨i, z, h1, h2, h3, h4, h5, h6⟩ := h.info
  simp [sizeOf, typeInfo, h1, h2]

def TabOK (P : Program) (tab : Nat → Option TI) : Prop := ∀ t ti, tab t = some ti → TIok P t ti

structure TmRel (w : World) (B : Nat → Prop) (β : Map) (tm : List PV) (a : Act) : Prop where
  len : tm.length = a.tmps.size
  val : ∀ t, V w B β (nth tm t) (a.tmps.getD t Go.undef)
  def0 : a.defers = []

theorem const_ok {w : World} {B : Nat → Prop} {β : Map} {v : Value} {p : PV} (h : constPV v = some p) : V w B β p v ∧ v.oneCell' = true ∧ oneP p = true := by
  unfold constPV at h
  split at h <;> simp at h <;> subst h <;> exact ⟨by constructor, rfl, rfl⟩

section
variable {P : Program} {w : World} {B : Nat → Prop} {β : Map} {tm : List PV} {a : Act}

theorem opnd_ok (ha : TmRel w B β tm a) {x : Operand} {p : PV} (h : opnd tm x = some p) : V w B β p (a.eval x) := by
  cases x with
  | tmp t => simp [opnd] at h; subst h; exact ha.val t
  | const v => exact (const_ok h).1
  | global g => simp [opnd] at h
  | func f => simp [opnd] at h; subst h; exact .fn f [] #[] rfl fun i c v h1 _ => by simp at h1

theorem opndl_ok (ha : TmRel w B β tm a) : ∀ {xs : List Operand} {ps : List PV}, opndl tm xs = some ps → Vs w B β ps (xs.map a.eval)
  | [], ps, h => by simp [opndl] at h; subst h; exact .nil
  | x :: r, ps, h => by
    simp only [opndl] at h
    split at h <;> simp at h
    rename_i v vs hv hvs
    subst h
    exact .cons (opnd_ok ha hv) (opndl_ok ha hvs)

theorem opnds_ok (ha : TmRel w B β tm a) : ∀ {xs : List (Nat × Operand)} {ps : List PV}, opnds tm xs = some ps → Vs w B β ps (xs.map fun x => a.eval x.2)
  | [], ps, h => by simp [opnds] at h; subst h; exact .nil
  | (i, x) :: r, ps, h => by
    simp only [opnds] at h
    split at h <;> simp at h
    rename_i v vs hv hvs
    subst h
    exact .cons (opnd_ok ha hv) (opnds_ok ha hvs)

theorem V.int_inv {k : IntKind} {n : Int} {v : Value} (h : V w B β (.int k n) v) : v = .int k n := by cases h; rfl
theorem V.bool_inv {b : Bool} {v : Value} (h : V w B β (.bool b) v) : v = .bool b := by cases h; rfl
theorem V.str_inv {s : ByteArray} {v : Value} (h : V w B β (.str s) v) : v = .string s := by cases h; rfl

theorem oneP_ok {p : PV} {v : Value} (h : V w B β p v) (hp : oneP p = true) : v.oneCell' = true := by
  cases h <;> simp [oneP] at hp <;> rfl

theorem cellsOf_ok {p : PV} {v : Value} {cs : List PV} (h : V w B β p v) (hc : cellsOf p = some cs) : Vs w B β cs v.cells.toList ∧ (∀ u ∈ v.cells.toList, u.oneCell' = true) := by
  unfold cellsOf at hc
  split at hc
  · simp at hc; subst hc
    obtain ⟨vs, rfl, h1, h2⟩ := Vs.of_agg h
    exact ⟨h1, h2⟩
  · rename_i p' hp'
    split at hc <;> simp at hc
    rename_i ho
    subst hc
    have h1 := oneP_ok h ho
    have h2 : v.cells = #[v] := by cases v <;> simp [Value.oneCell'] at h1 <;> rfl
    rw [h2]
    exact ⟨.cons h .nil, fun u hu => by simp at hu; subst hu; exact h1⟩

/-- What an operation that leaves memory alone comes to. -/
def Quiet (P : Program) (w : World) (B : Nat → Prop) (β : Map) (a : Act) (o : Oper) (e : Eff) : Prop :=
  e.upd = [] ∧ ∃ v, (execOp a.eval o).run P w = .ok (.value v) w ∧ V w B β e.val v

theorem quiet_of {o : Oper} {p : PV} {l : List Nat} {s : Sem Value} {v : Value} (he : execOp a.eval o = (do pure (.value (← s)))) (hr : s.run P w = .ok v w) (hv : V w B β p v) :
    Quiet P w B β a o ⟨p, [], l⟩ := ⟨rfl, v, by rw [he]; simp [hr], hv⟩

theorem int_bin {op : BinOp} {k : IntKind} {x y : Int} {p : PV} {t : TypeId} {gg : Option TI} (h : binPV gg op (.int k x) (.int k y) = some p) : ∃ v, (binOp op t (.int k x) (.int k y)).run P w = .ok v w ∧ V w B β p v := by
  cases op <;> simp only [binPV, eqPV, ↓reduceIte, Option.map_some, Option.some.injEq, reduceCtorEq, Option.ite_none_right_eq_some, Option.ite_none_left_eq_some] at h
  case shl => obtain ⟨h0, rfl⟩ := h; exact ⟨_, by simp [binOp, Op.shift, Int.not_lt.2 h0], .int ..⟩
  case shr => obtain ⟨h0, rfl⟩ := h; exact ⟨_, by simp [binOp, Op.shift, Int.not_lt.2 h0], .int ..⟩
  case quo => obtain ⟨h0, rfl⟩ := h; exact ⟨_, by simp [binOp, Op.intDiv, h0], .int ..⟩
  case rem => obtain ⟨h0, rfl⟩ := h; exact ⟨_, by simp [binOp, Op.intDiv, h0], .int ..⟩
  all_goals (subst h; exact ⟨_, (by simp only [binOp, ne_eq, not_true_eq_false, ↓reduceIte]; rfl), by constructor⟩)

theorem eqCells_plain : ∀ {ps qs : List PV} {b : Bool}, eqCells ps qs = some b → (∀ p ∈ ps, plainCell p = true) ∧ (∀ p ∈ qs, plainCell p = true)
  | [], [], b, _ => ⟨by simp, by simp⟩
  | [], _ :: _, b, h => by simp [eqCells] at h
  | _ :: _, [], b, h => by simp [eqCells] at h
  | x :: xs, y :: ys, b, h => by
    simp only [eqCells] at h
    split at h <;> simp at h
    rename_i a c h1 h2
    have := eqCells_plain h2
    constructor
    · intro p hp
      rcases List.mem_cons.1 hp with rfl | hp
      · cases p <;> simp [eqCell] at h1 <;> rfl
      · exact this.1 p hp
    · intro p hp
      rcases List.mem_cons.1 hp with rfl | hp
      · cases p <;> cases x <;> simp [eqCell] at h1 <;> rfl
      · exact this.2 p hp

theorem Ps.of_Vs {ps : List PV} {vs : List Value} (h : Vs w B β ps vs) (hp : ∀ p ∈ ps, plainCell p = true) : Ps ps vs :=
  ⟨h.1, fun i c v h1 h2 => (h.2 i c v h1 h2).plain (hp c (List.mem_of_getElem? h1))⟩

theorem guard_plain {op : BinOp} {t : TypeId} {x y : Operand} {u v : Value} (h : ∀ ts us, u = .agg ts → v = .agg us → P.eqGuardType P.depth t = false) (h' : u ≠ .nilIface) :
    (eqGuard op t x y u v).run P w = .ok () w := by
  have key : ∀ op : BinOp, (op = .eql ∨ op = .neq) → (eqGuard op t x y u v).run P w = .ok () w := by
    intro op hop
    rcases hop with rfl | rfl <;>
    · unfold eqGuard
      simp only [Bool.not_true, Bool.false_eq_true, ↓reduceIte]
      split
      · exact absurd rfl h'
      · simp [h _ _ rfl rfl]
      · rfl
  cases op <;> first | rfl | exact key _ (by simp)

theorem V.not_iface {p : PV} {v : Value} (h : V w B β p v) (hp : p ≠ .undef) : v ≠ .nilIface := by
  cases h <;> simp at hp ⊢
  simp [Go.undef]

theorem equal_step {t : TypeId} {d : TypeDesc} (h : P.underlying t = some d) (x y : Value) : (Op.equal t x y).run P w = (Op.equalIn Op.maxDepth t x y).run P w := rfl

theorem eq_bool {t : TypeId} (h : P.underlying t = some .bool) (a b : Bool) : (Op.equal t (.bool a) (.bool b)).run P w = .ok (a == b) w := by
  unfold Op.equal Op.maxDepth Op.equalIn
  simp only [Sem.run_bind, run_underlying h, Result.andThen_ok]; rfl
theorem eq_nilslice {t e : TypeId} (h : P.underlying t = some (.slice e)) (a : Option Addr) (n c : Nat) : (Op.equal t (.slice a n c) (.slice none 0 0)).run P w = .ok a.isNone w := by
  unfold Op.equal Op.maxDepth Op.equalIn
  simp only [Sem.run_bind, run_underlying h, Result.andThen_ok]
  cases a <;> rfl
theorem eq_nilptr {t e : TypeId} (h : P.underlying t = some (.pointer e)) (a : Option Addr) : (Op.equal t (.pointer a) (.pointer none)).run P w = .ok a.isNone w := by
  unfold Op.equal Op.maxDepth Op.equalIn
  simp only [Sem.run_bind, run_underlying h, Result.andThen_ok]
  cases a <;> rfl
theorem eq_nilfunc {t : TypeId} {ps rs : Array TypeId} {v : Bool} (h : P.underlying t = some (.func ps rs v)) : (Op.equal t .nilFunc .nilFunc).run P w = .ok true w := by
  unfold Op.equal Op.maxDepth Op.equalIn
  simp only [Sem.run_bind, run_underlying h, Result.andThen_ok]; rfl
theorem eq_func {t : TypeId} {ps rs : Array TypeId} {v : Bool} (h : P.underlying t = some (.func ps rs v)) (f : Fn) (x y : Array Value) : (Op.equal t (.func f x y) .nilFunc).run P w = .ok false w := by
  unfold Op.equal Op.maxDepth Op.equalIn
  simp only [Sem.run_bind, run_underlying h, Result.andThen_ok]; rfl

theorem bin_of {t : TypeId} {u v : Value} {b : Bool} (h : (Op.equal t u v).run P w = .ok b w) (h1 : binOp .eql t u v = (do pure (.bool (← Op.equal t u v)))) (h2 : binOp .neq t u v = (do pure (.bool (!(← Op.equal t u v))))) :
    (binOp .eql t u v).run P w = .ok (.bool b) w ∧ (binOp .neq t u v).run P w = .ok (.bool (!b)) w := by
  rw [h1, h2]
  simp only [Sem.run_bind, h, Result.andThen_ok, Sem.run_pure, and_self]

set_option maxHeartbeats 800000 in
theorem eq_ok {tab : Nat → Option TI} (hT : TabOK P tab) {t : TypeId} {x y : PV} {u v : Value} {b : Bool} (h : eqPV (tab t) x y = some b) (hu : V w B β x u) (hv : V w B β y v) :
    (∀ ts us, u = .agg ts → v = .agg us → P.eqGuardType P.depth t = false) ∧ u ≠ .nilIface ∧
    (binOp .eql t u v).run P w = .ok (.bool b) w ∧ (binOp .neq t u v).run P w = .ok (.bool (!b)) w := by
  unfold eqPV at h
  split at h
  · rename_i k a k' c
    split at h <;> simp at h
    subst h; rename_i hk; subst hk
    cases hu; cases hv
    exact ⟨by simp, by simp, by simp only [binOp, ne_eq, not_true_eq_false, ↓reduceIte]; rfl, by simp only [binOp, ne_eq, not_true_eq_false, ↓reduceIte]; rfl⟩
  · split at h <;> simp at h
    subst h
    rename_i hk
    have hki := (hT t _ hk).kind
    simp only at hki
    cases hu; cases hv
    exact ⟨by simp, by simp, bin_of (eq_bool hki _ _) rfl rfl⟩
  · simp at h; subst h
    cases hu; cases hv
    exact ⟨by simp, by simp, by simp [binOp, Op.stringOp], by simp [binOp, Op.stringOp]⟩
  · split at h <;> simp at h
    obtain ⟨he, h⟩ := h
    rename_i ti hti
    obtain ⟨hg, heq⟩ := (hT t ti hti).eq he
    obtain ⟨us, rfl, h1, _⟩ := Vs.of_agg hu
    obtain ⟨vs, rfl, h2, _⟩ := Vs.of_agg hv
    obtain ⟨p1, p2⟩ := eqCells_plain h
    have := heq _ _ us vs b w (Ps.of_Vs h1 p1) (Ps.of_Vs h2 p2) h
    exact ⟨fun _ _ _ _ => hg, by simp, bin_of this rfl rfl⟩
  · cases hti : tab t with
    | none => rw [hti] at h; simp at h
    | some ti =>
    rw [hti] at h
    simp only at h
    have hki := (hT t ti hti).kind
    generalize ti.kind = kd at h hki
    unfold eqNil at h
    split at h <;> simp at h <;> subst h <;> simp only at hki
    · cases hu; cases hv
      exact ⟨by simp, by simp, bin_of (eq_nilslice hki _ _ _) rfl rfl⟩
    · cases hu; cases hv
      exact ⟨by simp, by simp, bin_of (eq_nilslice hki _ _ _) rfl rfl⟩
    · cases hu; cases hv
      exact ⟨by simp, by simp, bin_of (eq_nilslice hki _ _ _) rfl rfl⟩
    · obtain ⟨e, hki⟩ := hki
      cases hu; cases hv
      exact ⟨by simp, by simp, bin_of (eq_nilptr hki _) rfl rfl⟩
    · obtain ⟨e, hki⟩ := hki
      cases hu; cases hv
      exact ⟨by simp, by simp, bin_of (eq_nilptr hki _) rfl rfl⟩
    · obtain ⟨ps, rs, v, hki⟩ := hki
      cases hu; cases hv
      exact ⟨by simp, by simp, bin_of (eq_nilfunc hki) rfl rfl⟩
    · obtain ⟨ps, rs, v, hki⟩ := hki
      cases hu; cases hv
      exact ⟨by simp, by simp, bin_of (eq_func hki _ _ _) rfl rfl⟩

theorem bin_ok {tab : Nat → Option TI} (hT : TabOK P tab) {op : BinOp} {t : TypeId} {x y : PV} {u v : Value} {p : PV} (h : binPV (tab t) op x y = some p) (hu : V w B β x u) (hv : V w B β y v) (xo yo : Operand) :
    ∃ r, (do eqGuard op t xo yo u v; binOp op t u v : Sem Value).run P w = .ok r w ∧ V w B β p r := by
  have ints : ∀ (k : IntKind) (a b : Int), x = .int k a → y = .int k b → ∃ r, (do eqGuard op t xo yo u v; binOp op t u v : Sem Value).run P w = .ok r w ∧ V w B β p r := by
    intro k a b hx hy
    subst hx; subst hy
    cases hu; cases hv
    obtain ⟨r, h1, h2⟩ := int_bin (P := P) (w := w) (B := B) (β := β) (t := t) h
    exact ⟨r, by simp only [Sem.run_bind]; rw [guard_plain (by simp) (by simp)]; exact h1, h2⟩
  have eqs : ∀ b, eqPV (tab t) x y = some b → ((op = .eql ∧ p = .bool b) ∨ (op = .neq ∧ p = .bool (!b))) → ∃ r, (do eqGuard op t xo yo u v; binOp op t u v : Sem Value).run P w = .ok r w ∧ V w B β p r := by
    intro b hb hop
    obtain ⟨h1, h2, h3, h4⟩ := eq_ok hT hb hu hv
    rcases hop with ⟨rfl, rfl⟩ | ⟨rfl, rfl⟩
    · exact ⟨_, by simp only [Sem.run_bind]; rw [guard_plain h1 h2]; exact h3, .bool _⟩
    · exact ⟨_, by simp only [Sem.run_bind]; rw [guard_plain h1 h2]; exact h4, .bool _⟩
  unfold binPV at h
  split at h
  · cases he : eqPV (tab t) x y with
    | none => rw [he] at h; simp at h
    | some b => rw [he] at h; simp at h; exact eqs b he (.inl ⟨rfl, h.symm⟩)
  · cases he : eqPV (tab t) x y with
    | none => rw [he] at h; simp at h
    | some b => rw [he] at h; simp at h; exact eqs b he (.inr ⟨rfl, h.symm⟩)
  · split at h
    · rename_i k a k' b
      split at h
      · rename_i h0
        simp at h; subst h
        cases hu; cases hv
        exact ⟨_, by simp only [Sem.run_bind]; rw [guard_plain (by simp) (by simp)]; simp [binOp, Op.shift, Int.not_lt.2 h0], .int ..⟩
      · simp at h
    · simp at h
  · split at h
    · rename_i k a k' b
      split at h
      · rename_i h0
        simp at h; subst h
        cases hu; cases hv
        exact ⟨_, by simp only [Sem.run_bind]; rw [guard_plain (by simp) (by simp)]; simp [binOp, Op.shift, Int.not_lt.2 h0], .int ..⟩
      · simp at h
    · simp at h
  · split at h
    · rename_i k a k' b
      split at h
      · rename_i hk
        subst hk
        refine ints k a b rfl rfl
      · simp at h
    · simp at h

theorem un_ok {op : UnOp} {x : PV} {u : Value} {p : PV} (h : unPV op x = some p) (hu : V w B β x u) : ∃ r, (Op.unary op u).run P w = .ok r w ∧ V w B β p r := by
  unfold unPV at h
  split at h <;> simp only [Option.some.injEq, reduceCtorEq] at h <;> subst h <;> cases hu
  · exact ⟨_, rfl, .bool _⟩
  · exact ⟨_, rfl, .int ..⟩

theorem nth_get : ∀ {l : List PV} {i : Nat} {v : PV}, l[i]? = some v → nth l i = v
  | [], i, v, h => by simp at h
  | x :: r, 0, v, h => by simpa [nth] using h
  | x :: r, i + 1, v, h => by simp [nth]; exact nth_get (by simpa using h)

theorem extract_ok {vs : List PV} {i : Nat} {p : PV} {u : Value} (h : vs[i]? = some p) (hu : V w B β (.tup vs) u) : ∃ r, (Instr.extract u i).run P w = .ok r w ∧ V w B β p r := by
  obtain ⟨us, rfl, h1⟩ := Vs.of_tup hu
  obtain ⟨v, h2, h3⟩ := h1.get h
  refine ⟨v, ?_, h3⟩
  simp only [Array.getElem?_toList] at h2
  simp [Instr.extract, h2]

theorem len_ok {tab : Nat → Option TI} (hT : TabOK P tab) {t e : Nat} {ti : TI} (ht : tab t = some ti) (hk : ti.kind = .slice e) {x : PV} {u : Value} {n : Nat} (h : lenPV x = some n) (hs : ∀ s, x ≠ .str s) (hu : V w B β x u)
    (rest : List Nat) (ty : TypeId) : (Builtin.len_ (t :: rest).toArray ty #[u]).run P w = .ok (.int .i64 n) w := by
  have hki := (hT t ti ht).kind
  rw [hk] at hki
  simp only at hki
  unfold lenPV at h
  split at h <;> simp at h <;> subst h <;> cases hu <;> simp at hs <;> simp [Builtin.len_, underlying, hki, goInt]

theorem lenstr_ok {tab : Nat → Option TI} (hT : TabOK P tab) {t : Nat} {ti : TI} (ht : tab t = some ti) (hk : ti.kind = .str) (s : ByteArray)
    (rest : List Nat) (ty : TypeId) : (Builtin.len_ (t :: rest).toArray ty #[.string s]).run P w = .ok (.int .i64 s.size) w := by
  have hki := (hT t ti ht).kind
  rw [hk] at hki
  simp only at hki
  simp [Builtin.len_, underlying, hki, goInt]

theorem lenarr_ok {tab : Nat → Option TI} (hT : TabOK P tab) {t n e : Nat} {ti : TI} (ht : tab t = some ti) (hk : ti.kind = .array n e) (u : Value)
    (rest : List Nat) (ty : TypeId) : (Builtin.len_ (t :: rest).toArray ty #[u]).run P w = .ok (.int .i64 n) w := by
  have hki := (hT t ti ht).kind
  rw [hk] at hki
  simp only at hki
  cases u <;> simp [Builtin.len_, underlying, hki, goInt]

theorem min_ok {k : IntKind} : ∀ {r : List PV} {n m : Int} {us : List Value}, foldMin n r = some m → Vs w B β r us → (List.foldlM Builtin.min2 (.int k n) us).run P w = .ok (.int k m) w
  | [], n, m, us, h, hu => by simp [foldMin] at h; subst h; rw [hu.of_nil]; rfl
  | p :: r, n, m, us, h, hu => by
    obtain ⟨u, us', rfl, h1, h2⟩ := hu.uncons
    cases p <;> simp [foldMin] at h
    cases h1
    simp only [List.foldlM_cons, Sem.run_bind]
    simp only [Builtin.min2, Sem.run_pure, Result.andThen_ok]
    exact min_ok h h2

theorem max_ok {k : IntKind} : ∀ {r : List PV} {n m : Int} {us : List Value}, foldMax n r = some m → Vs w B β r us → (List.foldlM Builtin.max2 (.int k n) us).run P w = .ok (.int k m) w
  | [], n, m, us, h, hu => by simp [foldMax] at h; subst h; rw [hu.of_nil]; rfl
  | p :: r, n, m, us, h, hu => by
    obtain ⟨u, us', rfl, h1, h2⟩ := hu.uncons
    cases p <;> simp [foldMax] at h
    cases h1
    simp only [List.foldlM_cons, Sem.run_bind]
    simp only [Builtin.max2, Sem.run_pure, Result.andThen_ok]
    exact max_ok h h2

/-- Some cells in memory, from a place on. -/
def CellsAt (w : World) (B : Nat → Prop) (β : Map) (b o : Nat) (cs : List PV) : Prop :=
  ∃ vs : List Value, Vs w B β cs vs ∧ (∀ v ∈ vs, v.oneCell' = true) ∧ ∀ j v, vs[j]? = some v → w.cell? ⟨b, o + j, none⟩ = some v

theorem add_none (b o n : Nat) : (⟨b, o, none⟩ : Addr).add n = ⟨b, o + n, none⟩ := by
  unfold Addr.add; split
  · subst_vars; rfl
  · rfl

theorem CellsAt.slab {b p : Nat} {cs : List PV} (h : CellsAt w B β b p cs) (o n : Nat) : CellsAt w B β b (p + o) (slab cs o n) := by
  obtain ⟨vs, h1, h2, h3⟩ := h
  refine ⟨(vs.drop o).take n, (h1.drop o).take n, fun v hv => h2 v (List.mem_of_mem_drop (List.mem_of_mem_take hv)), fun j v hj => ?_⟩
  rw [List.getElem?_take] at hj
  split at hj
  · rw [List.getElem?_drop] at hj
    rw [Nat.add_assoc]; exact h3 _ v hj
  · simp at hj

theorem ofCells_ok {t : Nat} {ti : TI} (hi : TIok P t ti) {cs : List PV} {p : PV} (h : ofCells ti cs = some p) {b o : Nat} (hc : CellsAt w B β b o cs) :
    ∃ v, (loadVar t ⟨b, o, none⟩).run P w = .ok v w ∧ V w B β p v := by
  obtain ⟨vs, h1, h2, h3⟩ := hc
  unfold ofCells at h
  split at h
  · rename_i hk
    split at h <;> simp at h
    subst h
    rename_i hl
    simp only [beq_iff_eq] at hl
    refine ⟨.agg vs.toArray, ?_, h1.agg h2⟩
    have hl' : ti.size = vs.length := by rw [← hl, h1.1]
    have := run_loadCells_list (P := P) (w := w) ⟨b, o, none⟩ vs (fun j v hj => by rw [add_none]; exact h3 j v hj)
    simp only [loadVar, Sem.run_bind, hi.agg w, hk, Result.andThen_ok, ↓reduceIte, hi.size w, hl', this, Sem.run_pure]
  · rename_i hk
    split at h <;> simp at h
    subst h
    obtain ⟨v, vs', rfl, h4, h5⟩ := h1.uncons
    refine ⟨v, ?_, h4⟩
    have := h3 0 v rfl
    simp at this
    simp only [loadVar, Sem.run_bind, hi.agg w, Bool.not_eq_true] at hk ⊢
    simp [hk, this]

/-- The cells that a pointer leads to. -/
theorem rowcells {xs : List (List PV)} {b off k : Nat} {val : Nat → Nat → Value} (hcell : ∀ (i : Nat) (x : List PV) (j : Nat) (c : PV), xs[i]? = some x → x[j]? = some c → w.cell? ⟨b, off + i * k + j, none⟩ = some (val i j))
    (ho : ∀ (i : Nat) (x : List PV) (j : Nat) (c : PV), xs[i]? = some x → x[j]? = some c → (val i j).oneCell' = true)
    (hv : ∀ (i : Nat) (x : List PV) (j : Nat) (c : PV), xs[i]? = some x → x[j]? = some c → V w B β c (val i j)) {i : Nat} {x : List PV} (hx : xs[i]? = some x) :
    CellsAt w B β b (off + i * k) x := by
  refine ⟨(List.range x.length).map (val i), ⟨by simp, fun j c v h1 h2 => ?_⟩, fun v hm => ?_, fun j v hj => ?_⟩
  · have hj : j < x.length := by rcases Nat.lt_or_ge j x.length with h' | h'; exact h'; simp [List.getElem?_eq_none h'] at h1
    simp [hj] at h2; subst h2
    exact hv i x j c hx h1
  · simp only [List.mem_map, List.mem_range] at hm
    obtain ⟨j, hj, rfl⟩ := hm
    exact ho i x j _ hx (List.getElem?_eq_getElem hj)
  · have hj' : j < x.length := by
      rcases Nat.lt_or_ge j x.length with h' | h'
      · exact h'
      · rw [List.getElem?_eq_none (by simpa using h')] at hj; simp at hj
    simp [hj'] at hj; subst hj
    simpa using hcell i x j _ hx (List.getElem?_eq_getElem hj')

theorem boxcells {rd : Rd} (hs : Sim w B β rd) {a : Nat} {cs : List PV} (h : rd a = some (.box cs)) {l : Loc} (hl : β a = some l) : CellsAt w B β l.block l.off cs := by
  obtain ⟨m, c, e, h1, h2, h3, h4, h5⟩ := hs.box a cs h
  rw [hl] at h1; obtain rfl := Option.some.inj h1
  refine ⟨c.toList, h4, h5, fun j v hj => ?_⟩
  simp only [Array.getElem?_toList] at hj
  simp [World.cell?, h3, h2, hj]

theorem arrcells {rd : Rd} (hs : Sim w B β rd) {a k : Nat} {xs : List (List PV)} {fl fz : Bool} (h : rd a = some (.arr k xs fl fz)) {l : Loc} (hl : β a = some l) {i : Nat} {x : List PV} (hx : xs[i]? = some x) :
    CellsAt w B β l.block (l.off + i * l.k) x := by
  obtain ⟨_, _, h3⟩ := hs.arr a k xs fl fz h
  rcases h3 with ⟨rfl, _⟩ | ⟨m, c, e, h1, h2, h4, h5⟩
  · simp at hx
  · rw [hl] at h1; obtain rfl := Option.some.inj h1
    have hval : ∀ j, j < x.length → ∃ v, c[l.off + i * l.k + j]? = some v ∧ v.oneCell' = true ∧ V w B β (nth x j) v := fun j hj => by
      obtain ⟨v, g1, g2, g3⟩ := h5 i x j _ hx (List.getElem?_eq_getElem hj)
      exact ⟨v, g1, g2, by rw [nth_get (List.getElem?_eq_getElem hj)]; exact g3.lift⟩
    refine ⟨(List.range x.length).map fun j => (c[l.off + i * l.k + j]?).getD default, ⟨by simp, fun j p v g1 g2 => ?_⟩, fun v hm => ?_, fun j v hj => ?_⟩
    · have hj : j < x.length := by rcases Nat.lt_or_ge j x.length with h' | h'; exact h'; simp [List.getElem?_eq_none h'] at g1
      obtain ⟨u, e1, e2, e3⟩ := hval j hj
      simp [hj, e1] at g2; subst g2
      rw [nth_get g1] at e3; exact e3
    · simp only [List.mem_map, List.mem_range] at hm
      obtain ⟨j, hj, rfl⟩ := hm
      obtain ⟨u, e1, e2, e3⟩ := hval j hj
      simpa [e1] using e2
    · have hj' : j < x.length := by
        rcases Nat.lt_or_ge j x.length with h' | h'
        · exact h'
        · rw [List.getElem?_eq_none (by simpa using h')] at hj; simp at hj
      obtain ⟨u, e1, e2, e3⟩ := hval j hj'
      simp [hj', e1] at hj; subst hj
      simp [World.cell?, h4, e1]

theorem load_ok {rd : Rd} (hs : Sim w B β rd) {t : Nat} {ti : TI} (hi : TIok P t ti) {p : PV} {u : Value} {e : Eff} (h : loadAt rd ti p = some e) (hu : V w B β p u) :
    e.upd = [] ∧ ∃ v, (Instr.loadAt t u).run P w = .ok v w ∧ V w B β e.val v := by
  have key : ∀ (b o : Nat) (cs : List PV) (f : List Nat), u = .pointer (some ⟨b, o, none⟩) → CellsAt w B β b o cs → (ofCells ti cs).map (fun v => (⟨v, [], f⟩ : Eff)) = some e →
      e.upd = [] ∧ ∃ v, (Instr.loadAt t u).run P w = .ok v w ∧ V w B β e.val v := by
    intro b o cs f hu' hc he
    cases hq : ofCells ti cs with
    | none => rw [hq] at he; simp at he
    | some q =>
      rw [hq] at he; simp at he; subst he
      obtain ⟨v, h1, h2⟩ := ofCells_ok hi hq hc
      exact ⟨rfl, v, by subst hu'; simpa [Instr.loadAt, Instr.sureAddr] using h1, h2⟩
  unfold loadAt at h
  split at h
  · rename_i a o
    split at h
    · rename_i cs hb
      cases hu with
      | ptr a o l hl => exact key _ _ _ _ rfl ((boxcells hs hb hl).slab o ti.size) h
    · simp at h
  · rename_i a i o
    split at h
    · rename_i k xs fl fz hb
      split at h
      · rename_i cs hx
        cases hu with
        | aptr a i o l hl => exact key _ _ _ _ rfl ((arrcells hs hb hl hx).slab o ti.size) h
      · simp at h
    · simp at h
  · rename_i xs i o
    split at h
    · rename_i cs hx
      cases hu with
      | eptr xs i o b off k val hb hk hcell ho hv => exact key _ _ _ _ rfl ((rowcells hcell ho (fun i x j c h1 h2 => (hv i x j c h1 h2).lift) hx).slab o ti.size) h
    · simp at h
  · simp at h

theorem fieldOff_ok {tab : Nat → Option TI} (hT : TabOK P tab) {t f off ft : Nat} (h : fieldOff tab t f = some (off, ft)) :
    ∃ (fields : Array Field) (fd : Field), P.underlying t = some (.struct fields) ∧ fields[f]? = some fd ∧ fd.offset = off ∧ fd.type = ft := by
  unfold fieldOff at h
  split at h
  · rename_i fs _ _ _ _ ht
    have hk := (hT t _ ht).kind
    simp only at hk
    obtain ⟨fields, h1, h2⟩ := hk
    have h3 : (fields.toList.map fun f => (f.offset, f.type))[f]? = some (off, ft) := by rw [h2]; exact h
    rw [List.getElem?_map] at h3
    cases hf : fields.toList[f]? with
    | none => rw [hf] at h3; simp at h3
    | some fd =>
      rw [hf] at h3; simp at h3
      exact ⟨fields, fd, h1, by simpa using hf, h3.1, h3.2⟩
  · simp at h

theorem fieldAddr_ok {tab : Nat → Option TI} (hT : TabOK P tab) {t f : Nat} {p : PV} {u : Value} {e : Eff} (h : fieldAddrAt tab t f p = some e) (hu : V w B β p u) :
    e.upd = [] ∧ ∃ v, (Instr.fieldAt t u f).run P w = .ok v w ∧ V w B β e.val v := by
  unfold fieldAddrAt at h
  split at h
  · rename_i off ft hf
    obtain ⟨fields, fd, h1, h2, h3, h4⟩ := fieldOff_ok hT hf
    split at h
    · rename_i ti ht
      have hsz := (hT ft ti ht).size w
      split at h
      · simp at h
      · rename_i hne
        have hne : ti.size ≠ 0 := by simpa using hne
        have run : ∀ b o, (Instr.fieldAt t (.pointer (some ⟨b, o, none⟩)) f).run P w = .ok (.pointer (some ⟨b, o + off, none⟩)) w := fun b o => by
          simp [Instr.fieldAt, underlying, h1, h2, Instr.sureAddr, fieldPlace, h4, hsz, hne, h3, add_none]
        split at h
        · simp [ok] at h; subst h
          cases hu with
          | ptr a o l hl => exact ⟨rfl, _, run _ _, by rw [Nat.add_assoc]; exact .ptr _ _ l hl⟩
        · simp [ok] at h; subst h
          cases hu with
          | aptr a i o l hl => exact ⟨rfl, _, run _ _, by rw [Nat.add_assoc]; exact .aptr _ _ _ l hl⟩
        · simp [ok] at h; subst h
          cases hu with
          | eptr xs i o b ofs k val hb hk hcell ho hv => exact ⟨rfl, _, run _ _, by rw [Nat.add_assoc]; exact .eptr _ _ _ b ofs k val hb hk hcell ho hv⟩
        · simp at h
    · simp at h
  · simp at h

/-- A part of an aggregate. -/
theorem part_ok {t : Nat} {ti : TI} (hi : TIok P t ti) {cs : List PV} {vs : Array Value} (hvs : Vs w B β cs vs.toList) (ho : ∀ v ∈ vs.toList, v.oneCell' = true) {off : Nat} {p : PV} (h : ofCells ti (slab cs off ti.size) = some p) :
    ∃ v, (part t vs off).run P w = .ok v w ∧ V w B β p v := by
  have h1 : Vs w B β (slab cs off ti.size) ((vs.toList.drop off).take ti.size) := (hvs.drop off).take ti.size
  unfold ofCells at h
  split at h
  · rename_i hk
    split at h <;> simp at h
    subst h
    have e : vs.extract off (off + ti.size) = ((vs.toList.drop off).take ti.size).toArray := by
      apply Array.ext'
      simp [List.take_drop, Nat.add_comm]
    refine ⟨.agg (vs.extract off (off + ti.size)), ?_, ?_⟩
    · simp [part, hi.agg w, hk, hi.size w]
    · rw [e]; exact h1.agg fun v hv => ho v (List.mem_of_mem_drop (List.mem_of_mem_take hv))
  · rename_i hk
    split at h <;> simp at h
    subst h
    rename_i v0 heq
    rw [heq] at h1
    obtain ⟨v, vs', h2, h4, h5⟩ := h1.uncons
    have h6 := h5.of_nil
    subst h6
    have h7 : vs[off]? = some v := by
      have : ((vs.toList.drop off).take ti.size)[0]? = some v := by rw [h2]; rfl
      rw [List.getElem?_take] at this
      split at this
      · simpa using this
      · simp at this
    refine ⟨v, ?_, h4⟩
    simp only [Bool.not_eq_true] at hk
    simp [part, hi.agg w, hk, h7]

theorem field_ok {tab : Nat → Option TI} (hT : TabOK P tab) {t f : Nat} {p : PV} {u : Value} {e : Eff} (h : fieldAt tab t f p = some e) (hu : V w B β p u) :
    e.upd = [] ∧ ∃ v, (Instr.field t u f).run P w = .ok v w ∧ V w B β e.val v := by
  unfold fieldAt at h
  split at h
  · rename_i off ft cs hf
    obtain ⟨fields, fd, h1, h2, h3, h4⟩ := fieldOff_ok hT hf
    split at h
    · rename_i ti ht
      obtain ⟨vs, rfl, g1, g2⟩ := Vs.of_agg hu
      cases hq : ofCells ti (slab cs off ti.size) with
      | none => rw [hq] at h; simp at h
      | some q =>
        rw [hq] at h; simp at h; subst h
        obtain ⟨v, r1, r2⟩ := part_ok (hT ft ti ht) g1 g2 hq
        exact ⟨rfl, v, by simp [Instr.field, underlying, h1, h2, asAgg, h3, h4, r1], r2⟩
    · simp at h
  · simp at h

theorem intOf_ok {i : PV} {n : Int} {u : Value} (h : intOf i = some n) (hu : V w B β i u) : ∃ k, u = .int k n := by
  unfold intOf at h
  split at h <;> simp at h
  subst h; cases hu; exact ⟨_, rfl⟩

theorem sizeAt_ok {tab : Nat → Option TI} (hT : TabOK P tab) {t sz : Nat} (h : sizeAt tab t = some sz) : (sizeOf t).run P w = .ok sz w := by
  unfold sizeAt at h
  cases ht : tab t with
  | none => rw [ht] at h; simp at h
  | some ti => rw [ht] at h; simp at h; subst h; exact (hT t ti ht).size w

theorem indexAddr_ok {tab : Nat → Option TI} (hT : TabOK P tab) {t : Nat} {x i : PV} {u ui : Value} {e : Eff} (h : indexAddrAt tab t x i = some e) (hu : V w B β x u) (hi : V w B β i ui) :
    e.upd = [] ∧ ∃ v, (Instr.indexAt t u ui).run P w = .ok v w ∧ V w B β e.val v := by
  unfold indexAddrAt at h
  split at h
  · rename_i el _ _ _ _ n ht hn
    have hk := (hT t _ ht).kind
    simp only at hk
    obtain ⟨k, rfl⟩ := intOf_ok hn hi
    split at h
    · rename_i sz hsz
      have hsz := sizeAt_ok (w := w) hT hsz
      split at h
      · rename_i a kk off len
        split at h <;> simp [ok] at h
        subst h
        rename_i hc
        simp only [Bool.and_eq_true, beq_iff_eq, decide_eq_true_eq] at hc
        obtain ⟨⟨rfl, h0⟩, hlt⟩ := hc
        cases hu with
        | own0 a k off b => omega
        | own a off len cap l hl hcap hr =>
          refine ⟨rfl, _, ?_, .aptr a (off + n.toNat) 0 l hl⟩
          simp [Instr.indexAt, asIntOf, underlying, hk, h0, hlt, hsz, add_none, Nat.add_mul, Nat.add_assoc]
      · rename_i xs fl
        split at h
        · rename_i h0
          split at h
          · rename_i cs hx
            split at h <;> simp [ok] at h
            subst h
            rename_i hc
            simp only [beq_iff_eq] at hc
            have hlt : n.toNat < xs.length := by rcases Nat.lt_or_ge n.toNat xs.length with h' | h'; exact h'; simp [List.getElem?_eq_none h'] at hx
            cases hu with
            | lit0 fl b cap => simp at hx
            | lit xs fl b o k' cap val hb hn hf hkk hcell ho hv =>
              have hk' : k' = sz := by rw [← hkk cs (List.mem_of_getElem? hx), hc]
              subst hk'
              refine ⟨rfl, ⟨_, ?_, .eptr [cs] 0 0 b (o + n.toNat * k') k' (fun _ j => val n.toNat j) hb (by simpa using hkk cs (List.mem_of_getElem? hx)) (fun i x j c h1 h2 => ?_) (fun i x j c h1 h2 => ?_) (fun i x j c h1 h2 => ?_)⟩⟩
              rotate_left
              · obtain ⟨rfl, rfl⟩ : i = 0 ∧ x = cs := by cases i <;> simp_all
                simpa using hcell _ _ j c hx h2
              · obtain ⟨rfl, rfl⟩ : i = 0 ∧ x = cs := by cases i <;> simp_all
                exact ho _ _ j c hx h2
              · obtain ⟨rfl, rfl⟩ : i = 0 ∧ x = cs := by cases i <;> simp_all
                exact hv _ _ j c hx h2
              have hlt' : n < xs.length := by omega
              simp [Instr.indexAt, asIntOf, underlying, hk, h0, hlt', hsz, add_none]
          · simp at h
        · simp at h
      · simp at h
    · simp at h
  · rename_i len el _ _ _ _ n ht hn
    have hk := (hT t _ ht).kind
    simp only at hk
    obtain ⟨k, rfl⟩ := intOf_ok hn hi
    split at h
    · rename_i sz hsz
      have hsz := sizeAt_ok (w := w) hT hsz
      split at h
      · rename_i hc
        simp only [Bool.and_eq_true, decide_eq_true_eq] at hc
        obtain ⟨h0, hlt⟩ := hc
        have run : ∀ b o, (Instr.indexAt t (.pointer (some ⟨b, o, none⟩)) (.int k n)).run P w = .ok (.pointer (some ⟨b, o + n.toNat * sz, none⟩)) w := fun b o => by
          simp [Instr.indexAt, asIntOf, underlying, hk, Instr.sureAddr, h0, hlt, hsz, add_none]
        split at h
        · simp [ok] at h; subst h
          cases hu with
          | ptr a o l hl => exact ⟨rfl, _, run _ _, by rw [Nat.add_assoc]; exact .ptr _ _ l hl⟩
        · simp [ok] at h; subst h
          cases hu with
          | aptr a i o l hl => exact ⟨rfl, _, run _ _, by rw [Nat.add_assoc]; exact .aptr _ _ _ l hl⟩
        · simp [ok] at h; subst h
          cases hu with
          | eptr xs i o b ofs k val hb hk hcell ho hv => exact ⟨rfl, _, run _ _, by rw [Nat.add_assoc]; exact .eptr _ _ _ b ofs k val hb hk hcell ho hv⟩
        · simp at h
      · simp at h
    · simp at h
  · simp at h

theorem index_ok {tab : Nat → Option TI} (hT : TabOK P tab) {t : Nat} {x i : PV} {u ui : Value} {e : Eff} (h : indexAt tab t x i = some e) (hu : V w B β x u) (hi : V w B β i ui) :
    e.upd = [] ∧ ∃ v, (Instr.index t u ui).run P w = .ok v w ∧ V w B β e.val v := by
  unfold indexAt at h
  split at h
  · rename_i s n ht hn
    have hk := (hT t _ ht).kind
    simp only at hk
    obtain ⟨k, rfl⟩ := intOf_ok hn hi
    cases hu
    split at h
    · rename_i h0
      split at h
      · rename_i b hb
        simp [ok] at h; subst h
        exact ⟨rfl, _, by simp [Instr.index, asIntOf, underlying, hk, h0, hb], .int ..⟩
      · simp at h
    · simp at h
  · rename_i len el _ _ _ _ cs n ht hn
    have hk := (hT t _ ht).kind
    simp only at hk
    obtain ⟨k, rfl⟩ := intOf_ok hn hi
    split at h
    · rename_i ti hti
      split at h
      · rename_i hc
        simp only [Bool.and_eq_true, decide_eq_true_eq] at hc
        obtain ⟨h0, hlt⟩ := hc
        obtain ⟨vs, rfl, g1, g2⟩ := Vs.of_agg hu
        cases hq : ofCells ti (slab cs (n.toNat * ti.size) ti.size) with
        | none => rw [hq] at h; simp at h
        | some q =>
          rw [hq] at h; simp at h; subst h
          obtain ⟨v, r1, r2⟩ := part_ok (hT el ti hti) g1 g2 hq
          exact ⟨rfl, v, by simp [Instr.index, asIntOf, underlying, hk, h0, hlt, (hT el ti hti).size w, r1], r2⟩
      · simp at h
    · simp at h
  · simp at h

theorem natOf_ok {i : PV} {n : Nat} {u : Value} (h : natOf i = some n) (hu : V w B β i u) : ∃ k, u = .int k (n : Int) := by
  unfold natOf at h
  split at h
  · split at h <;> simp at h
    subst h; cases hu; rename_i h0; exact ⟨_, by rw [Int.toNat_of_nonneg h0]⟩
  · simp at h

theorem sliceBound_ok (k : IntKind) (i y : Nat) (c : BoundsCode) (h : i ≤ y) : (Instr.sliceBound (.int k (i : Int)) y c).run P w = .ok i w := by
  have : (0 : Int) ≤ (i : Int) ∧ (i : Int) ≤ (y : Int) := by omega
  simp [Instr.sliceBound, asIntOf, this]

def OptV (w : World) (B : Nat → Prop) (β : Map) : Option PV → Option Value → Prop
  | none, none => True
  | some p, some v => V w B β p v
  | _, _ => False

/-- The bounds of a cut, without a third one. -/
theorem bounds_ok {lo hi : Option PV} {ulo uhi : Option Value} {n l h cap : Nat} {b : Bool} (hlo : (match lo with | none => some 0 | some v => natOf v) = some l) (hhi : (match hi with | none => some n | some v => natOf v) = some h)
    (hl : OptV w B β lo ulo) (hh : OptV w B β hi uhi) (h1 : l ≤ h) (h2 : h ≤ n) (h3 : n ≤ cap) :
    (Instr.sliceBounds b n cap ulo uhi none).run P w = .ok (l, h, cap) w := by
  have hcap : h ≤ cap := Nat.le_trans h2 h3
  cases lo <;> cases ulo <;> simp [OptV] at hl <;> cases hi <;> cases uhi <;> simp [OptV] at hh <;> simp at hlo hhi
  · subst hlo; subst hhi; simp [Instr.sliceBounds]
  · subst hlo; obtain ⟨k, rfl⟩ := natOf_ok hhi hh
    cases b <;> simp [Instr.sliceBounds, sliceBound_ok k h cap _ hcap]
  · subst hhi; obtain ⟨k, rfl⟩ := natOf_ok hlo hl
    simp [Instr.sliceBounds, sliceBound_ok k l n _ h1]
  · obtain ⟨k, rfl⟩ := natOf_ok hhi hh
    obtain ⟨k', rfl⟩ := natOf_ok hlo hl
    cases b <;> simp [Instr.sliceBounds, sliceBound_ok k h cap _ hcap, sliceBound_ok k' l h _ h1]

theorem cut_ok {tab : Nat → Option TI} (hT : TabOK P tab) {t : Nat} {x : PV} {lo hi : Option PV} {u : Value} {ulo uhi : Option Value} {e : Eff} (h : cutAt tab t x lo hi = some e) (hu : V w B β x u)
    (hl : OptV w B β lo ulo) (hh : OptV w B β hi uhi) :
    e.upd = [] ∧ ∃ v, (Instr.sliceAt t u ulo uhi none).run P w = .ok v w ∧ V w B β e.val v := by
  unfold cutAt at h
  split at h
  · rename_i kd _ _ _ _ n ht hn
    have hk := (hT t _ ht).kind
    simp only at hk
    split at h
    · rename_i l hh' hlo hhi
      split at h
      · rename_i hc
        simp only [Bool.and_eq_true, decide_eq_true_eq] at hc
        obtain ⟨h1, h2⟩ := hc
        split at h
        · rename_i el a k off len
          split at h
          · rename_i sz hs1
            split at h <;> simp [ok] at h
            subst h
            rename_i hkz
            simp only [beq_iff_eq] at hkz
            simp only at hk
            have hs3 := sizeAt_ok (w := w) hT hs1
            simp [lenPV] at hn; subst hn
            refine ⟨rfl, ?_⟩
            cases hu with
            | own0 a k off b =>
              have hl0 : l = 0 := by omega
              have hh0 : hh' = 0 := by omega
              subst hl0; subst hh0
              refine ⟨.slice b 0 0, ?_, by simpa using V.own0 a k (off + 0) b⟩
              simp [Instr.sliceAt, Instr.slice, underlying, hk, bounds_ok (P := P) (b := true) hlo hhi hl hh h1 h2 (Nat.le_refl _), hs3]
            | own a off len cap lc hlc hcap hr =>
              refine ⟨.slice (if cap = l then some ⟨lc.block, lc.off + off * lc.k, none⟩ else some ⟨lc.block, lc.off + (off + l) * lc.k, none⟩) (hh' - l) (cap - l), ?_, ?_⟩
              · simp only [Instr.sliceAt, Instr.slice, underlying, Sem.run_bind, run_program, hk, Sem.run_pure, Result.andThen_ok, bounds_ok (P := P) (b := true) hlo hhi hl hh h1 h2 hcap, hs3, Option.map_some, add_none]
                congr 2
                split
                · rfl
                · rw [Nat.add_mul, hkz, Nat.add_assoc]
              · split
                · rename_i hcl
                  have e1 : hh' - l = 0 := by omega
                  have e2 : cap - l = 0 := by omega
                  rw [e1, e2]
                  exact .own0 a _ _ _
                · refine .own a (off + l) (hh' - l) (cap - l) lc hlc (by omega) ?_
                  have : off + l + (cap - l) = off + cap := by omega
                  rw [this]; exact hr
          · simp at h
        · rename_i el xs fl
          split at h
          · rename_i sz hs1
            split at h <;> simp [ok] at h
            subst h
            rename_i hkz
            simp only at hk
            have hs3 := sizeAt_ok (w := w) hT hs1
            simp [lenPV] at hn; subst hn
            refine ⟨rfl, ?_⟩
            cases hu with
            | lit0 fl b cap =>
              have hl0 : l = 0 := by simpa using Nat.le_trans h1 h2
              have hh0 : hh' = 0 := by simpa using h2
              subst hl0; subst hh0
              simp only [List.length_nil] at hhi h2
              refine ⟨.slice b 0 cap, ?_, by simpa using V.lit0 ⟨false, fl.flat⟩ b cap⟩
              have hb := bounds_ok (P := P) (w := w) (n := 0) (cap := cap) (b := true) hlo hhi hl hh h1 h2 (Nat.zero_le cap)
              simp only [Instr.sliceAt, Instr.slice, underlying, Sem.run_bind, run_program, hk, Sem.run_pure, Result.andThen_ok, hb, hs3]
              simp only [Nat.zero_mul, Nat.sub_zero]
              congr 2
              cases b with
              | none => simp
              | some a => simp [Addr.add]
            | lit xs fl b o k' cap val hb hn hf hkk hcell ho hv =>
              refine ⟨.slice (if cap = l then some ⟨b, o, none⟩ else some ⟨b, o + l * sz, none⟩) (hh' - l) (cap - l), ?_, ?_⟩
              · simp only [Instr.sliceAt, Instr.slice, underlying, Sem.run_bind, run_program, hk, Sem.run_pure, Result.andThen_ok, bounds_ok (P := P) (b := true) hlo hhi hl hh h1 h2 hn, hs3, Option.map_some, add_none]
              · have hlen : ((xs.drop l).take (hh' - l)).length = hh' - l := by simp; omega
                by_cases hz : hh' - l = 0
                · rw [hz]; simp; exact .lit0 _ _ _
                · have hlt : l < xs.length := by omega
                  have hcl : ¬ cap = l := by omega
                  rw [if_neg hcl]
                  have hksz : l * sz = l * k' := by
                    rcases Nat.eq_zero_or_pos l with rfl | hpos
                    · simp
                    · cases xs with
                      | nil => simp at hlt
                      | cons x0 xr =>
                        simp only [headOK, Bool.or_eq_true, beq_iff_eq] at hkz
                        rcases hkz with h0 | h0
                        · omega
                        · rw [← h0, hkk x0 (by simp)]
                  rw [hksz]
                  have hget : ∀ i x, ((xs.drop l).take (hh' - l))[i]? = some x → xs[l + i]? = some x := fun i x hx => by
                    rw [List.getElem?_take] at hx
                    split at hx
                    · simpa using hx
                    · simp at hx
                  have hmem : ∀ x ∈ (xs.drop l).take (hh' - l), x ∈ xs := fun x hx => List.mem_of_mem_drop (List.mem_of_mem_take hx)
                  have := V.lit (w := w) (B := B) (β := β) ((xs.drop l).take (hh' - l)) ⟨false, fl.flat⟩ b (o + l * k') k' (cap - l) (fun i j => val (l + i) j) hb (by rw [hlen]; omega)
                    (fun hfl x hx => hf hfl x (hmem x hx)) (fun x hx => hkk x (hmem x hx))
                    (fun i x j c h1 h2 => by
                      have := hcell (l + i) x j c (hget i x h1) h2
                      rw [Nat.add_mul, ← Nat.add_assoc] at this
                      exact this)
                    (fun i x j c h1 h2 => ho (l + i) x j c (hget i x h1) h2)
                    (fun i x j c h1 h2 => hv (l + i) x j c (hget i x h1) h2)
                  rw [hlen] at this
                  exact this
          · simp at h
        · rename_i el
          split at h
          · rename_i sz hs1
            simp [ok] at h; subst h
            simp only at hk
            simp [lenPV] at hn; subst hn
            have hs3 := sizeAt_ok (w := w) hT hs1
            cases hu
            have hl0 : l = 0 := by omega
            have hh0 : hh' = 0 := by omega
            subst hl0; subst hh0
            refine ⟨rfl, .slice none 0 0, ?_, .nils⟩
            simp [Instr.sliceAt, Instr.slice, underlying, hk, bounds_ok (P := P) (b := true) hlo hhi hl hh h1 h2 (Nat.le_refl _), hs3]
          · simp at h
        · simp [ok] at h; subst h
          simp only at hk
          simp [lenPV] at hn; subst hn
          cases hu
          refine ⟨rfl, _, ?_, .str _⟩
          simp [Instr.sliceAt, Instr.slice, underlying, hk, bounds_ok (P := P) (b := false) hlo hhi hl hh h1 h2 (Nat.le_refl _)]
        · simp at h
      · simp at h
    · simp at h
  · simp at h
end
end Go.Pm
