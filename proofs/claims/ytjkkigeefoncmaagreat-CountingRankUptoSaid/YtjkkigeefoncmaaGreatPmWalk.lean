/-
  The evaluator as a machine whose state simp can turn step by step: places in the code, frames, ends, regions, operations.
-/
import Derived.Test.YtjkkigeefoncmaaGreatPmLim
set_option linter.unusedVariables false
set_option linter.unusedSimpArgs false
namespace Go.Pm
open Go

/-- What is left to do; code is named by its place. -/
inductive Fr where
  | seq (b : Nat) (q : List Nat)
  | blk (id : Nat)
  | loop (b : Nat) (q : List Nat) (m : Nat)

/-- A part of code. -/
def child : Nat → Code → Code
  | 0, .seq x _ => x
  | 1, .seq _ y => y
  | 0, .cond _ x _ => x
  | 1, .cond _ _ y => y
  | 0, .block _ x => x
  | 0, .loop x => x
  | _, _ => .skip
theorem ch_seq0 (x y : Code) : child 0 (.seq x y) = x := rfl
theorem ch_seq1 (x y : Code) : child 1 (.seq x y) = y := rfl
theorem ch_cond0 (o : Operand) (x y : Code) : child 0 (.cond o x y) = x := rfl
theorem ch_cond1 (o : Operand) (x y : Code) : child 1 (.cond o x y) = y := rfl
theorem ch_block (i : Nat) (x : Code) : child 0 (.block i x) = x := rfl
theorem ch_loop (x : Code) : child 0 (.loop x) = x := rfl
/-- The code at a place (the last step stands first). -/
def cAt (c : Code) : List Nat → Code
  | [] => c
  | n :: q => child n (cAt c q)
theorem cAt_nil (c : Code) : cAt c [] = c := rfl
theorem cAt_cons (c : Code) (n : Nat) (q : List Nat) : cAt c (n :: q) = child n (cAt c q) := rfl

inductive Kd where
  | skip | seq | loop | ret | bad
  | region (id : Nat) (ops : Array Oper) (draw : Bool)
  | cond (o : Operand)
  | block (id : Nat)
  | exit (id : Nat)
def kd : Code → Kd
  | .skip => .skip
  | .seq _ _ => .seq
  | .loop _ => .loop
  | .ret => .ret
  | .region id ops draw => .region id ops draw
  | .cond o _ _ => .cond o
  | .block id _ => .block id
  | .exit id => .exit id
  | _ => .bad
theorem kd_skip : kd .skip = .skip := rfl
theorem kd_seq (x y : Code) : kd (.seq x y) = .seq := rfl
theorem kd_loop (x : Code) : kd (.loop x) = .loop := rfl
theorem kd_ret : kd .ret = .ret := rfl
theorem kd_region (id : Nat) (ops : Array Oper) (dr : Bool) : kd (.region id ops dr) = .region id ops dr := rfl
theorem kd_cond (o : Operand) (x y : Code) : kd (.cond o x y) = .cond o := rfl
theorem kd_block (id : Nat) (x : Code) : kd (.block id x) = .block id := rfl
theorem kd_exit (id : Nat) : kd (.exit id) = .exit id := rfl

def andThen (r : Option (Ex × St)) (k : St → Option (Ex × St)) : Option (Ex × St) :=
  match r with
  | some (.normal, st) => k st
  | r => r
def blkR (id : Nat) (r : Option (Ex × St)) : Option (Ex × St) :=
  match r with
  | some (.exit i, st') => if i = id then some (.normal, st') else some (.exit i, st')
  | r => r

/-- A function's run: its callees, its code, its end. -/
structure Mach (R : Type) where
  E : Env
  C : Callee
  f : Nat
  nr : Nat
  c : Code
  D : Ex → St → Option R

section
variable {R : Type} (M : Mach R)

def ec (b : Nat) (q : List Nat) (st : St) : Option (Ex × St) := evCode M.E M.C loopMax M.f M.nr b (cAt M.c q) st
def iterR (b : Nat) (q : List Nat) : Nat → St → Option (Ex × St)
  | 0, _ => none
  | m + 1, st => match ec M b q st with
    | some (.normal, st') => iterR b q m (clean M.nr (M.E.keep M.f b) st')
    | r => r

theorem iter_eq (b : Nat) (q : List Nat) (m : Nat) (st : St) : iter (clean M.nr (M.E.keep M.f b)) (evCode M.E M.C loopMax M.f M.nr b (cAt M.c q)) m st = iterR M b q m (clean M.nr (M.E.keep M.f b) st) := by
  induction m generalizing st with
  | zero => rfl
  | succ m ih =>
    simp only [iter, iterR, ec]
    cases evCode M.E M.C loopMax M.f M.nr b (cAt M.c q) (clean M.nr (M.E.keep M.f b) st) with
    | none => rfl
    | some p => obtain ⟨ex, s⟩ := p; cases ex <;> simp [ih]

def fin : List Fr → Option (Ex × St) → Option R
  | [], r => r.bind fun p => M.D p.1 p.2
  | .seq b y :: k, r => fin k (andThen r (ec M b y))
  | .blk id :: k, r => fin k (blkR id r)
  | .loop b x m :: k, r => fin k (andThen r fun st => iterR M b x m (clean M.nr (M.E.keep M.f b) st))

theorem fin_none : ∀ k, fin M k none = none
  | [] => rfl
  | .seq b y :: k => fin_none k
  | .blk id :: k => fin_none k
  | .loop b x m :: k => fin_none k

/-- Code ahead. -/
def go (k : List Fr) (b : Nat) (q : List Nat) (st : St) : Option R := fin M k (ec M b q st)
/-- An end behind. -/
def ret (k : List Fr) (ex : Ex) (st : St) : Option R := fin M k (some (ex, st))
/-- A loop ahead, its state clean. -/
def lp (k : List Fr) (b : Nat) (q : List Nat) (m : Nat) (st : St) : Option R := fin M k (iterR M b q m st)
def cnd (k : List Fr) (b : Nat) (q : List Nat) (st : St) (p : Option PV) : Option R :=
  match p with
  | some (.bool t) => if t = true then go M k b (0 :: q) st else go M k b (1 :: q) st
  | _ => none

/-! ### regions -/
abbrev Acc := Option (List (Nat × Nat) × List Eff)
def mkAcc (draw : Bool) (ps : List (Nat × Nat)) : Acc := match draw, ps with
  | true, p :: r => some (p :: r, [])
  | _, _ => none
def addAcc (a : Acc) (e : Eff) : Acc := match a with
  | none => none
  | some (ps, l) => some (ps, l ++ [⟨.void, dels (updIds e.upd), e.foot⟩])
def endAcc (a : Acc) : Bool := match a with
  | none => true
  | some (ps, l) => pairsApart l ps

def joinE (a : Acc) (es : List Eff) : Bool := match a with
  | none => true
  | some (ps, l) => pairsApart (l ++ es) ps

/-- Operations ahead. -/
def rg (k : List Fr) (acc : Acc) (nx : Nat) (ops : List Oper) (r : List Oper) (nid : Nat) (tm : List PV) (h : List (Nat × PObj)) : Option R :=
  match evOps M.E M.C ops r nid tm h with
  | some (tm', h', es) => if joinE acc es then ret M k .normal ⟨tm', h', nx⟩ else none
  | none => none
/-- Behind an operation. -/
def rk (k : List Fr) (acc : Acc) (nx : Nat) (ops : List Oper) (d : Option Nat) (r : List Oper) (nid : Nat) (tm : List PV) (h : List (Nat × PObj)) (e : Option Eff) : Option R :=
  match e with
  | some e => rg M k (addAcc acc e) nx ops r (nid + 64) (putD tm d e.val) (applyUpd h e.upd)
  | none => none
def gk (k : List Fr) (acc : Acc) (nx : Nat) (ops : List Oper) (o : Oper) (g : Nat) (want : Bool) (r : List Oper) (nid : Nat) (tm : List PV) (h : List (Nat × PObj)) (p : PV) : Option R :=
  match p with
  | .bool b => if b = true then rk M k acc nx ops o.dst r nid (put tm g (.bool true)) h (if want = true then evOp M.E M.C (look h) nid (put tm g (.bool true)) o else some ⟨.void, [], []⟩)
      else rk M k acc nx ops o.dst r nid (put tm g (.bool false)) h (if want = true then some ⟨.void, [], []⟩ else evOp M.E M.C (look h) nid (put tm g (.bool false)) o)
  | .void => rk M k acc nx ops o.dst r nid tm h (some ⟨.void, [], []⟩)
  | _ => none

theorem put_nth : ∀ (tm : List PV) (t : Nat), t < tm.length → put tm t (nth tm t) = tm
  | v :: r, 0, _ => rfl
  | v :: r, t + 1, h => by simp only [put, nth]; rw [put_nth r t (by simpa using h)]
theorem put_long : ∀ (tm : List PV) (t : Nat) (v : PV), tm.length ≤ t → put tm t v = tm
  | [], t, _, _ => rfl
  | v :: r, 0, _, h => by simp at h
  | v :: r, t + 1, x, h => by simp only [put]; rw [put_long r t x (by simpa using h)]
theorem put_same (tm : List PV) (t : Nat) : put tm t (nth tm t) = tm := by
  rcases Nat.lt_or_ge t tm.length with h | h
  · exact put_nth tm t h
  · exact put_long tm t _ h

theorem updIds_dels (l : List Nat) : updIds (dels l) = l := by induction l with | nil => rfl | cons a l ih => simp [dels, updIds, ih]
theorem nthE_join (l es : List Eff) (e : Eff) (i : Nat) : updIds (nthE (l ++ e :: es) i).upd = updIds (nthE (l ++ ⟨.void, dels (updIds e.upd), e.foot⟩ :: es) i).upd ∧ (nthE (l ++ e :: es) i).foot = (nthE (l ++ ⟨.void, dels (updIds e.upd), e.foot⟩ :: es) i).foot := by
  induction l generalizing i with
  | nil => cases i <;> simp [nthE, updIds_dels]
  | cons a l ih => cases i with
    | zero => simp [nthE]
    | succ i => simpa [nthE] using ih i
theorem pairsApart_join (l es : List Eff) (e : Eff) (ps : List (Nat × Nat)) : pairsApart (l ++ e :: es) ps = pairsApart (l ++ ⟨.void, dels (updIds e.upd), e.foot⟩ :: es) ps := by
  induction ps with
  | nil => rfl
  | cons p ps ih =>
    obtain ⟨i, j⟩ := p
    simp only [pairsApart, apartE, ih, (nthE_join l es e i).1, (nthE_join l es e i).2, (nthE_join l es e j).1, (nthE_join l es e j).2]
theorem joinE_add (acc : Acc) (e : Eff) (es : List Eff) : joinE (addAcc acc e) es = joinE acc (e :: es) := by
  cases acc with
  | none => rfl
  | some p => obtain ⟨ps, l⟩ := p; simp only [joinE, addAcc, List.append_assoc, List.singleton_append]; exact (pairsApart_join l es e ps).symm

theorem rg_nil (k : List Fr) (acc : Acc) (nx : Nat) (ops : List Oper) (nid : Nat) (tm : List PV) (h : List (Nat × PObj)) :
    rg M k acc nx ops [] nid tm h = if endAcc acc = true then ret M k .normal ⟨tm, h, nx⟩ else none := by
  cases acc with
  | none => rfl
  | some p => obtain ⟨ps, l⟩ := p; simp only [rg, evOps, joinE, endAcc, List.append_nil]; rfl
theorem rg_cons (k : List Fr) (acc : Acc) (nx : Nat) (ops : List Oper) (o : Oper) (r : List Oper) (nid : Nat) (tm : List PV) (h : List (Nat × PObj)) :
    rg M k acc nx ops (o :: r) nid tm h = rk M k acc nx ops o.dst r nid tm h (stepOp M.E M.C ops (look h) nid tm o) := by
  simp only [rg, evOps, rk]
  cases stepOp M.E M.C ops (look h) nid tm o with
  | none => rfl
  | some e =>
    simp only
    cases evOps M.E M.C ops r (nid + 64) (putD tm o.dst e.val) (applyUpd h e.upd) with
    | none => rfl
    | some p => obtain ⟨tm', h', es⟩ := p; simp only [joinE_add]
theorem rg_free (k : List Fr) (acc : Acc) (nx : Nat) (ops : List Oper) (d : Option Nat) (op : Op) (ty : Nat) (ps : String) (af : Array Edge) (r : List Oper) (nid : Nat) (tm : List PV) (h : List (Nat × PObj)) :
    rg M k acc nx ops (⟨d, op, ty, ps, af, none⟩ :: r) nid tm h = rk M k acc nx ops d r nid tm h (evOp M.E M.C (look h) nid tm ⟨d, op, ty, ps, af, none⟩) := by
  rw [rg_cons]; rfl

/-- The slot that a guard looks at. -/
def gslot (ops : List Oper) (j : Nat) : Nat := match ops with
  | [] => 0
  | o :: r => match j with
    | 0 => o.dst.getD 0
    | j + 1 => gslot r j
def gthere (ops : List Oper) (j : Nat) : Bool := match ops with
  | [] => false
  | o :: r => match j with
    | 0 => o.dst.isSome
    | j + 1 => gthere r j
theorem g_slot (ops : List Oper) (j : Nat) : (ops[j]?).bind (·.dst) = if gthere ops j = true then some (gslot ops j) else none := by
  induction ops generalizing j with
  | nil => rfl
  | cons o r ih =>
    cases j with
    | zero => simp only [List.getElem?_cons_zero, Option.bind_some, gthere, gslot]; rcases o with ⟨d, _, _, _, _, _⟩; cases d <;> rfl
    | succ j => simp only [List.getElem?_cons_succ, gthere, gslot]; exact ih j
theorem rg_guard (k : List Fr) (acc : Acc) (nx : Nat) (ops : List Oper) (d : Option Nat) (op : Op) (ty : Nat) (ps : String) (af : Array Edge) (j : Nat) (want : Bool) (r : List Oper) (nid : Nat) (tm : List PV) (h : List (Nat × PObj)) :
    rg M k acc nx ops (⟨d, op, ty, ps, af, some (j, want)⟩ :: r) nid tm h =
      if gthere ops j = true then gk M k acc nx ops ⟨d, op, ty, ps, af, some (j, want)⟩ (gslot ops j) want r nid tm h (nth tm (gslot ops j)) else none := by
  rw [rg_cons]
  simp only [stepOp, guardOf, g_slot]
  by_cases hg : gthere ops j = true
  · simp only [hg, ↓reduceIte, gk]
    have hp := put_same tm (gslot ops j)
    cases hv : nth tm (gslot ops j) with
    | bool b => rw [hv] at hp; cases b <;> cases want <;> simp [hp]
    | void => rfl
    | _ => rfl
  · simp only [hg]; rfl
theorem gk_bool (k : List Fr) (acc : Acc) (nx : Nat) (ops : List Oper) (o : Oper) (g : Nat) (want : Bool) (r : List Oper) (nid : Nat) (tm : List PV) (h : List (Nat × PObj)) (b : Bool) :
    gk M k acc nx ops o g want r nid tm h (.bool b) =
      if b = true then rk M k acc nx ops o.dst r nid (put tm g (.bool true)) h (if want = true then evOp M.E M.C (look h) nid (put tm g (.bool true)) o else some ⟨.void, [], []⟩)
      else rk M k acc nx ops o.dst r nid (put tm g (.bool false)) h (if want = true then some ⟨.void, [], []⟩ else evOp M.E M.C (look h) nid (put tm g (.bool false)) o) := rfl
theorem gk_void (k : List Fr) (acc : Acc) (nx : Nat) (ops : List Oper) (o : Oper) (g : Nat) (want : Bool) (r : List Oper) (nid : Nat) (tm : List PV) (h : List (Nat × PObj)) :
    gk M k acc nx ops o g want r nid tm h .void = rk M k acc nx ops o.dst r nid tm h (some ⟨.void, [], []⟩) := rfl

theorem rk_some (k : List Fr) (acc : Acc) (nx : Nat) (ops : List Oper) (d : Option Nat) (r : List Oper) (nid : Nat) (tm : List PV) (h : List (Nat × PObj)) (v : PV) (u : Upd) (ft : List Nat) :
    rk M k acc nx ops d r nid tm h (some ⟨v, u, ft⟩) = rg M k (addAcc acc ⟨v, u, ft⟩) nx ops r (nid + 64) (putD tm d v) (applyUpd h u) := rfl
theorem rk_none (k : List Fr) (acc : Acc) (nx : Nat) (ops : List Oper) (d : Option Nat) (r : List Oper) (nid : Nat) (tm : List PV) (h : List (Nat × PObj)) :
    rk M k acc nx ops d r nid tm h none = none := rfl
theorem rk_ite (k : List Fr) (acc : Acc) (nx : Nat) (ops : List Oper) (d : Option Nat) (r : List Oper) (nid : Nat) (tm : List PV) (h : List (Nat × PObj)) (c : Prop) [Decidable c] (x y : Option Eff) :
    rk M k acc nx ops d r nid tm h (if c then x else y) = if c then rk M k acc nx ops d r nid tm h x else rk M k acc nx ops d r nid tm h y := by split <;> rfl
theorem rk_bind {α : Type} (k : List Fr) (acc : Acc) (nx : Nat) (ops : List Oper) (d : Option Nat) (r : List Oper) (nid : Nat) (tm : List PV) (h : List (Nat × PObj)) (o : Option α) (g : α → Option Eff) :
    rk M k acc nx ops d r nid tm h (o.bind g) = o.bind fun x => rk M k acc nx ops d r nid tm h (g x) := by cases o <;> rfl

/-- A region ahead. -/
def reg (k : List Fr) (ops : Array Oper) (draw : Bool) (ps : List (Nat × Nat)) (st : St) : Option R :=
  rg M k (mkAcc draw ps) (st.next + 64 * ops.size) ops.toList ops.toList st.next st.tmps st.heap
theorem go_reg (k : List Fr) (b id : Nat) (ops : Array Oper) (draw : Bool) (st : St) :
    fin M k (evCode M.E M.C loopMax M.f M.nr b (.region id ops draw) st) = reg M k ops draw (M.E.pairs M.f id) (cleanAt M.nr (M.E.keepR M.f id) st) := by
  simp only [evCode, evRegion, reg, rg]
  cases evOps M.E M.C ops.toList ops.toList (cleanAt M.nr (M.E.keepR M.f id) st).next (cleanAt M.nr (M.E.keepR M.f id) st).tmps (cleanAt M.nr (M.E.keepR M.f id) st).heap with
  | none => exact fin_none M k
  | some p =>
    obtain ⟨tm, h, es⟩ := p
    simp only
    have : (!draw || pairsApart es (M.E.pairs M.f id)) = joinE (mkAcc draw (M.E.pairs M.f id)) es := by
      cases draw with
      | false => cases M.E.pairs M.f id <;> rfl
      | true => cases M.E.pairs M.f id <;> simp [mkAcc, joinE, pairsApart]
    rw [this]
    split
    · rfl
    · exact fin_none M k
theorem reg_st (k : List Fr) (ops : List Oper) (draw : Bool) (ps : List (Nat × Nat)) (tm : List PV) (h : List (Nat × PObj)) (nx : Nat) :
    reg M k ops.toArray draw ps ⟨tm, h, nx⟩ = rg M k (mkAcc draw ps) (nx + 64 * ops.length) ops ops nx tm h := by simp [reg]

/-- Code ahead, its kind known. -/
def goK (k : List Fr) (b : Nat) (q : List Nat) (st : St) : Kd → Option R
  | .skip => ret M k .normal st
  | .seq => go M (.seq b (1 :: q) :: k) b (0 :: q) st
  | .loop => lp M k b (0 :: q) loopMax (clean M.nr (M.E.keep M.f b) st)
  | .ret => ret M k .ret st
  | .region id ops draw => reg M k ops draw (M.E.pairs M.f id) (cleanAt M.nr (M.E.keepR M.f id) st)
  | .cond o => cnd M k b q st (opnd st.tmps o)
  | .block id => go M (.blk id :: k) id (0 :: q) st
  | .exit i => ret M k (.exit i) st
  | .bad => none
theorem go_kd (k : List Fr) (b : Nat) (q : List Nat) (st : St) : go M k b q st = goK M k b q st (kd (cAt M.c q)) := by
  simp only [go, ec]
  cases hc : cAt M.c q with
  | skip => rfl
  | ret => rfl
  | exit i => rfl
  | seq x y =>
    have h : ec M b (1 :: q) = evCode M.E M.C loopMax M.f M.nr b y := by funext st; simp only [ec, cAt_cons, hc, child]
    simp only [kd, goK, go, fin, h]
    simp only [evCode, andThen, ec, cAt_cons, hc, child]
    cases evCode M.E M.C loopMax M.f M.nr b x st with
    | none => rfl
    | some p => obtain ⟨ex, s⟩ := p; cases ex <;> rfl
  | loop x =>
    simp only [kd, goK, lp, evCode]
    rw [← iter_eq, cAt_cons, hc]; rfl
  | region id ops draw => exact go_reg M k b id ops draw st
  | cond o x y =>
    simp only [kd, goK, cnd, evCode, go, ec, cAt_cons, hc, child]
    cases opnd st.tmps o with
    | none => exact fin_none M k
    | some p => cases p <;> first | exact fin_none M k | (dsimp only; split <;> rfl)
  | block id x =>
    simp only [kd, goK, go, fin, ec, cAt_cons, hc, child]
    congr 1
  | _ => exact fin_none M k
theorem gk_skip (k : List Fr) (b : Nat) (q : List Nat) (st : St) : goK M k b q st .skip = ret M k .normal st := rfl
theorem gk_seq (k : List Fr) (b : Nat) (q : List Nat) (st : St) : goK M k b q st .seq = go M (.seq b (1 :: q) :: k) b (0 :: q) st := rfl
theorem gk_loop (k : List Fr) (b : Nat) (q : List Nat) (st : St) : goK M k b q st .loop = lp M k b (0 :: q) loopMax (clean M.nr (M.E.keep M.f b) st) := rfl
theorem gk_ret (k : List Fr) (b : Nat) (q : List Nat) (st : St) : goK M k b q st .ret = ret M k .ret st := rfl
theorem gk_region (k : List Fr) (b : Nat) (q : List Nat) (st : St) (id : Nat) (ops : Array Oper) (draw : Bool) : goK M k b q st (.region id ops draw) = reg M k ops draw (M.E.pairs M.f id) (cleanAt M.nr (M.E.keepR M.f id) st) := rfl
theorem gk_cond (k : List Fr) (b : Nat) (q : List Nat) (st : St) (o : Operand) : goK M k b q st (.cond o) = cnd M k b q st (opnd st.tmps o) := rfl
theorem gk_block (k : List Fr) (b : Nat) (q : List Nat) (st : St) (id : Nat) : goK M k b q st (.block id) = go M (.blk id :: k) id (0 :: q) st := rfl
theorem gk_exit (k : List Fr) (b : Nat) (q : List Nat) (st : St) (i : Nat) : goK M k b q st (.exit i) = ret M k (.exit i) st := rfl
theorem cnd_bool (k : List Fr) (b : Nat) (q : List Nat) (st : St) (t : Bool) : cnd M k b q st (some (.bool t)) = if t = true then go M k b (0 :: q) st else go M k b (1 :: q) st := rfl
theorem lp_zero (k : List Fr) (b : Nat) (q : List Nat) (st : St) : lp M k b q 0 st = none := fin_none M k
theorem lp_succ (k : List Fr) (b : Nat) (q : List Nat) (m : Nat) (st : St) : lp M k b q (m + 1) st = go M (.loop b q m :: k) b q st := by
  simp only [lp, go, fin, iterR, andThen]
theorem ret_nil (ex : Ex) (st : St) : ret M [] ex st = M.D ex st := rfl
theorem ret_seq_n (b : Nat) (q : List Nat) (k : List Fr) (st : St) : ret M (.seq b q :: k) .normal st = go M k b q st := rfl
theorem ret_seq_e (b : Nat) (q : List Nat) (k : List Fr) (i : Nat) (st : St) : ret M (.seq b q :: k) (.exit i) st = ret M k (.exit i) st := rfl
theorem ret_seq_r (b : Nat) (q : List Nat) (k : List Fr) (st : St) : ret M (.seq b q :: k) .ret st = ret M k .ret st := rfl
theorem ret_blk_n (id : Nat) (k : List Fr) (st : St) : ret M (.blk id :: k) .normal st = ret M k .normal st := rfl
theorem ret_blk_e (id : Nat) (k : List Fr) (i : Nat) (st : St) : ret M (.blk id :: k) (.exit i) st = if i = id then ret M k .normal st else ret M k (.exit i) st := by
  simp only [ret, fin, blkR]; split <;> rfl
theorem ret_blk_r (id : Nat) (k : List Fr) (st : St) : ret M (.blk id :: k) .ret st = ret M k .ret st := rfl
theorem ret_loop_n (b : Nat) (q : List Nat) (m : Nat) (k : List Fr) (st : St) : ret M (.loop b q m :: k) .normal st = lp M k b q m (clean M.nr (M.E.keep M.f b) st) := rfl
theorem ret_loop_e (b : Nat) (q : List Nat) (m : Nat) (k : List Fr) (i : Nat) (st : St) : ret M (.loop b q m :: k) (.exit i) st = ret M k (.exit i) st := rfl
theorem ret_loop_r (b : Nat) (q : List Nat) (m : Nat) (k : List Fr) (st : St) : ret M (.loop b q m :: k) .ret st = ret M k .ret st := rfl
end

/-! ### a call -/
def resOf (E : Env) (f : Nat) : List ResultVar := match E.code f with
  | some fn => fn.results.toList
  | none => []
def codOf (E : Env) (f : Nat) : Code := match E.code f with
  | some fn => fn.body.getD .skip
  | none => .skip
def ntmOf (E : Env) (f : Nat) : Nat := match E.code f with
  | some fn => fn.ntmps
  | none => 0
/-- The end of a pure call. -/
def endP (E : Env) (f : Nat) (ex : Ex) (st : St) : Option PV :=
  if ex = .normal ∨ ex = .ret then
    match resultsOf E.tab (cleanAt 0 (E.keepE f) st) (resOf E f) with
    | some vs => exportR (look (cleanAt 0 (E.keepE f) st).heap) (pack vs) (E.resK f)
    | none => none
  else none
def machP (E : Env) (f : Nat) (C : Callee) : Mach PV := ⟨E, C, f, 0, codOf E f, endP E f⟩

theorem level_pure {E : Env} {f : Nat} {fn : Func} (C : Callee) (args : List PV) (hp : E.primP f = none) (hf : E.code f = some fn) (hc : fn.body.isSome = true) :
    (level E C).pureC f args = go (machP E f C) [] 0 [] ⟨args ++ List.replicate (ntmOf E f - args.length) .undef, [], 0⟩ := by
  obtain ⟨c, hc⟩ := Option.isSome_iff_exists.1 hc
  have h1 : codOf E f = c := by simp [codOf, hf, hc]
  have h2 : ntmOf E f = fn.ntmps := by simp [ntmOf, hf]
  have h3 : resOf E f = fn.results.toList := by simp [resOf, hf]
  simp only [level, hp, runBody, hf, hc, go, fin, machP, ec, cAt_nil, h1, h2]
  cases evCode E C loopMax f 0 0 c ⟨args ++ List.replicate (fn.ntmps - args.length) .undef, [], 0⟩ with
  | none => rfl
  | some p =>
    obtain ⟨ex, st⟩ := p
    simp only [Option.bind_some, endP, h3]
    by_cases hx : ex = .normal ∨ ex = .ret
    · simp only [hx, ↓reduceIte]
      cases resultsOf E.tab (cleanAt 0 (E.keepE f) st) fn.results.toList <;> rfl
    · simp only [hx, ↓reduceIte]
theorem fix_pure {E : Env} {X : Nat → Bool} {C : Callee} (hC : Fix E X C) {f : Nat} {fn : Func} (hx : X f = false) (args : List PV) (hp : E.primP f = none) (hf : E.code f = some fn) (hc : fn.body.isSome = true) :
    C.pureC f args = go (machP E f C) [] 0 [] ⟨args ++ List.replicate (ntmOf E f - args.length) .undef, [], 0⟩ := by
  rw [hC.p f hx]; exact level_pure C args hp hf hc
end Go.Pm
