/-
  Functions of the library that the evaluator answers at once.
-/
import Derived.Test.YtjkkigeefoncmaaGreatPmIO
import Derived.Lib.Bytealg
set_option linter.unusedVariables false
set_option linter.unusedSimpArgs false
namespace Go.Pm
open Go

/-- slices.Clone: the same list, new. -/
def cloneP (k : Nat) : List PV → Option PV
  | [.lit xs fl] => if (xs.all (fun x => x.length == k) && decide (xs.length ≤ bound)) = true then some (.lit xs ⟨true, false⟩) else none
  | _ => none
def cloneL {α : Type} (l : List α) : Option (List α) := if l.length ≤ bound then some l else none
/-- Never come to. -/
def noneP : List PV → Option PV := fun _ => none
/-- The place of a byte. -/
def indexByteP : List PV → Option PV
  | [.str s, .int .u8 c] => some (.int .i64 (Lib.indexByte s.data.toList c.toNat.toUInt8))
  | _ => none

/-- slices.Insert: a list with another one at a place; the first one is given away. -/
def insertR (K : Nat) : List PV → List (Nat × PObj) → Nat → Option (PV × List (Nat × PObj) × Nat)
  | [.own a k off n, .int .i64 i, .own b k' off' m], [(a0, .arr k1 xs fl fz), (b0, .arr k2 ys fl' fz')], nx =>
    if a == 0 && b == 1 && a0 == 0 && b0 == 1 && nx == 2 && k == K && k' == K && k1 == K && k2 == K && off == 0 && off' == 0 && !fl && !fz && !fl' && !fz' && n == xs.length && m == ys.length &&
        decide (0 ≤ i) && decide (i ≤ n) && decide (0 < m) && decide (n + m ≤ bound) then
      some (.own 2 K 0 (n + m), [(1, .arr K ys false false), (2, .arr K (xs.take i.toNat ++ ys ++ xs.drop i.toNat) false false)], 3)
    else none
  | _, _, _ => none
def insertL {α : Type} (l v : List α) (i : Int) : Option (List α) :=
  if decide (0 ≤ i ∧ i ≤ l.length ∧ 0 < v.length ∧ l.length + v.length ≤ bound) then some (l.take i.toNat ++ v ++ l.drop i.toNat) else none

/-! ### calls of functions that act on the caller's rows -/
/-- A call on a heap, in one piece. -/
def refS (C : Callee) (f k : Nat) (st : St) : Option (PV × List (Nat × PObj) × Nat) := C.refC f k st.tmps st.heap st.next
def rfK (rd : Rd) (nid : Nat) (roots L L0 : List Nat) (x : Option (PV × List (Nat × PObj) × Nat)) : Option Eff := match x with
  | some (v, h, nx) => if (decide (nx ≤ roots.length + 64) && roots.all (isObj rd)) = true then some ⟨ren (backId roots nid) v, dels L ++ backs (backId roots nid) h, L0 ++ L⟩ else none
  | none => none
def rfJ (C : Callee) (rd : Rd) (nid f : Nat) (args : List PV) (L0 roots L : List Nat) : Option Eff :=
  rfK rd nid roots L L0 (refS C f roots.length ⟨rens (fun a => pos L a 0) args, picks rd (fun a => pos L a 0) L 0, L.length⟩)
def rfI (C : Callee) (rd : Rd) (nid f : Nat) (args : List PV) (L0 roots : List Nat) : Option Eff :=
  rfJ C rd nid f args L0 roots (reach rd reachFuel (kids rd roots ++ []) roots)
def rfH (C : Callee) (rd : Rd) (nid f : Nat) (args : List PV) (i0 L0 : List Nat) : Option Eff := rfI C rd nid f args L0 (dedup (boxes rd L0) i0)
def rfG (C : Callee) (rd : Rd) (nid f : Nat) (args : List PV) (i0 : List Nat) : Option Eff := rfH C rd nid f args i0 (reach rd reachFuel (kids rd i0 ++ []) i0)
theorem call_ref (E : Env) (C : Callee) (rd : Rd) (nid f : Nat) (args : List PV) (h : E.isRef f = true) : evCall E C rd nid f args = rfG C rd nid f args (dedup (idss args) []) := by
  simp only [evCall, h, ↓reduceIte, rfG, rfH, rfI, rfJ, rfK, refS, order, idss]
  cases C.refC f _ _ _ _ with
  | none => rfl
  | some p => obtain ⟨a, b, c⟩ := p; rfl
theorem rfG_e (C : Callee) (rd : Rd) (nid f : Nat) (args : List PV) (i0 : List Nat) : rfG C rd nid f args i0 = rfH C rd nid f args i0 (reach rd reachFuel (kids rd i0) i0) := by simp [rfG]
theorem rfH_e (C : Callee) (rd : Rd) (nid f : Nat) (args : List PV) (i0 L0 : List Nat) : rfH C rd nid f args i0 L0 = rfI C rd nid f args L0 (dedup (boxes rd L0) i0) := rfl
theorem rfI_e (C : Callee) (rd : Rd) (nid f : Nat) (args : List PV) (L0 roots : List Nat) : rfI C rd nid f args L0 roots = rfJ C rd nid f args L0 roots (reach rd reachFuel (kids rd roots) roots) := by simp [rfI]
theorem rfJ_e (C : Callee) (rd : Rd) (nid f : Nat) (args : List PV) (L0 roots L : List Nat) :
    rfJ C rd nid f args L0 roots L = rfK rd nid roots L L0 (refS C f roots.length ⟨rens (fun a => pos L a 0) args, picks rd (fun a => pos L a 0) L 0, L.length⟩) := rfl
theorem rfK_s (rd : Rd) (nid : Nat) (roots L L0 : List Nat) (v : PV) (h : List (Nat × PObj)) (nx : Nat) :
    rfK rd nid roots L L0 (some (v, h, nx)) = if (decide (nx ≤ roots.length + 64) && roots.all (isObj rd)) = true then some ⟨ren (backId roots nid) v, dels L ++ backs (backId roots nid) h, L0 ++ L⟩ else none := rfl
theorem rfK_map {α : Type} (rd : Rd) (nid : Nat) (roots L L0 : List Nat) (o : Option α) (enc : α → PV × List (Nat × PObj) × Nat) : rfK rd nid roots L L0 (o.map enc) = o.bind fun a => rfK rd nid roots L L0 (some (enc a)) := by cases o <;> rfl
theorem rfK_n (rd : Rd) (nid : Nat) (roots L L0 : List Nat) : rfK rd nid roots L L0 none = none := rfl
theorem ded_n (acc : List Nat) : dedup [] acc = acc := rfl
theorem ded_c (a : Nat) (r acc : List Nat) : dedup (a :: r) acc = if has acc a = true then dedup r acc else dedup r (acc ++ [a]) := rfl
theorem bxs_n (rd : Rd) : boxes rd [] = [] := rfl
def bxsK (a : Nat) (o : Option PObj) (r : List Nat) : List Nat := match o with
  | some (.box _) => a :: r
  | _ => r
theorem bxs_c (rd : Rd) (a : Nat) (r : List Nat) : boxes rd (a :: r) = bxsK a (rd a) (boxes rd r) := by
  simp only [boxes, bxsK]
  cases rd a with
  | none => rfl
  | some p => cases p <;> rfl
theorem bxsK_b (a : Nat) (cs : List PV) (r : List Nat) : bxsK a (some (.box cs)) r = a :: r := rfl
theorem bxsK_a (a k : Nat) (xs : List (List PV)) (fl fz : Bool) (r : List Nat) : bxsK a (some (.arr k xs fl fz)) r = r := rfl
theorem bid (roots : List Nat) (nid j : Nat) : backId roots nid j = if j < roots.length then roots[j]? else some (nid + (j - roots.length)) := rfl
theorem bks_n (g : Nat → Option Nat) : backs g [] = [] := rfl
def bksK (g : Nat → Option Nat) (o : PObj) (x : Option Nat) (r : Upd) : Upd := match x with
  | some a => (a, some (renObj g o)) :: r
  | none => r
theorem bks_c (g : Nat → Option Nat) (j : Nat) (o : PObj) (r : List (Nat × PObj)) : backs g ((j, o) :: r) = bksK g o (g j) (backs g r) := by
  simp only [backs, bksK]; cases g j <;> rfl
theorem bksK_s (g : Nat → Option Nat) (o : PObj) (a : Nat) (r : Upd) : bksK g o (some a) r = (a, some (renObj g o)) :: r := rfl
def iobK (o : Option PObj) : Bool := match o with | some _ => true | none => false
theorem iob (rd : Rd) (a : Nat) : isObj rd a = iobK (rd a) := by simp only [isObj, iobK]; cases rd a <;> rfl
theorem iobK_s (o : PObj) : iobK (some o) = true := rfl
def iarK (o : Option PObj) : Bool := match o with | some (.arr ..) => true | _ => false
theorem iar (rd : Rd) (a : Nat) : isArr rd a = iarK (rd a) := by
  simp only [isArr, iarK]
  cases rd a with
  | none => rfl
  | some p => cases p <;> rfl
theorem iarK_a (k : Nat) (xs : List (List PV)) (fl fz : Bool) : iarK (some (.arr k xs fl fz)) = true := rfl
theorem iarK_b (cs : List PV) : iarK (some (.box cs)) = false := rfl

/-! a function that acts on its caller's rows, itself -/
/-- The end of such a call. -/
def endR (E : Env) (f r : Nat) (ex : Ex) (st : St) : Option (PV × List (Nat × PObj) × Nat) :=
  if ex = .normal ∨ ex = .ret then
    match resultsOf E.tab (cleanAt r (E.keepE f) st) (resOf E f) with
    | some vs => match canon (upto r) [pack vs] (cleanAt r (E.keepE f) st).heap with
      | ([v'], h3, nx3) => some (v', h3, nx3)
      | _ => none
    | none => none
  else none
def machR (E : Env) (f r : Nat) (C : Callee) : Mach (PV × List (Nat × PObj) × Nat) := ⟨E, C, f, r, codOf E f, endR E f r⟩
theorem level_ref {E : Env} {f r : Nat} {fn : Func} (C : Callee) (args : List PV) (h : List (Nat × PObj)) (nx : Nat) (hp : E.primR f = none) (hn : E.norm f = []) (hf : E.code f = some fn) (hc : fn.body.isSome = true) :
    (level E C).refC f r args h nx = go (machR E f r C) [] 0 [] ⟨rens (fun a => pos (reach (look h) reachFuel (kids (look h) (upto r)) (upto r)) a 0) args ++ List.replicate (ntmOf E f - args.length) .undef,
      picks (look h) (fun a => pos (reach (look h) reachFuel (kids (look h) (upto r)) (upto r)) a 0) (reach (look h) reachFuel (kids (look h) (upto r)) (upto r)) 0, (reach (look h) reachFuel (kids (look h) (upto r)) (upto r)).length⟩ := by
  obtain ⟨c, hc⟩ := Option.isSome_iff_exists.1 hc
  have h1 : codOf E f = c := by simp [codOf, hf, hc]
  have h2 : ntmOf E f = fn.ntmps := by simp [ntmOf, hf]
  have h3 : resOf E f = fn.results.toList := by simp [resOf, hf]
  have hrl : ∀ g : Nat → Option Nat, (rens g args).length = args.length := fun g => by induction args with | nil => rfl | cons a l ih => simp [rens, ih]
  simp only [level, hp, hn, normArgs, order, idss, List.append_nil, runBody, hf, hc, go, fin, machR, ec, cAt_nil, h1, h2, hrl]
  generalize reach (look h) reachFuel (kids (look h) (upto r)) (upto r) = L
  cases evCode E C loopMax f r 0 c ⟨rens (fun a => pos L a 0) args ++ List.replicate (fn.ntmps - args.length) .undef, picks (look h) (fun a => pos L a 0) L 0, L.length⟩ with
  | none => rfl
  | some p =>
    obtain ⟨ex, st⟩ := p
    simp only [Option.bind_some, endR, h3]
    by_cases hx : ex = .normal ∨ ex = .ret
    · simp only [hx, ↓reduceIte]
      cases resultsOf E.tab (cleanAt r (E.keepE f) st) fn.results.toList <;> rfl
    · simp only [hx, ↓reduceIte]
theorem fix_ref {E : Env} {X : Nat → Bool} {C : Callee} (hC : Fix E X C) {f r : Nat} {fn : Func} (hx : X f = false) (args : List PV) (h : List (Nat × PObj)) (nx : Nat) (hp : E.primR f = none) (hn : E.norm f = []) (hf : E.code f = some fn) (hc : fn.body.isSome = true) :
    refS C f r ⟨args, h, nx⟩ = go (machR E f r C) [] 0 [] ⟨rens (fun a => pos (reach (look h) reachFuel (kids (look h) (upto r)) (upto r)) a 0) args ++ List.replicate (ntmOf E f - args.length) .undef,
      picks (look h) (fun a => pos (reach (look h) reachFuel (kids (look h) (upto r)) (upto r)) a 0) (reach (look h) reachFuel (kids (look h) (upto r)) (upto r)) 0, (reach (look h) reachFuel (kids (look h) (upto r)) (upto r)).length⟩ := by
  simp only [refS]; rw [hC.r f hx]; exact level_ref C args h nx hp hn hf hc
theorem clone_ok {E : Env} {X : Nat → Bool} {C : Callee} (hC : Fix E X C) {f k : Nat} (hx : X f = false) (hp : E.primP f = some (cloneP k)) {α : Type} [Enc α] (hk : k = Enc.size α) (l : List α) :
    C.pureC f [.lit (rows l) fl0] = Option.map (fun r => .lit (rows r) ⟨true, false⟩) (cloneL l) := by
  rw [hC.p f hx]
  simp only [level, hp, cloneP, rows_all l k hk, rows_length, Bool.true_and, decide_eq_true_eq, cloneL]
  split <;> rfl
theorem insert_ok {E : Env} {X : Nat → Bool} {C : Callee} (hC : Fix E X C) {f : Nat} (hx : X f = false) {k : Nat} (hp : E.primR f = some (insertR k)) {α : Type} [Enc α] (l v : List α) (i : Int) (n m : Nat) (hn : n = l.length) (hm : m = v.length) :
    refS C f 2 ⟨[.own 0 k 0 n, .int .i64 i, .own 1 k 0 m], [(0, .arr k (rows l) false false), (1, .arr k (rows v) false false)], 2⟩ =
      Option.map (fun r => (.own 2 k 0 (List.length r.2), [(1, .arr k (rows r.1) false false), (2, .arr k (rows r.2) false false)], 3)) ((insertL l v i).map fun r => (v, r)) := by
  subst hn; subst hm
  simp only [refS]
  rw [hC.r f hx]
  simp only [level, hp, insertR, insertL, rows_length, rows_take, rows_drop, rows_append]
  by_cases h1 : 0 ≤ i <;> by_cases h2 : i ≤ l.length <;> by_cases h3 : 0 < v.length <;> by_cases h4 : l.length + v.length ≤ bound <;> simp [h1, h2, h3, h4]
  omega
def erC (x : Kp) : Option (PV × List (Nat × PObj) × Nat) := match x with
  | ([v'], h3, nx3) => some (v', h3, nx3)
  | _ => none
def erK (r : Nat) (h : List (Nat × PObj)) (vs : Option (List PV)) : Option (PV × List (Nat × PObj) × Nat) := match vs with
  | some vs => erC (canon (upto r) [pack vs] h)
  | none => none
theorem endR_r {E : Env} (f r : Nat) (tm : List PV) (h : List (Nat × PObj)) (nx : Nat) (hE : E.keepE f = none) : endR E f r .ret ⟨tm, h, nx⟩ = erK r h (resultsOf E.tab ⟨tm, h, nx⟩ (resOf E f)) := by
  simp only [endR, hE, cleanAt, erK, erC]; simp only [or_true, ↓reduceIte]; cases resultsOf E.tab ⟨tm, h, nx⟩ (resOf E f) <;> rfl
theorem endR_n {E : Env} (f r : Nat) (tm : List PV) (h : List (Nat × PObj)) (nx : Nat) (hE : E.keepE f = none) : endR E f r .normal ⟨tm, h, nx⟩ = erK r h (resultsOf E.tab ⟨tm, h, nx⟩ (resOf E f)) := by
  simp only [endR, hE, cleanAt, erK, erC]; simp only [true_or, ↓reduceIte]; cases resultsOf E.tab ⟨tm, h, nx⟩ (resOf E f) <;> rfl
theorem erK_s (r : Nat) (h : List (Nat × PObj)) (vs : List PV) : erK r h (some vs) = erC (canK [pack vs] h (reach (look h) reachFuel (kids (look h) (upto r) ++ idss [pack vs]) (upto r))) := rfl
theorem erC_s (v : PV) (h : List (Nat × PObj)) (nx : Nat) : erC ([v], h, nx) = some (v, h, nx) := rfl

/-! order of draws -/
theorem pap_n (es : List Eff) : pairsApart es [] = true := rfl
theorem pap_c (es : List Eff) (i j : Nat) (r : List (Nat × Nat)) : pairsApart es ((i, j) :: r) = (apartE (nthE es i) (nthE es j) && pairsApart es r) := rfl
theorem apt (v w : PV) (u u' : Upd) (f f' : List Nat) : apartE ⟨v, u, f⟩ ⟨w, u', f'⟩ = (disj (updIds u) (f' ++ updIds u') && disj (updIds u') (f ++ updIds u)) := rfl
theorem dsj (xs ys : List Nat) : disj xs ys = xs.all fun a => !has ys a := rfl
theorem nte_0 (e : Eff) (r : List Eff) : nthE (e :: r) 0 = e := rfl
theorem nte_s (e : Eff) (r : List Eff) (n : Nat) : nthE (e :: r) (n + 1) = nthE r n := rfl
end Go.Pm
