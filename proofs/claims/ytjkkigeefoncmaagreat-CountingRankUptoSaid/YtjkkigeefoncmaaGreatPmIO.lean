/-
  What goes in and out of calls, and cleaning, for simp.
-/
import Derived.Test.YtjkkigeefoncmaaGreatPmTyped
set_option linter.unusedVariables false
set_option linter.unusedSimpArgs false
namespace Go.Pm
open Go

/-! ### snapshots of arguments -/
def snpK (x : Option (PV × List Nat)) (y : Option (List PV × List Nat)) : Option (List PV × List Nat) := match x, y with
  | some (v', l), some (r', l') => some (v' :: r', l ++ l')
  | _, _ => none
section
variable (rd : Rd) (kn : Bool) (n : Nat)
theorem snp_n : snaps rd kn (n + 1) [] = some ([], []) := by simp only [snaps]
theorem snp_c (v : PV) (r : List PV) : snaps rd kn (n + 1) (v :: r) = snpK (snap rd kn n v) (snaps rd kn n r) := by
  simp only [snaps, snpK]
  cases snap rd kn n v with
  | none => rfl
  | some p => cases snaps rd kn n r <;> rfl
theorem snpK_s (v : PV) (l : List Nat) (r : List PV) (l' : List Nat) : snpK (some (v, l)) (some (r, l')) = some (v :: r, l ++ l') := rfl
theorem sn_int (k : IntKind) (i : Int) : snap rd kn (n + 1) (.int k i) = some (.int k i, []) := by simp only [snap]
theorem sn_bool (b : Bool) : snap rd kn (n + 1) (.bool b) = some (.bool b, []) := by simp only [snap]
theorem sn_str (b : ByteArray) : snap rd kn (n + 1) (.str b) = some (.str b, []) := by simp only [snap]
theorem sn_lit (xs : List (List PV)) (fl : Fl) : snap rd kn (n + 1) (.lit xs fl) = some (.lit xs fl, []) := by simp only [snap]
theorem sn_eptr (xs : List (List PV)) (i o : Nat) : snap rd kn (n + 1) (.eptr xs i o) = some (.eptr xs i o, []) := by simp only [snap]
theorem sn_nilp : snap rd kn (n + 1) .nilp = some (.nilp, []) := by simp only [snap]
theorem sn_nilf : snap rd kn (n + 1) .nilf = some (.nilf, []) := by simp only [snap]
theorem sn_undef : snap rd kn (n + 1) .undef = some (.undef, []) := by simp only [snap]
theorem sn_nils : snap rd false (n + 1) .nils = some (.lit [] ⟨false, false⟩, []) := by simp only [snap]; rfl
theorem sn_nilsk : snap rd true (n + 1) .nils = some (.nils, []) := by simp only [snap]; rfl
def snO (k off len a : Nat) (o : Option PObj) : Option (PV × List Nat) := match o with
  | some (.arr k' xs flat _) => if (k' == k && decide (off + len ≤ xs.length)) = true then some (.lit ((xs.drop off).take len) ⟨false, flat⟩, [a]) else none
  | _ => none
theorem sn_own (a k off len : Nat) : snap rd kn (n + 1) (.own a k off len) = snO k off len a (rd a) := by
  simp only [snap, snO]
  cases rd a with
  | none => rfl
  | some p => cases p <;> rfl
theorem snO_s (k k' len a : Nat) (xs : List (List PV)) (flat fz : Bool) (hl : len = xs.length) :
    snO k 0 len a (some (.arr k' xs flat fz)) = if (k' == k) = true then some (.lit xs ⟨false, flat⟩, [a]) else none := by
  subst hl; simp [snO]
theorem snO_p {α : Type} [Enc α] (k k' a len : Nat) (l : List α) (flat fz : Bool) :
    snO k 0 len a (some (.arr k' (rows l) flat fz)) = if (k' == k) = true then (if decide (len ≤ l.length) = true then some (.lit (rows (l.take len)) ⟨false, flat⟩, [a]) else none) else none := by
  simp only [snO, Nat.zero_add, List.drop_zero, rows_take, rows_length]
  by_cases h1 : k' = k <;> by_cases h2 : len ≤ l.length <;> simp [h1, h2]
theorem snO_h {α : Type} [Enc α] (k k' a : Nat) (i : Int) (l : List α) (flat fz : Bool) :
    snO k 0 (Int.toNat i) a (some (.arr k' (rows l) flat fz)) = if (k' == k) = true then (if decide (Int.toNat i ≤ l.length) = true then some (.lit (rows (l.take i.toNat)) ⟨false, flat⟩, [a]) else none) else none := by
  simp only [snO, Nat.zero_add, List.drop_zero, rows_take, rows_length]
  by_cases h1 : k' = k <;> by_cases h2 : i.toNat ≤ l.length <;> simp [h1, h2]
theorem snpK_iteL (c : Prop) [Decidable c] (x x' : Option (PV × List Nat)) (y : Option (List PV × List Nat)) : snpK (if c then x else x') y = if c then snpK x y else snpK x' y := by split <;> rfl
theorem snpK_iteR (c : Prop) [Decidable c] (x : Option (PV × List Nat)) (y y' : Option (List PV × List Nat)) : snpK x (if c then y else y') = if c then snpK x y else snpK x y' := by split <;> rfl
theorem snpK_nL (y : Option (List PV × List Nat)) : snpK none y = none := rfl
theorem snpK_nR (x : Option (PV × List Nat)) : snpK x none = none := by cases x <;> rfl
theorem puK_ite (C : Callee) (f : Nat) (rk : List (Option Nat)) (nid : Nat) (c : Prop) [Decidable c] (x y : Option (List PV × List Nat)) : puK C f rk rd nid (if c then x else y) = if c then puK C f rk rd nid x else puK C f rk rd nid y := by split <;> rfl
theorem puK_n (C : Callee) (f : Nat) (rk : List (Option Nat)) (nid : Nat) : puK C f rk rd nid none = none := rfl
def snB (a o : Nat) (x : Option (List PV × List Nat)) : Option (PV × List Nat) := match x with
  | some (cs', l) => some (.eptr [cs'] 0 o, a :: l)
  | none => none
def snP (rd : Rd) (kn : Bool) (n a o : Nat) (x : Option PObj) : Option (PV × List Nat) := match x with
  | some (.box cs) => snB a o (snaps rd kn n cs)
  | _ => none
theorem sn_ptr (a o : Nat) : snap rd kn (n + 1) (.ptr a o) = snP rd kn n a o (rd a) := by
  simp only [snap, snP, snB]
  cases rd a with
  | none => rfl
  | some p => cases p with
    | box cs => simp only; cases snaps rd kn n cs <;> rfl
    | arr => rfl
theorem snP_s (a o : Nat) (cs : List PV) : snP rd kn n a o (some (.box cs)) = snB a o (snaps rd kn n cs) := rfl
theorem snB_s (a o : Nat) (cs : List PV) (l : List Nat) : snB a o (some (cs, l)) = some (.eptr [cs] 0 o, a :: l) := rfl
def snF (f : Nat) (x : Option (List PV × List Nat)) : Option (PV × List Nat) := match x with
  | some (cs, l) => some (.fn f cs, l)
  | none => none
theorem sn_fn (f : Nat) (cs : List PV) : snap rd kn (n + 1) (.fn f cs) = snF f (snaps rd kn n cs) := by
  simp only [snap, snF]; cases snaps rd kn n cs <;> rfl
theorem snF_s (f : Nat) (cs : List PV) (l : List Nat) : snF f (some (cs, l)) = some (.fn f cs, l) := rfl
def snA (x : Option (List PV × List Nat)) : Option (PV × List Nat) := match x with
  | some (cs, l) => some (.agg cs, l)
  | none => none
theorem sn_agg (cs : List PV) : snap rd kn (n + 1) (.agg cs) = snA (snaps rd kn n cs) := by
  simp only [snap, snA]; cases snaps rd kn n cs <;> rfl
theorem snA_s (cs : List PV) (l : List Nat) : snA (some (cs, l)) = some (.agg cs, l) := rfl
end

/-! ### results, at the callee -/
section
variable (tab : Nat → Option TI) (rd : Rd)
theorem rs_n (st : St) : resultsOf tab st [] = some [] := rfl
def rsK (v : Option PV) (vs : Option (List PV)) : Option (List PV) := match v, vs with
  | some v, some vs => some (v :: vs)
  | _, _ => none
theorem rs_c (st : St) (r : ResultVar) (l : List ResultVar) : resultsOf tab st (r :: l) = rsK (resultOf tab st r) (resultsOf tab st l) := rfl
theorem rsK_s (v : PV) (vs : List PV) : rsK (some v) (some vs) = some (v :: vs) := rfl
theorem rs_tmp (tm : List PV) (h : List (Nat × PObj)) (nx t : Nat) : resultOf tab ⟨tm, h, nx⟩ (.tmp t) = some (nth tm t) := rfl
theorem rs_cell (tm : List PV) (h : List (Nat × PObj)) (nx a t : Nat) : resultOf tab ⟨tm, h, nx⟩ (.cell a t) = (loadK (look h) (tab t) (some (nth tm a))).map (·.val) := by
  simp only [resultOf, loadK]; cases tab t <;> rfl
theorem pk_1 (v : PV) : pack [v] = v := rfl
theorem pk_0 : pack [] = .tup [] := rfl
theorem pk_2 (v w : PV) (r : List PV) : pack (v :: w :: r) = .tup (v :: w :: r) := rfl
/-- The end of a pure call, its results known. -/
def eK (rk : List (Option Nat)) (h : List (Nat × PObj)) (vs : Option (List PV)) : Option PV := match vs with
  | some vs => exportR (look h) (pack vs) rk
  | none => none
theorem end_r {E : Env} (f : Nat) (tm : List PV) (h : List (Nat × PObj)) (nx : Nat) (hE : E.keepE f = none) : endP E f .ret ⟨tm, h, nx⟩ = eK (E.resK f) h (resultsOf E.tab ⟨tm, h, nx⟩ (resOf E f)) := by
  simp only [endP, hE, cleanAt, eK]; simp only [or_true, ↓reduceIte]; cases resultsOf E.tab ⟨tm, h, nx⟩ (resOf E f) <;> rfl
theorem end_norm {E : Env} (f : Nat) (tm : List PV) (h : List (Nat × PObj)) (nx : Nat) (hE : E.keepE f = none) : endP E f .normal ⟨tm, h, nx⟩ = eK (E.resK f) h (resultsOf E.tab ⟨tm, h, nx⟩ (resOf E f)) := by
  simp only [endP, hE, cleanAt, eK]; simp only [true_or, ↓reduceIte]; cases resultsOf E.tab ⟨tm, h, nx⟩ (resOf E f) <;> rfl
theorem eK_s (rk : List (Option Nat)) (h : List (Nat × PObj)) (vs : List PV) : eK rk h (some vs) = exportR (look h) (pack vs) rk := rfl

def xpC (v : PV) (x : Option (List PV)) : Option (List PV) := match x with
  | some r => some (v :: r)
  | none => none
theorem xpC_s (v : PV) (r : List PV) : xpC v (some r) = some (v :: r) := rfl
variable (all : List Nat)
theorem xp_n (ks : List (Option Nat)) : exports rd all [] ks = some [] := rfl
theorem xp_int (k : IntKind) (i : Int) (r : List PV) (ks : List (Option Nat)) : exports rd all (.int k i :: r) ks = xpC (.int k i) (exports rd all r ks.tail) := by
  simp only [exports, xpC]; cases exports rd all r ks.tail <;> rfl
theorem xp_bool (b : Bool) (r : List PV) (ks : List (Option Nat)) : exports rd all (.bool b :: r) ks = xpC (.bool b) (exports rd all r ks.tail) := by
  simp only [exports, xpC]; cases exports rd all r ks.tail <;> rfl
theorem xp_str (b : ByteArray) (r : List PV) (ks : List (Option Nat)) : exports rd all (.str b :: r) ks = xpC (.str b) (exports rd all r ks.tail) := by
  simp only [exports, xpC]; cases exports rd all r ks.tail <;> rfl
theorem xp_lit (xs : List (List PV)) (u fl : Bool) (r : List PV) (ks : List (Option Nat)) : exports rd all (.lit xs ⟨u, fl⟩ :: r) (none :: ks) = xpC (.lit xs ⟨false, fl⟩) (exports rd all r ks) := by
  simp only [exports, xpC, List.tail_cons]; cases exports rd all r ks <;> rfl
theorem xp_lit0 (xs : List (List PV)) (u fl : Bool) (r : List PV) (k : Nat) (ks : List (Option Nat)) : exports rd all (.lit xs ⟨u, fl⟩ :: r) (some k :: ks) = none := by
  simp only [exports]; cases exports rd all r (some k :: ks).tail <;> rfl
theorem xp_nils (r : List PV) (ks : List (Option Nat)) : exports rd all (.nils :: r) (none :: ks) = xpC (.lit [] ⟨false, false⟩) (exports rd all r ks) := by
  simp only [exports, xpC, List.tail_cons]; cases exports rd all r ks <;> rfl
theorem xp_nils1 (r : List PV) (k : Nat) (ks : List (Option Nat)) : exports rd all (.nils :: r) (some k :: ks) = xpC (.lit [] ⟨true, false⟩) (exports rd all r ks) := by
  simp only [exports, xpC, List.tail_cons]; cases exports rd all r ks <;> rfl
def xpO (k off len t : Nat) (hd : Option Nat) (o : Option PObj) (x : Option (List PV)) : Option (List PV) := match o, x with
  | some (.arr k' xs flat fz), some r' =>
    if (k' == k && decide (off + len ≤ xs.length)) = true then
      match hd with
      | some k2 => if (k2 == k && (!fz && t == 1)) = true then some (.lit ((xs.drop off).take len) ⟨true, flat⟩ :: r') else none
      | none => if (!fz && t == 1) = true then none else some (.lit ((xs.drop off).take len) ⟨false, flat⟩ :: r')
    else none
  | _, _ => none
theorem xp_own (a k off len : Nat) (r : List PV) (hd : Option Nat) (ks : List (Option Nat)) : exports rd all (.own a k off len :: r) (hd :: ks) = xpO k off len (times a all) hd (rd a) (exports rd all r ks) := by
  simp only [exports, xpO, List.tail_cons, List.head?_cons]
  cases exports rd all r ks with
  | none => cases rd a with
    | none => rfl
    | some p => cases p <;> rfl
  | some r' => cases rd a with
    | none => rfl
    | some p => cases p with
      | box => rfl
      | arr k' xs fl fz => cases hd <;> rfl
theorem xpO_new (k len k' k2 : Nat) (xs : List (List PV)) (flat : Bool) (r : List PV) (hl : len = xs.length) :
    xpO k 0 len 1 (some k2) (some (.arr k' xs flat false)) (some r) = if (k' == k && k2 == k) = true then some (.lit xs ⟨true, flat⟩ :: r) else none := by
  subst hl
  simp only [xpO, Nat.zero_add, Nat.le_refl, decide_true, Bool.and_true, List.drop_zero, List.take_length, Bool.not_false, beq_self_eq_true]
  by_cases h1 : k' = k <;> by_cases h2 : k2 = k <;> simp [h1, h2]
theorem xpO_old (k len k' t : Nat) (xs : List (List PV)) (flat : Bool) (r : List PV) (hl : len = xs.length) :
    xpO k 0 len t none (some (.arr k' xs flat true)) (some r) = if (k' == k) = true then some (.lit xs ⟨false, flat⟩ :: r) else none := by
  subst hl
  simp [xpO]
theorem xpO_p {α : Type} [Enc α] (k len k' k2 : Nat) (l : List α) (flat : Bool) (r : List PV) :
    xpO k 0 len 1 (some k2) (some (.arr k' (rows l) flat false)) (some r) = if (k' == k && k2 == k) = true then (if decide (len ≤ l.length) = true then some (.lit (rows (l.take len)) ⟨true, flat⟩ :: r) else none) else none := by
  simp only [xpO, Nat.zero_add, List.drop_zero, rows_take, rows_length, Bool.not_false, beq_self_eq_true, Bool.and_true]
  by_cases h1 : k' = k <;> by_cases h2 : k2 = k <;> by_cases h3 : len ≤ l.length <;> simp [h1, h2, h3]
theorem xpC_i (v : PV) (c : Prop) [Decidable c] (x y : Option (List PV)) : xpC v (if c then x else y) = if c then xpC v x else xpC v y := by split <;> rfl
theorem xpC_n (v : PV) : xpC v none = none := rfl
def xvK (x : Option (List PV)) (ks : List (Option Nat)) : Option (PV × List (Option Nat)) := match x with
  | some [v'] => some (v', ks)
  | _ => none
def xvA (x : Option (List PV)) (ks : List (Option Nat)) : Option (PV × List (Option Nat)) := match x with
  | some cs' => some (.agg cs', ks)
  | none => none
theorem xvK_s (v : PV) (ks : List (Option Nat)) : xvK (some [v]) ks = some (v, ks) := rfl
theorem xvA_s (cs : List PV) (ks : List (Option Nat)) : xvA (some cs) ks = some (.agg cs, ks) := rfl
theorem xvK_i (ks : List (Option Nat)) (c : Prop) [Decidable c] (x y : Option (List PV)) : xvK (if c then x else y) ks = if c then xvK x ks else xvK y ks := by split <;> rfl
theorem xvK_n (ks : List (Option Nat)) : xvK none ks = none := rfl
theorem xvA_i (ks : List (Option Nat)) (c : Prop) [Decidable c] (x y : Option (List PV)) : xvA (if c then x else y) ks = if c then xvA x ks else xvA y ks := by split <;> rfl
theorem xvA_n (ks : List (Option Nat)) : xvA none ks = none := rfl
theorem xv_agg (cs : List PV) (ks : List (Option Nat)) : exportV rd all (.agg cs) ks = xvA (exports rd all cs (ks.take cs.length)) (ks.drop cs.length) := by
  simp only [exportV, xvA]; cases exports rd all cs (ks.take cs.length) <;> rfl
theorem xv_one (v : PV) (k : Option Nat) (ks : List (Option Nat)) (hv : (match v with | .agg _ => false | _ => true) = true) : exportV rd all v (k :: ks) = xvK (exports rd all [v] [k]) ks := by
  cases v <;> first | rfl | simp at hv
theorem xv_int (kk : IntKind) (i : Int) (k : Option Nat) (ks : List (Option Nat)) : exportV rd all (.int kk i) (k :: ks) = some (.int kk i, ks) := rfl
theorem xv_bool (b : Bool) (k : Option Nat) (ks : List (Option Nat)) : exportV rd all (.bool b) (k :: ks) = some (.bool b, ks) := rfl
theorem xv_str (b : ByteArray) (k : Option Nat) (ks : List (Option Nat)) : exportV rd all (.str b) (k :: ks) = some (.str b, ks) := rfl
theorem xv_lit (xs : List (List PV)) (fl : Fl) (k : Option Nat) (ks : List (Option Nat)) : exportV rd all (.lit xs fl) (k :: ks) = xvK (exports rd all [.lit xs fl] [k]) ks := rfl
theorem xv_nils (k : Option Nat) (ks : List (Option Nat)) : exportV rd all .nils (k :: ks) = xvK (exports rd all [.nils] [k]) ks := rfl
theorem xv_own (a kk off len : Nat) (k : Option Nat) (ks : List (Option Nat)) : exportV rd all (.own a kk off len) (k :: ks) = xvK (exports rd all [.own a kk off len] [k]) ks := rfl
def xwC (v : PV) (x : Option (List PV)) : Option (List PV) := match x with
  | some vs => some (v :: vs)
  | none => none
def xwK (rd : Rd) (all : List Nat) (r : List PV) (x : Option (PV × List (Option Nat))) : Option (List PV) := match x with
  | some (v', ks') => xwC v' (exportVs rd all r ks')
  | none => none
theorem xw_n (ks : List (Option Nat)) : exportVs rd all [] ks = some [] := rfl
theorem xw_c (v : PV) (r : List PV) (ks : List (Option Nat)) : exportVs rd all (v :: r) ks = xwK rd all r (exportV rd all v ks) := by
  simp only [exportVs, xwK, xwC]
  cases exportV rd all v ks with
  | none => rfl
  | some p => simp only; cases exportVs rd all r p.2 <;> rfl
theorem xwK_s (r : List PV) (v : PV) (ks : List (Option Nat)) : xwK rd all r (some (v, ks)) = xwC v (exportVs rd all r ks) := rfl
theorem xwC_s (v : PV) (vs : List PV) : xwC v (some vs) = some (v :: vs) := rfl
theorem xwK_i (r : List PV) (c : Prop) [Decidable c] (x y : Option (PV × List (Option Nat))) : xwK rd all r (if c then x else y) = if c then xwK rd all r x else xwK rd all r y := by split <;> rfl
theorem xwK_n (r : List PV) : xwK rd all r none = none := rfl
theorem xwC_i (v : PV) (c : Prop) [Decidable c] (x y : Option (List PV)) : xwC v (if c then x else y) = if c then xwC v x else xwC v y := by split <;> rfl
theorem xwC_n (v : PV) : xwC v none = none := rfl
theorem xr_tup (vs : List PV) (ks : List (Option Nat)) : exportR rd (.tup vs) ks = (exportVs rd (idss vs ++ shVs vs ks) vs ks).map .tup := rfl
theorem xr_int (kk : IntKind) (i : Int) (ks : List (Option Nat)) : exportR rd (.int kk i) ks = (exportV rd [] (.int kk i) ks).map (·.1) := by
  cases ks with
  | nil => rfl
  | cons k r => cases k <;> rfl
theorem xr_bool (b : Bool) (ks : List (Option Nat)) : exportR rd (.bool b) ks = (exportV rd [] (.bool b) ks).map (·.1) := by
  cases ks with
  | nil => rfl
  | cons k r => cases k <;> rfl
theorem xr_str (b : ByteArray) (ks : List (Option Nat)) : exportR rd (.str b) ks = (exportV rd [] (.str b) ks).map (·.1) := by
  cases ks with
  | nil => rfl
  | cons k r => cases k <;> rfl
theorem xr_lit (xs : List (List PV)) (fl : Fl) (ks : List (Option Nat)) : exportR rd (.lit xs fl) ks = (exportV rd (ids (.lit xs fl) ++ (shV (.lit xs fl) ks).1) (.lit xs fl) ks).map (·.1) := rfl
theorem xr_nils (ks : List (Option Nat)) : exportR rd .nils ks = (exportV rd (ids .nils ++ (shV .nils ks).1) .nils ks).map (·.1) := rfl
theorem xr_own (a k off len : Nat) (ks : List (Option Nat)) : exportR rd (.own a k off len) ks = (exportV rd (ids (.own a k off len) ++ (shV (.own a k off len) ks).1) (.own a k off len) ks).map (·.1) := rfl
theorem xr_agg (cs : List PV) (ks : List (Option Nat)) : exportR rd (.agg cs) ks = (exportV rd (ids (.agg cs) ++ (shV (.agg cs) ks).1) (.agg cs) ks).map (·.1) := rfl
end

/-! ### results, at the caller -/
section
variable (nid : Nat)
abbrev ImpL := Option (List PV × Upd × Bool × Nat)
def imC (v : PV) (u : Upd) (s : Bool) (x : ImpL) : ImpL := match x with
  | some (vs, u', sh, j) => some (v :: vs, u ++ u', sh || s, j)
  | none => none
theorem imC_s (v : PV) (u : Upd) (s : Bool) (vs : List PV) (u' : Upd) (sh : Bool) (j : Nat) : imC v u s (some (vs, u', sh, j)) = some (v :: vs, u ++ u', sh || s, j) := rfl
theorem ip_n (ks : List (Option Nat)) (j : Nat) : imports nid [] ks j = some ([], [], false, j) := rfl
theorem ip_int (k : IntKind) (i : Int) (r : List PV) (ks : List (Option Nat)) (j : Nat) : imports nid (.int k i :: r) ks j = imC (.int k i) [] false (imports nid r ks.tail j) := by
  simp only [imports, imC, plainCell, Bool.true_or, ↓reduceIte]; cases imports nid r ks.tail j with | none => rfl | some p => obtain ⟨a, b, c, d⟩ := p; simp
theorem ip_bool (b : Bool) (r : List PV) (ks : List (Option Nat)) (j : Nat) : imports nid (.bool b :: r) ks j = imC (.bool b) [] false (imports nid r ks.tail j) := by
  simp only [imports, imC, plainCell, Bool.true_or, ↓reduceIte]; cases imports nid r ks.tail j with | none => rfl | some p => obtain ⟨a, b, c, d⟩ := p; simp
theorem ip_str (b : ByteArray) (r : List PV) (ks : List (Option Nat)) (j : Nat) : imports nid (.str b :: r) ks j = imC (.str b) [] false (imports nid r ks.tail j) := by
  simp only [imports, imC, plainCell, Bool.true_or, ↓reduceIte]; cases imports nid r ks.tail j with | none => rfl | some p => obtain ⟨a, b, c, d⟩ := p; simp
theorem ip_new (xs : List (List PV)) (fl : Bool) (r : List PV) (k : Nat) (ks : List (Option Nat)) (j : Nat) :
    imports nid (.lit xs ⟨true, fl⟩ :: r) (some k :: ks) j = imC (.own (nid + j) k 0 xs.length) [(nid + j, some (.arr k xs false false))] (!(xs.all allPlain)) (imports nid r ks (j + 1)) := by
  simp only [imports, imC, List.head?_cons, List.tail_cons]; cases imports nid r ks (j + 1) with | none => rfl | some p => obtain ⟨a, b, c, d⟩ := p; rfl
theorem ip_old (xs : List (List PV)) (fl : Bool) (r : List PV) (k : Option Nat) (ks : List (Option Nat)) (j : Nat) :
    imports nid (.lit xs ⟨false, fl⟩ :: r) (k :: ks) j = imC (.lit xs ⟨false, fl⟩) [] true (imports nid r ks j) := by
  simp only [imports, imC, List.tail_cons]; cases imports nid r ks j with | none => rfl | some p => obtain ⟨a, b, c, d⟩ := p; simp
abbrev ImpV := Option (PV × Upd × Bool × Nat × List (Option Nat))
def ivK (ks : List (Option Nat)) (x : ImpL) : ImpV := match x with
  | some ([v'], u, sh, j') => some (v', u, sh, j', ks)
  | _ => none
def ivA (ks : List (Option Nat)) (x : ImpL) : ImpV := match x with
  | some (cs', u, sh, j') => some (.agg cs', u, sh, j', ks)
  | none => none
theorem ivK_s (ks : List (Option Nat)) (v : PV) (u : Upd) (sh : Bool) (j : Nat) : ivK ks (some ([v], u, sh, j)) = some (v, u, sh, j, ks) := rfl
theorem ivA_s (ks : List (Option Nat)) (cs : List PV) (u : Upd) (sh : Bool) (j : Nat) : ivA ks (some (cs, u, sh, j)) = some (.agg cs, u, sh, j, ks) := rfl
theorem iv_agg (cs : List PV) (ks : List (Option Nat)) (j : Nat) : importV nid (.agg cs) ks j = ivA (ks.drop cs.length) (imports nid cs (ks.take cs.length) j) := by
  simp only [importV, ivA]; cases imports nid cs (ks.take cs.length) j <;> rfl
theorem iv_int (k : IntKind) (i : Int) (kk : Option Nat) (ks : List (Option Nat)) (j : Nat) : importV nid (.int k i) (kk :: ks) j = some (.int k i, [], false, j, ks) := rfl
theorem iv_bool (b : Bool) (kk : Option Nat) (ks : List (Option Nat)) (j : Nat) : importV nid (.bool b) (kk :: ks) j = some (.bool b, [], false, j, ks) := rfl
theorem iv_str (b : ByteArray) (kk : Option Nat) (ks : List (Option Nat)) (j : Nat) : importV nid (.str b) (kk :: ks) j = some (.str b, [], false, j, ks) := rfl
theorem iv_int0 (k : IntKind) (i : Int) (j : Nat) : importV nid (.int k i) [] j = some (.int k i, [], false, j, []) := rfl
theorem iv_bool0 (b : Bool) (j : Nat) : importV nid (.bool b) [] j = some (.bool b, [], false, j, []) := rfl
theorem iv_str0 (b : ByteArray) (j : Nat) : importV nid (.str b) [] j = some (.str b, [], false, j, []) := rfl
theorem iv_lit (xs : List (List PV)) (fl : Fl) (kk : Option Nat) (ks : List (Option Nat)) (j : Nat) : importV nid (.lit xs fl) (kk :: ks) j = ivK ks (imports nid [.lit xs fl] [kk] j) := rfl
def iwC (v : PV) (u : Upd) (sh : Bool) (x : ImpL) : ImpL := match x with
  | some (vs, u', sh', j'') => some (v :: vs, u ++ u', sh || sh', j'')
  | none => none
theorem iwC_s (v : PV) (u : Upd) (sh : Bool) (vs : List PV) (u' : Upd) (sh' : Bool) (j : Nat) : iwC v u sh (some (vs, u', sh', j)) = some (v :: vs, u ++ u', sh || sh', j) := rfl
def iwK (nid : Nat) (r : List PV) (x : ImpV) : ImpL := match x with
  | some (v', u, sh, j', ks') => iwC v' u sh (importVs nid r ks' j')
  | none => none
theorem iw_n (ks : List (Option Nat)) (j : Nat) : importVs nid [] ks j = some ([], [], false, j) := rfl
theorem iw_c (v : PV) (r : List PV) (ks : List (Option Nat)) (j : Nat) : importVs nid (v :: r) ks j = iwK nid r (importV nid v ks j) := by
  simp only [importVs, iwK, iwC]
  cases importV nid v ks j with
  | none => rfl
  | some p => obtain ⟨a, b, c, d, e⟩ := p; simp only; cases importVs nid r e d <;> rfl
theorem iwK_s (r : List PV) (v : PV) (u : Upd) (sh : Bool) (j : Nat) (ks : List (Option Nat)) : iwK nid r (some (v, u, sh, j, ks)) = iwC v u sh (importVs nid r ks j) := rfl
def irT (x : ImpL) : Option (PV × Upd × Bool × Nat) := match x with
  | some (vs', u, sh, j) => some (.tup vs', u, sh, j)
  | none => none
def irV (x : ImpV) : Option (PV × Upd × Bool × Nat) := match x with
  | some (v', u, sh, j, _) => some (v', u, sh, j)
  | none => none
theorem irT_s (vs : List PV) (u : Upd) (sh : Bool) (j : Nat) : irT (some (vs, u, sh, j)) = some (.tup vs, u, sh, j) := rfl
theorem irV_s (v : PV) (u : Upd) (sh : Bool) (j : Nat) (ks : List (Option Nat)) : irV (some (v, u, sh, j, ks)) = some (v, u, sh, j) := rfl
theorem ir_tup (vs : List PV) (ks : List (Option Nat)) : importR nid (.tup vs) ks = irT (importVs nid vs ks 0) := by simp only [importR, irT]; cases importVs nid vs ks 0 <;> rfl
theorem ir_int (k : IntKind) (i : Int) (ks : List (Option Nat)) : importR nid (.int k i) ks = irV (importV nid (.int k i) ks 0) := by simp only [importR, irV]; cases importV nid (.int k i) ks 0 <;> rfl
theorem ir_bool (b : Bool) (ks : List (Option Nat)) : importR nid (.bool b) ks = irV (importV nid (.bool b) ks 0) := by simp only [importR, irV]; cases importV nid (.bool b) ks 0 <;> rfl
theorem ir_str (b : ByteArray) (ks : List (Option Nat)) : importR nid (.str b) ks = irV (importV nid (.str b) ks 0) := by simp only [importR, irV]; cases importV nid (.str b) ks 0 <;> rfl
theorem ir_lit (xs : List (List PV)) (fl : Fl) (ks : List (Option Nat)) : importR nid (.lit xs fl) ks = irV (importV nid (.lit xs fl) ks 0) := by simp only [importR, irV]; cases importV nid (.lit xs fl) ks 0 <;> rfl
theorem ir_agg (cs : List PV) (ks : List (Option Nat)) : importR nid (.agg cs) ks = irV (importV nid (.agg cs) ks 0) := by simp only [importR, irV]; cases importV nid (.agg cs) ks 0 <;> rfl
end

/-! ### cleaning -/
abbrev Kp := List PV × List (Nat × PObj) × Nat
def kpU (x : Kp) : Kp := (.undef :: x.1, x.2.1, x.2.2)
def kpV (v : PV) (x : Kp) : Kp := (v :: x.1, x.2.1, x.2.2)
theorem kpU_s (tm : List PV) (h : List (Nat × PObj)) (n : Nat) : kpU (tm, h, n) = (.undef :: tm, h, n) := rfl
theorem kpV_s (v : PV) (tm : List PV) (h : List (Nat × PObj)) (n : Nat) : kpV v (tm, h, n) = (v :: tm, h, n) := rfl
abbrev Ks := List (Nat × List (Nat × Nat × Bool))
def kpN (r : List PV) (n : Nat) (ks : Ks) (x : PV × List (Nat × PObj) × Nat) : Kp := kpV x.1 (keepT x.2.1 x.2.2 r (n + 1) ks)
theorem kt_nil (h : List (Nat × PObj)) (nx n : Nat) (ks : Ks) : keepT h nx [] n ks = ([], h, nx) := by cases ks <;> rfl
theorem kt_u (h : List (Nat × PObj)) (nx : Nat) (v : PV) (r : List PV) (n : Nat) : keepT h nx (v :: r) n [] = kpU (keepT h nx r (n + 1) []) := rfl
theorem kt_c (h : List (Nat × PObj)) (nx : Nat) (v : PV) (r : List PV) (n t : Nat) (cs : List (Nat × Nat × Bool)) (ks : Ks) :
    keepT h nx (v :: r) n ((t, cs) :: ks) = if (t == n) = true then kpN r n ks (normIn v h nx cs) else kpU (keepT h nx r (n + 1) ((t, cs) :: ks)) := rfl
theorem kpN_s (r : List PV) (n : Nat) (ks : Ks) (v : PV) (h : List (Nat × PObj)) (nx : Nat) : kpN r n ks (v, h, nx) = kpV v (keepT h nx r (n + 1) ks) := rfl
theorem ni_n (v : PV) (h : List (Nat × PObj)) (nx : Nat) : normIn v h nx [] = (v, h, nx) := rfl
def niB (a c k : Nat) (flat : Bool) (r : List (Nat × Nat × Bool)) (h : List (Nat × PObj)) (nx : Nat) (o : Option PObj) : PV × List (Nat × PObj) × Nat := match o with
  | some (.box cs) => match normCell (nth cs c) h nx k flat with
    | (x, h', n') => normIn (.ptr a 0) (setObj h' a (.box (put cs c x))) n' r
  | _ => normIn (.ptr a 0) h nx r
theorem ni_ptr (a c k : Nat) (flat : Bool) (r : List (Nat × Nat × Bool)) (h : List (Nat × PObj)) (nx : Nat) : normIn (.ptr a 0) h nx ((c, k, flat) :: r) = niB a c k flat r h nx (look h a) := by
  simp only [normIn, niB]
  cases look h a with
  | none => rfl
  | some p => cases p <;> rfl
def niC (a c : Nat) (cs : List PV) (r : List (Nat × Nat × Bool)) (x : PV × List (Nat × PObj) × Nat) : PV × List (Nat × PObj) × Nat := normIn (.ptr a 0) (setObj x.2.1 a (.box (put cs c x.1))) x.2.2 r
theorem niB_s (a c k : Nat) (flat : Bool) (r : List (Nat × Nat × Bool)) (h : List (Nat × PObj)) (nx : Nat) (cs : List PV) : niB a c k flat r h nx (some (.box cs)) = niC a c cs r (normCell (nth cs c) h nx k flat) := rfl
theorem niC_s (a c : Nat) (cs : List PV) (r : List (Nat × Nat × Bool)) (x : PV) (h : List (Nat × PObj)) (nx : Nat) : niC a c cs r (x, h, nx) = normIn (.ptr a 0) (setObj h a (.box (put cs c x))) nx r := rfl
def niD (r : List (Nat × Nat × Bool)) (x : PV × List (Nat × PObj) × Nat) : PV × List (Nat × PObj) × Nat := normIn x.1 x.2.1 x.2.2 r
theorem ni_own (a kk off len c k : Nat) (flat : Bool) (r : List (Nat × Nat × Bool)) (h : List (Nat × PObj)) (nx : Nat) : normIn (.own a kk off len) h nx ((c, k, flat) :: r) = normIn (.own a kk off len) h nx r := rfl
theorem ni_lit (xs : List (List PV)) (fl : Fl) (c k : Nat) (flat : Bool) (r : List (Nat × Nat × Bool)) (h : List (Nat × PObj)) (nx : Nat) : normIn (.lit xs fl) h nx ((c, k, flat) :: r) = normIn (.lit xs fl) h nx r := rfl
theorem ni_nils (c k : Nat) (flat : Bool) (r : List (Nat × Nat × Bool)) (h : List (Nat × PObj)) (nx : Nat) : normIn .nils h nx ((c, k, flat) :: r) = normIn (.own nx k 0 0) (setObj h nx (.arr k [] flat false)) (nx + 1) r := rfl
theorem nc_nils (h : List (Nat × PObj)) (nx k : Nat) (flat : Bool) : normCell .nils h nx k flat = (.own nx k 0 0, setObj h nx (.arr k [] flat false), nx + 1) := rfl
theorem nc_own (a kk off len : Nat) (h : List (Nat × PObj)) (nx k : Nat) (flat : Bool) : normCell (.own a kk off len) h nx k flat = (.own a kk off len, h, nx) := rfl
theorem nc_lit (xs : List (List PV)) (fl : Fl) (h : List (Nat × PObj)) (nx k : Nat) (flat : Bool) : normCell (.lit xs fl) h nx k flat = (.lit xs fl, h, nx) := rfl
def cnK (x : Kp) : St := ⟨x.1, x.2.1, x.2.2⟩
def clnK (nr : Nat) (x : Kp) : St := cnK (canon (upto nr) x.1 x.2.1)
theorem cln (nr : Nat) (ks : Ks) (tm : List PV) (h : List (Nat × PObj)) (nx : Nat) : clean nr ks ⟨tm, h, nx⟩ = clnK nr (keepT h nx tm 0 ks) := rfl
def pickL (g : Nat → Option Nat) (rd : Rd) (L : List Nat) : List (Nat × PObj) := picks rd g L 0
def canK (vals : List PV) (h : List (Nat × PObj)) (L : List Nat) : Kp := (rens (fun a => pos L a 0) vals, picks (look h) (fun a => pos L a 0) L 0, L.length)
theorem clnK_s (nr : Nat) (tm : List PV) (h : List (Nat × PObj)) (nx : Nat) : clnK nr (tm, h, nx) = cnK (canK tm h (reach (look h) reachFuel (kids (look h) (upto nr) ++ idss tm) (upto nr))) := rfl
theorem canK_e (vals : List PV) (h : List (Nat × PObj)) (L : List Nat) : canK vals h L = (rens (fun a => pos L a 0) vals, picks (look h) (fun a => pos L a 0) L 0, L.length) := rfl
theorem cnK_s (tm : List PV) (h : List (Nat × PObj)) (nx : Nat) : cnK (tm, h, nx) = ⟨tm, h, nx⟩ := rfl
theorem id_own (a k off len : Nat) : ids (.own a k off len) = [a] := rfl
theorem id_ptr (a o : Nat) : ids (.ptr a o) = [a] := rfl
theorem id_int (k : IntKind) (n : Int) : ids (.int k n) = [] := rfl
theorem id_bool (b : Bool) : ids (.bool b) = [] := rfl
theorem id_str (b : ByteArray) : ids (.str b) = [] := rfl
theorem id_lit (xs : List (List PV)) (fl : Fl) : ids (.lit xs fl) = [] := rfl
theorem id_eptr (xs : List (List PV)) (i o : Nat) : ids (.eptr xs i o) = [] := rfl
theorem id_undef : ids .undef = [] := rfl
theorem id_void : ids .void = [] := rfl
theorem id_nils : ids .nils = [] := rfl
theorem id_nilp : ids .nilp = [] := rfl
theorem id_nilf : ids .nilf = [] := rfl
theorem id_agg (cs : List PV) : ids (.agg cs) = idss cs := by simp only [ids]
theorem id_tup (cs : List PV) : ids (.tup cs) = idss cs := by simp only [ids]
theorem id_fn (f : Nat) (cs : List PV) : ids (.fn f cs) = idss cs := by simp only [ids]
theorem ids_n : idss [] = [] := rfl
theorem ids_c (v : PV) (r : List PV) : idss (v :: r) = ids v ++ idss r := rfl
theorem rn_int (g : Nat → Option Nat) (k : IntKind) (n : Int) : ren g (.int k n) = .int k n := rfl
theorem rn_bool (g : Nat → Option Nat) (b : Bool) : ren g (.bool b) = .bool b := rfl
theorem rn_str (g : Nat → Option Nat) (b : ByteArray) : ren g (.str b) = .str b := rfl
theorem rn_lit (g : Nat → Option Nat) (xs : List (List PV)) (fl : Fl) : ren g (.lit xs fl) = .lit xs fl := rfl
theorem rn_eptr (g : Nat → Option Nat) (xs : List (List PV)) (i o : Nat) : ren g (.eptr xs i o) = .eptr xs i o := rfl
theorem rn_undef (g : Nat → Option Nat) : ren g .undef = .undef := rfl
theorem rn_void (g : Nat → Option Nat) : ren g .void = .void := rfl
theorem rn_nils (g : Nat → Option Nat) : ren g .nils = .nils := rfl
theorem rn_nilp (g : Nat → Option Nat) : ren g .nilp = .nilp := rfl
theorem rn_nilf (g : Nat → Option Nat) : ren g .nilf = .nilf := rfl
theorem rn_agg (g : Nat → Option Nat) (cs : List PV) : ren g (.agg cs) = .agg (rens g cs) := by simp only [ren]
theorem rn_tup (g : Nat → Option Nat) (cs : List PV) : ren g (.tup cs) = .tup (rens g cs) := by simp only [ren]
theorem rn_fn (g : Nat → Option Nat) (f : Nat) (cs : List PV) : ren g (.fn f cs) = .fn f (rens g cs) := by simp only [ren]
def rnO (k off len : Nat) (x : Option Nat) : PV := match x with | some j => .own j k off len | none => .undef
def rnP (o : Nat) (x : Option Nat) : PV := match x with | some j => .ptr j o | none => .undef
theorem rn_own (g : Nat → Option Nat) (a k off len : Nat) : ren g (.own a k off len) = rnO k off len (g a) := rfl
theorem rn_ptr (g : Nat → Option Nat) (a o : Nat) : ren g (.ptr a o) = rnP o (g a) := rfl
theorem rnO_s (k off len j : Nat) : rnO k off len (some j) = .own j k off len := rfl
theorem rnP_s (o j : Nat) : rnP o (some j) = .ptr j o := rfl
theorem rns_n (g : Nat → Option Nat) : rens g [] = [] := rfl
theorem rns_c (g : Nat → Option Nat) (v : PV) (r : List PV) : rens g (v :: r) = ren g v :: rens g r := rfl
theorem pos_n (a i : Nat) : pos [] a i = none := rfl
theorem pos_c (b : Nat) (r : List Nat) (a i : Nat) : pos (b :: r) a i = if (a == b) = true then some i else pos r a (i + 1) := rfl
theorem has_n (a : Nat) : has [] a = false := rfl
theorem has_c (b : Nat) (r : List Nat) (a : Nat) : has (b :: r) a = (a == b || has r a) := rfl
theorem pik_n (rd : Rd) (g : Nat → Option Nat) (j : Nat) : picks rd g [] j = [] := rfl
def pikK (g : Nat → Option Nat) (j : Nat) (x : Option PObj) (r : List (Nat × PObj)) : List (Nat × PObj) := match x with
  | some o => (j, renObj g o) :: r
  | none => r
theorem pik_c (rd : Rd) (g : Nat → Option Nat) (a : Nat) (r : List Nat) (j : Nat) : picks rd g (a :: r) j = pikK g j (rd a) (picks rd g r (j + 1)) := by
  simp only [picks, pikK]
  cases rd a <;> rfl
theorem pikK_s (g : Nat → Option Nat) (j : Nat) (o : PObj) (r : List (Nat × PObj)) : pikK g j (some o) r = (j, renObj g o) :: r := rfl
theorem pikK_n (g : Nat → Option Nat) (j : Nat) (r : List (Nat × PObj)) : pikK g j none r = r := rfl
theorem rno_box (g : Nat → Option Nat) (cs : List PV) : renObj g (.box cs) = .box (rens g cs) := rfl
theorem rno_arr (g : Nat → Option Nat) (k : Nat) (xs : List (List PV)) (fl fz : Bool) : renObj g (.arr k xs fl fz) = .arr k xs fl fz := rfl
theorem upt_0 : upto 0 = [] := rfl
theorem upt_s (n : Nat) : upto (n + 1) = upto n ++ [n] := rfl
theorem kid_n (rd : Rd) : kids rd [] = [] := rfl
def kidK (x : Option PObj) (r : List Nat) : List Nat := match x with
  | some (.box cs) => idss cs ++ r
  | _ => r
theorem kid_c (rd : Rd) (a : Nat) (r : List Nat) : kids rd (a :: r) = kidK (rd a) (kids rd r) := by
  simp only [kids, kidK]
  cases rd a with
  | none => rfl
  | some p => cases p <;> rfl
theorem kidK_box (cs : List PV) (r : List Nat) : kidK (some (.box cs)) r = idss cs ++ r := rfl
theorem kidK_arr (k : Nat) (xs : List (List PV)) (fl fz : Bool) (r : List Nat) : kidK (some (.arr k xs fl fz)) r = r := rfl
theorem kidK_n (r : List Nat) : kidK none r = r := rfl
theorem rch_n (rd : Rd) (n : Nat) (seen : List Nat) : reach rd n [] seen = seen := by cases n <;> rfl
def rchK (rd : Rd) (n a : Nat) (r seen : List Nat) (x : Option PObj) : List Nat := match x with
  | some (.box cs) => reach rd n (r ++ idss cs) (seen ++ [a])
  | _ => reach rd n r (seen ++ [a])
theorem rch_c (rd : Rd) (n a : Nat) (r seen : List Nat) : reach rd (n + 1) (a :: r) seen = if has seen a = true then reach rd n r seen else rchK rd n a r seen (rd a) := by
  simp only [reach, rchK]
  cases rd a with
  | none => rfl
  | some p => cases p <;> rfl
theorem rchK_box (rd : Rd) (n a : Nat) (r seen : List Nat) (cs : List PV) : rchK rd n a r seen (some (.box cs)) = reach rd n (r ++ idss cs) (seen ++ [a]) := rfl
theorem rchK_arr (rd : Rd) (n a : Nat) (r seen : List Nat) (k : Nat) (xs : List (List PV)) (fl fz : Bool) : rchK rd n a r seen (some (.arr k xs fl fz)) = reach rd n r (seen ++ [a]) := rfl
theorem fuel_e : reachFuel = 400 := rfl
theorem sfuel_e : snapFuel = 400 := rfl
/-- Nothing in the heap is to be kept. -/
theorem cln_u (h : List (Nat × PObj)) (nx : Nat) (r : List PV) (n : Nat) : keepT h nx r n [] = (List.replicate r.length .undef, h, nx) := by
  induction r generalizing n with
  | nil => rfl
  | cons v r ih => rw [kt_u, ih]; rfl
theorem tms_n (a : Nat) : times a [] = 0 := rfl
theorem tms_c (a b : Nat) (r : List Nat) : times a (b :: r) = (if (a == b) = true then 1 else 0) + times a r := rfl
theorem sh_n (ks : List (Option Nat)) : shVs [] ks = [] := rfl
theorem sh_c (v : PV) (r : List PV) (ks : List (Option Nat)) : shVs (v :: r) ks = (shV v ks).1 ++ shVs r (shV v ks).2 := rfl
theorem shv_agg (cs : List PV) (ks : List (Option Nat)) : shV (.agg cs) ks = (shIds cs (ks.take cs.length), ks.drop cs.length) := rfl
theorem shv_int (k : IntKind) (n : Int) (ks : List (Option Nat)) : shV (.int k n) ks = (shIds [.int k n] (ks.take 1), ks.drop 1) := rfl
theorem shv_bool (b : Bool) (ks : List (Option Nat)) : shV (.bool b) ks = (shIds [.bool b] (ks.take 1), ks.drop 1) := rfl
theorem shv_str (b : ByteArray) (ks : List (Option Nat)) : shV (.str b) ks = (shIds [.str b] (ks.take 1), ks.drop 1) := rfl
theorem shv_lit (xs : List (List PV)) (fl : Fl) (ks : List (Option Nat)) : shV (.lit xs fl) ks = (shIds [.lit xs fl] (ks.take 1), ks.drop 1) := rfl
theorem shv_nils (ks : List (Option Nat)) : shV .nils ks = (shIds [.nils] (ks.take 1), ks.drop 1) := rfl
theorem shv_own (a k off len : Nat) (ks : List (Option Nat)) : shV (.own a k off len) ks = (shIds [.own a k off len] (ks.take 1), ks.drop 1) := rfl
theorem shi_n (ks : List (Option Nat)) : shIds [] ks = [] := rfl
theorem shi_s (v : PV) (r : List PV) (k : Nat) (ks : List (Option Nat)) : shIds (v :: r) (some k :: ks) = shIds r ks := by simp only [shIds, List.head?_cons, List.nil_append, List.tail_cons]
theorem shi_o (v : PV) (r : List PV) (ks : List (Option Nat)) : shIds (v :: r) (none :: ks) = ids v ++ shIds r ks := by simp only [shIds, List.head?_cons, List.tail_cons]
theorem shi_e (v : PV) (r : List PV) : shIds (v :: r) [] = ids v ++ shIds r [] := by simp only [shIds, List.head?_nil, List.tail_nil]
theorem uid_n : updIds [] = [] := rfl
theorem uid_c (a : Nat) (o : Option PObj) (r : Upd) : updIds ((a, o) :: r) = a :: updIds r := rfl
theorem del_nn : dels [] = [] := rfl
theorem del_cc (a : Nat) (r : List Nat) : dels (a :: r) = (a, none) :: dels r := rfl
end Go.Pm
