/-
  Data of Lean's own types, and how the evaluator's operations act on what encodes it.
-/
import Derived.Test.YtjkkigeefoncmaaGreatPmOpEq
set_option linter.unusedVariables false
set_option linter.unusedSimpArgs false
namespace Go.Pm
open Go

/-- Data that is made of cells. -/
class Enc (α : Type) where
  cells : α → List PV
  size : Nat
  len : ∀ a, (cells a).length = size

def rows {α : Type} [Enc α] (l : List α) : List (List PV) := l.map Enc.cells
abbrev fl0 : Fl := ⟨false, false⟩
/-- A slice that is data. -/
abbrev lst {α : Type} [Enc α] (l : List α) : PV := .lit (rows l) fl0

/-- All cells are plain. -/
class Plain (α : Type) [Enc α] : Prop where
  plain : ∀ a : α, allPlain (Enc.cells a) = true

/-- A byte. -/
structure U8 where
  v : Int

instance : Enc Int := ⟨fun n => [.int .i64 n], 1, fun _ => rfl⟩
instance : Enc Bool := ⟨fun n => [.bool n], 1, fun _ => rfl⟩
instance : Enc ByteArray := ⟨fun n => [.str n], 1, fun _ => rfl⟩
instance : Enc U8 := ⟨fun n => [.int .u8 n.v], 1, fun _ => rfl⟩
instance {α : Type} [Enc α] : Enc (List α) := ⟨fun l => [lst l], 1, fun _ => rfl⟩
instance : Plain Int := ⟨fun _ => rfl⟩
instance : Plain Bool := ⟨fun _ => rfl⟩
instance : Plain ByteArray := ⟨fun _ => rfl⟩
instance : Plain U8 := ⟨fun _ => rfl⟩

theorem cells_int (n : Int) : Enc.cells n = [.int .i64 n] := rfl
theorem cells_bool (n : Bool) : Enc.cells n = [.bool n] := rfl
theorem cells_str (n : ByteArray) : Enc.cells n = [.str n] := rfl
theorem cells_u8 (n : U8) : Enc.cells n = [.int .u8 n.v] := rfl
theorem cells_list {α : Type} [Enc α] (l : List α) : Enc.cells l = [lst l] := rfl
theorem size_int : Enc.size Int = 1 := rfl
theorem size_bool : Enc.size Bool = 1 := rfl
theorem size_str : Enc.size ByteArray = 1 := rfl
theorem size_u8 : Enc.size U8 = 1 := rfl
theorem size_list {α : Type} [Enc α] : Enc.size (List α) = 1 := rfl

/-- An element. -/
def at? {α : Type} (l : List α) (i : Int) : Option α := if 0 ≤ i then l[i.toNat]? else none

section
variable {α : Type} [Enc α]
theorem rows_nil : rows ([] : List α) = [] := rfl
theorem rows_cons (a : α) (l : List α) : rows (a :: l) = Enc.cells a :: rows l := rfl
theorem rows_length (l : List α) : (rows l).length = l.length := by simp [rows]
theorem rows_get (l : List α) (i : Nat) : (rows l)[i]? = (l[i]?).map Enc.cells := by simp [rows]
theorem rows_append (l m : List α) : rows l ++ rows m = rows (l ++ m) := by simp [rows]
theorem rows_take (l : List α) (i : Nat) : (rows l).take i = rows (l.take i) := by simp [rows]
theorem rows_drop (l : List α) (i : Nat) : (rows l).drop i = rows (l.drop i) := by simp [rows]
theorem rows_all (l : List α) (n : Nat) (h : n = Enc.size α) : (rows l).all (fun x => x.length == n) = true := by
  subst h; simp [rows, Enc.len]
theorem rows_plain [Plain α] (l : List α) : (rows l).all allPlain = true := by simp [rows, Plain.plain]
theorem rows_replicate (n : Nat) (a : α) : List.replicate n (Enc.cells a) = rows (List.replicate n a) := by simp [rows]
theorem rows_set (l : List α) (i : Nat) (a : α) : setNth (rows l) i (Enc.cells a) = rows (l.set i a) := by
  induction l generalizing i with
  | nil => rfl
  | cons x l ih => cases i with
    | zero => rfl
    | succ i => simp [rows_cons, setNth, ih]
end

/-! what lists of plain cells come to, for the types that are given -/
theorem snoc_int (l : List Int) (a : Int) : rows l ++ [[.int .i64 a]] = rows (l ++ [a]) := rows_append l [a]
theorem snoc_bool (l : List Bool) (a : Bool) : rows l ++ [[.bool a]] = rows (l ++ [a]) := rows_append l [a]
theorem snoc_str (l : List ByteArray) (a : ByteArray) : rows l ++ [[.str a]] = rows (l ++ [a]) := rows_append l [a]
theorem snoc_list {α : Type} [Enc α] (l : List (List α)) (a : List α) : rows l ++ [[.lit (rows a) ⟨false, false⟩]] = rows (l ++ [a]) := rows_append l [a]
theorem one_int (a : Int) : [[PV.int .i64 a]] = rows [a] := rfl
theorem one_bool (a : Bool) : [[PV.bool a]] = rows [a] := rfl
theorem one_str (a : ByteArray) : [[PV.str a]] = rows [a] := rfl
theorem one_list {α : Type} [Enc α] (a : List α) : [[PV.lit (rows a) ⟨false, false⟩]] = rows [a] := rfl
theorem rep_int (n : Nat) (a : Int) : List.replicate n [PV.int .i64 a] = rows (List.replicate n a) := rows_replicate n a
theorem rep_bool (n : Nat) (a : Bool) : List.replicate n [PV.bool a] = rows (List.replicate n a) := rows_replicate n a
theorem set_int (l : List Int) (i : Nat) (a : Int) : setNth (rows l) i [.int .i64 a] = rows (l.set i a) := rows_set l i a
theorem set_bool (l : List Bool) (i : Nat) (a : Bool) : setNth (rows l) i [.bool a] = rows (l.set i a) := rows_set l i a
theorem set_str (l : List ByteArray) (i : Nat) (a : ByteArray) : setNth (rows l) i [.str a] = rows (l.set i a) := rows_set l i a
theorem set_list {α : Type} [Enc α] (l : List (List α)) (i : Nat) (a : List α) : setNth (rows l) i [.lit (rows a) ⟨false, false⟩] = rows (l.set i a) := rows_set l i a

theorem take_rows' {α : Type} [Enc α] (l : List α) : (rows l).take l.length = rows l := by rw [← rows_length]; exact List.take_length
section
variable {α : Type} [Enc α]
theorem ixS_lit (kd : TK) (s b : Nat) (z : List PV) (q : Bool) (l : List α) (fl : Fl) (i : Int) (hs : s = Enc.size α) :
    ixS (some ⟨kd, s, b, z, q⟩) (.lit (rows l) fl) i = (at? l i).bind fun x => some ⟨.eptr [Enc.cells x] 0 0, [], []⟩ := by
  subst hs
  simp only [ixS, at?, rows_get]
  by_cases h : 0 ≤ i
  · simp only [h, ↓reduceIte]
    cases l[i.toNat]? with
    | none => rfl
    | some x => simp [Enc.len, ok]
  · simp [h]
/-- An own row's element: it is there or the call ends. -/
theorem get_rows (l : List α) (i : Nat) {β : Type} (g : List PV → Option β) : ((rows l)[i]?).bind g = (l[i]?).bind fun x => g (Enc.cells x) := by
  rw [rows_get]; cases l[i]? <;> rfl
theorem srcL_rows (sz : Nat) (l : List α) (fl : Bool) (h : sz = Enc.size α) : srcL sz (rows l) fl = some (rows l, fl, []) := by
  simp only [srcL, rows_all l sz h, ↓reduceIte]
theorem take_full {β : Type} (l : List β) (n : Nat) (h : n = l.length) : (l.drop 0).take n = l := by subst h; simp
theorem take_len {β : Type} (l : List β) (n : Nat) (h : n = l.length) : l.take n = l := by subst h; simp
theorem zero_row (ti : TI) (n : Nat) : zeroRow ti n = List.replicate n ti.zero := rfl

/-! a piece of a list or a text -/
def cutK (tab : Nat → Option TI) (ti : Option TI) (x : PV) (lo hi : Option PV) : Option Eff := match ti with
  | some { kind := .slice e, .. } => match lenPV x with
    | some n => match (match lo with | none => some 0 | some v => natOf v), (match hi with | none => some n | some v => natOf v) with
      | some l, some h => if l ≤ h && h ≤ n then
          match x with
          | .own a k off _ => match sizeAt tab e with
            | some sz => if k == sz then ok (.own a k (off + l) (h - l)) else none
            | none => none
          | .lit xs fl => match sizeAt tab e with
            | some sz => if l == 0 || headOK sz xs then ok (.lit ((xs.drop l).take (h - l)) ⟨false, fl.flat⟩) else none
            | none => none
          | .nils => match sizeAt tab e with
            | some _ => ok .nils
            | none => none
          | _ => none
        else none
      | _, _ => none
    | none => none
  | some { kind := .str, .. } => match x with
    | .str s => match (match lo with | none => some 0 | some v => natOf v), (match hi with | none => some s.size | some v => natOf v) with
      | some l, some h => if l ≤ h && h ≤ s.size then ok (.str (s.extract l h)) else none
      | _, _ => none
    | _ => none
  | _ => none
theorem cut_e (tab : Nat → Option TI) (t : Nat) (x : PV) (lo hi : Option PV) : cutAt tab t x lo hi = cutK tab (tab t) x lo hi := by
  have gen : ∀ (A B : Option Nat) (c : Nat → Nat → Bool) (f g : Nat → Nat → Option Eff), (∀ l h, f l h = g l h) →
      (match A, B with | some l, some h => if c l h = true then f l h else none | _, _ => none) = (match A, B with | some l, some h => if c l h = true then g l h else none | _, _ => none) := by
    intro A B c f g hfg
    have : f = g := by funext l h; exact hfg l h
    rw [this]
  cases ht : tab t with
  | none => simp only [cutAt, cutK, ht]
  | some ti =>
    obtain ⟨kd, s, b, z, q⟩ := ti
    cases kd with
    | slice e =>
      cases hl : lenPV x with
      | none => simp only [cutAt, cutK, ht, hl]
      | some n =>
        simp only [cutAt, cutK, ht, hl]
        refine gen _ _ (fun l h => decide (l ≤ h) && decide (h ≤ n)) _ _ fun l h => ?_
        cases x <;> rfl
    | str =>
      cases hl : lenPV x with
      | none => cases x <;> simp only [cutAt, cutK, ht, hl] <;> simp [lenPV] at hl
      | some n =>
        cases x with
        | str s =>
          simp [lenPV] at hl; subst hl
          simp only [cutAt, cutK, ht, lenPV]
          exact gen _ _ (fun l h => decide (l ≤ h) && decide (h ≤ s.size)) _ _ fun l h => rfl
        | nils =>
          simp only [cutAt, cutK, ht, hl]
          exact (gen _ _ (fun l h => decide (l ≤ h) && decide (h ≤ n)) _ (fun _ _ => none) fun l h => rfl).trans (by split <;> simp)
        | own a k off m =>
          simp only [cutAt, cutK, ht, hl]
          exact (gen _ _ (fun l h => decide (l ≤ h) && decide (h ≤ n)) _ (fun _ _ => none) fun l h => rfl).trans (by split <;> simp)
        | lit xs fl =>
          simp only [cutAt, cutK, ht, hl]
          exact (gen _ _ (fun l h => decide (l ≤ h) && decide (h ≤ n)) _ (fun _ _ => none) fun l h => rfl).trans (by split <;> simp)
        | _ => simp [lenPV] at hl
    | _ =>
      cases hl : lenPV x with
      | none => simp only [cutAt, cutK, ht, hl]
      | some n =>
        simp only [cutAt, cutK, ht, hl]
        exact (gen _ _ (fun l h => decide (l ≤ h) && decide (h ≤ n)) _ (fun _ _ => none) fun l h => by cases x <;> rfl).trans (by split <;> simp)
def natI (k : Int) (g : Nat → Option Eff) : Option Eff := if 0 ≤ k then g k.toNat else none
theorem cut_str_l (tab : Nat → Option TI) (s b : Nat) (z : List PV) (q : Bool) (x : ByteArray) (k : IntKind) (lo : Int) :
    cutK tab (some ⟨.str, s, b, z, q⟩) (.str x) (some (.int k lo)) none = if decide (0 ≤ lo ∧ lo ≤ x.size) = true then some ⟨.str (x.extract lo.toNat x.size), [], []⟩ else none := by
  simp only [cutK, natOf]
  by_cases h : 0 ≤ lo <;> by_cases h2 : lo ≤ x.size
  · simp [h, h2, show lo.toNat ≤ x.size by omega, ok]
  · simp [h, h2, show ¬ lo.toNat ≤ x.size by omega]
  · simp [h]
  · simp [h]
theorem cut_str_h (tab : Nat → Option TI) (s b : Nat) (z : List PV) (q : Bool) (x : ByteArray) (k : IntKind) (hi : Int) :
    cutK tab (some ⟨.str, s, b, z, q⟩) (.str x) none (some (.int k hi)) = if decide (0 ≤ hi ∧ hi ≤ x.size) = true then some ⟨.str (x.extract 0 hi.toNat), [], []⟩ else none := by
  simp only [cutK, natOf]
  by_cases h : 0 ≤ hi <;> by_cases h2 : hi ≤ x.size
  · simp [h, h2, show hi.toNat ≤ x.size by omega, ok]
  · simp [h, h2, show ¬ hi.toNat ≤ x.size by omega]
  · simp [h]
  · simp [h]
theorem cut_str_lh (tab : Nat → Option TI) (s b : Nat) (z : List PV) (q : Bool) (x : ByteArray) (k k' : IntKind) (lo hi : Int) :
    cutK tab (some ⟨.str, s, b, z, q⟩) (.str x) (some (.int k lo)) (some (.int k' hi)) = if decide (0 ≤ lo ∧ lo ≤ hi ∧ hi ≤ x.size) = true then some ⟨.str (x.extract lo.toNat hi.toNat), [], []⟩ else none := by
  simp only [cutK, natOf]
  by_cases h : 0 ≤ lo
  · by_cases h1 : 0 ≤ hi
    · by_cases h2 : lo ≤ hi <;> by_cases h3 : hi ≤ x.size
      · simp [h, h1, h2, h3, show lo.toNat ≤ hi.toNat by omega, show hi.toNat ≤ x.size by omega, ok]
      · simp [h, h1, h2, h3, show ¬ hi.toNat ≤ x.size by omega]
      · simp [h, h1, h2, show ¬ lo.toNat ≤ hi.toNat by omega]
      · simp [h, h1, h2, show ¬ lo.toNat ≤ hi.toNat by omega]
    · simp [h, h1, show ¬ lo ≤ hi by omega]
  · simp [h]
def cutS (ti : Option TI) (x : PV) (lo hi : Option PV) : Option Eff := match ti with
  | some ti => match lenPV x with
    | some n => match (match lo with | none => some 0 | some v => natOf v), (match hi with | none => some n | some v => natOf v) with
      | some l, some h => if l ≤ h && h ≤ n then
          match x with
          | .own a k off _ => if k == ti.size then ok (.own a k (off + l) (h - l)) else none
          | .lit xs fl => if l == 0 || headOK ti.size xs then ok (.lit ((xs.drop l).take (h - l)) ⟨false, fl.flat⟩) else none
          | .nils => ok .nils
          | _ => none
        else none
      | _, _ => none
    | none => none
  | none => none
theorem cut_slice (tab : Nat → Option TI) (e s b : Nat) (z : List PV) (q : Bool) (x : PV) (lo hi : Option PV) : cutK tab (some ⟨.slice e, s, b, z, q⟩) x lo hi = cutS (tab e) x lo hi := by
  have gen : ∀ (A B : Option Nat) (c : Nat → Nat → Bool) (f g : Nat → Nat → Option Eff), (∀ l h, f l h = g l h) →
      (match A, B with | some l, some h => if c l h = true then f l h else none | _, _ => none) = (match A, B with | some l, some h => if c l h = true then g l h else none | _, _ => none) := by
    intro A B c f g hfg
    have : f = g := by funext l h; exact hfg l h
    rw [this]
  cases hl : lenPV x with
  | none => cases he : tab e <;> simp only [cutK, cutS, hl, he]
  | some n =>
    cases he : tab e with
    | none =>
      simp only [cutK, cutS, sizeAt, hl, he, Option.map_none]
      exact (gen _ _ (fun l h => decide (l ≤ h) && decide (h ≤ n)) _ (fun _ _ => none) fun l h => by cases x <;> rfl).trans (by split <;> simp)
    | some ti =>
      simp only [cutK, cutS, sizeAt, hl, he, Option.map_some]
theorem cutS_lh (kd : TK) (s b : Nat) (z : List PV) (q : Bool) (l : List α) (fl : Fl) (k k' : IntKind) (lo hi : Int) (hs : s = Enc.size α) :
    cutS (some ⟨kd, s, b, z, q⟩) (.lit (rows l) fl) (some (.int k lo)) (some (.int k' hi)) = if decide (0 ≤ lo ∧ lo ≤ hi ∧ hi ≤ l.length) = true then some ⟨.lit (rows ((l.drop lo.toNat).take (hi.toNat - lo.toNat))) ⟨false, fl.flat⟩, [], []⟩ else none := by
  subst hs
  have hh : headOK (Enc.size α) (rows l) = true := by cases l <;> simp [rows, headOK, Enc.len]
  simp only [cutS, lenPV, natOf, rows_length, hh, Bool.or_true, ↓reduceIte, rows_take, rows_drop, ok]
  by_cases h1 : 0 ≤ lo
  · by_cases h2 : 0 ≤ hi
    · simp only [h1, h2, ↓reduceIte, true_and, decide_eq_true_eq]
      by_cases h3 : lo ≤ hi <;> by_cases h4 : hi ≤ l.length
      · simp [h3, h4, show lo.toNat ≤ hi.toNat by omega, show hi.toNat ≤ l.length by omega]
      · simp [h3, h4, show ¬ hi.toNat ≤ l.length by omega]
      · simp [h3, show ¬ lo.toNat ≤ hi.toNat by omega]
      · simp [h3, show ¬ lo.toNat ≤ hi.toNat by omega]
    · have : ¬ (lo ≤ hi) := by omega
      simp [h1, h2, this]
  · simp [h1]
theorem cutS_l (kd : TK) (s b : Nat) (z : List PV) (q : Bool) (l : List α) (fl : Fl) (k : IntKind) (lo : Int) (hs : s = Enc.size α) :
    cutS (some ⟨kd, s, b, z, q⟩) (.lit (rows l) fl) (some (.int k lo)) none = if decide (0 ≤ lo ∧ lo ≤ l.length) = true then some ⟨.lit (rows (l.drop lo.toNat)) ⟨false, fl.flat⟩, [], []⟩ else none := by
  subst hs
  have hh : headOK (Enc.size α) (rows l) = true := by cases l <;> simp [rows, headOK, Enc.len]
  simp only [cutS, lenPV, natOf, rows_length, hh, Bool.or_true, ↓reduceIte, rows_take, rows_drop, ok]
  by_cases h1 : 0 ≤ lo
  · by_cases h4 : lo ≤ l.length
    · have : (l.drop lo.toNat).take (l.length - lo.toNat) = l.drop lo.toNat := List.take_of_length_le (by simp)
      simp [h1, h4, show lo.toNat ≤ l.length by omega, this]
    · simp [h1, h4, show ¬ lo.toNat ≤ l.length by omega]
  · simp [h1]
theorem cutS_h (kd : TK) (s b : Nat) (z : List PV) (q : Bool) (l : List α) (fl : Fl) (k : IntKind) (hi : Int) (hs : s = Enc.size α) :
    cutS (some ⟨kd, s, b, z, q⟩) (.lit (rows l) fl) none (some (.int k hi)) = if decide (0 ≤ hi ∧ hi ≤ l.length) = true then some ⟨.lit (rows (l.take hi.toNat)) ⟨false, fl.flat⟩, [], []⟩ else none := by
  subst hs
  have hh : headOK (Enc.size α) (rows l) = true := by cases l <;> simp [rows, headOK, Enc.len]
  simp only [cutS, lenPV, natOf, rows_length, hh, Bool.or_true, ↓reduceIte, rows_take, rows_drop, ok]
  by_cases h1 : 0 ≤ hi
  · by_cases h4 : hi ≤ l.length
    · simp [h1, h4, show hi.toNat ≤ l.length by omega]
    · simp [h1, h4, show ¬ hi.toNat ≤ l.length by omega]
  · simp [h1]
theorem cutS_own_h (kd : TK) (s b : Nat) (z : List PV) (q : Bool) (a k n : Nat) (kk : IntKind) (hi : Int) :
    cutS (some ⟨kd, s, b, z, q⟩) (.own a k 0 n) none (some (.int kk hi)) = if decide (0 ≤ hi ∧ hi ≤ n) = true then (if (k == s) = true then some ⟨.own a k 0 hi.toNat, [], []⟩ else none) else none := by
  simp only [cutS, lenPV, natOf]
  by_cases h1 : 0 ≤ hi
  · by_cases h4 : hi ≤ n
    · simp [h1, h4, show hi.toNat ≤ n by omega, ok]
    · simp [h1, h4, show ¬ hi.toNat ≤ n by omega]
  · simp [h1]
theorem cutS_own_l (kd : TK) (s b : Nat) (z : List PV) (q : Bool) (a k n : Nat) (kk : IntKind) (lo : Int) :
    cutS (some ⟨kd, s, b, z, q⟩) (.own a k 0 n) (some (.int kk lo)) none = if decide (0 ≤ lo ∧ lo ≤ n) = true then (if (k == s) = true then some ⟨.own a k lo.toNat (n - lo.toNat), [], []⟩ else none) else none := by
  simp only [cutS, lenPV, natOf]
  by_cases h1 : 0 ≤ lo
  · by_cases h4 : lo ≤ n
    · simp [h1, h4, show lo.toNat ≤ n by omega, ok]
    · simp [h1, h4, show ¬ lo.toNat ≤ n by omega]
  · simp [h1]
theorem cutS_n (kd : TK) (s b : Nat) (z : List PV) (q : Bool) (l : List α) (fl : Fl) : cutS (some ⟨kd, s, b, z, q⟩) (.lit (rows l) fl) none none = some ⟨.lit (rows l) ⟨false, fl.flat⟩, [], []⟩ := by
  simp [cutS, lenPV, ok, rows_length, take_rows']
end

/-- Whole numbers of 64 bits. -/
abbrev w64 (n : Int) : Int := IntKind.wrap .i64 n
theorem w64_d (n : Int) : w64 n = IntKind.wrap .i64 n := rfl
theorem map_bind {α β γ : Type} (o : Option α) (f : α → Option β) (g : β → γ) : (o.bind f).map g = o.bind fun a => (f a).map g := by cases o <;> rfl
theorem bind_map {α β γ : Type} (o : Option α) (f : α → β) (g : β → Option γ) : (o.map f).bind g = o.bind fun a => g (f a) := by cases o <;> rfl
theorem map_ite {α β : Type} (c : Prop) [Decidable c] (a b : Option α) (g : α → β) : (if c then a else b).map g = if c then a.map g else b.map g := by split <;> rfl

/-! ### small steps -/
theorem slot_0 (o : Oper) (r : List Oper) : gslot (o :: r) 0 = o.dst.getD 0 := rfl
theorem slot_s (o : Oper) (r : List Oper) (j : Nat) : gslot (o :: r) (j + 1) = gslot r j := rfl
theorem there_0 (o : Oper) (r : List Oper) : gthere (o :: r) 0 = o.dst.isSome := rfl
theorem there_s (o : Oper) (r : List Oper) (j : Nat) : gthere (o :: r) (j + 1) = gthere r j := rfl
theorem nth_0 (v : PV) (r : List PV) : nth (v :: r) 0 = v := rfl
theorem nth_s (v : PV) (r : List PV) (n : Nat) : nth (v :: r) (n + 1) = nth r n := rfl
theorem nth_8 (a b c d e f g h : PV) (r : List PV) (n : Nat) : nth (a :: b :: c :: d :: e :: f :: g :: h :: r) (n + 8) = nth r n := rfl
theorem put_0 (v x : PV) (r : List PV) : put (x :: r) 0 v = v :: r := rfl
theorem put_s (v x : PV) (r : List PV) (n : Nat) : put (x :: r) (n + 1) v = x :: put r n v := rfl
theorem putD_s (tm : List PV) (d : Nat) (v : PV) : putD tm (some d) v = put tm d v := rfl
theorem putD_n (tm : List PV) (v : PV) : putD tm none v = tm := rfl
theorem upd_n (h : List (Nat × PObj)) : applyUpd h [] = h := rfl
theorem upd_s (h : List (Nat × PObj)) (a : Nat) (o : PObj) (r : Upd) : applyUpd h ((a, some o) :: r) = applyUpd (setObj h a o) r := rfl
theorem upd_d (h : List (Nat × PObj)) (a : Nat) (r : Upd) : applyUpd h ((a, none) :: r) = applyUpd (delObj h a) r := rfl
theorem look_n (a : Nat) : look [] a = none := rfl
theorem look_c (b : Nat) (o : PObj) (r : List (Nat × PObj)) (a : Nat) : look ((b, o) :: r) a = if (a == b) = true then some o else look r a := rfl
theorem set_n (a : Nat) (o : PObj) : setObj [] a o = [(a, o)] := rfl
theorem set_c (b : Nat) (p : PObj) (r : List (Nat × PObj)) (a : Nat) (o : PObj) : setObj ((b, p) :: r) a o = if (a == b) = true then (a, o) :: r else (b, p) :: setObj r a o := rfl
theorem del_n (a : Nat) : delObj [] a = [] := rfl
theorem del_c (b : Nat) (p : PObj) (r : List (Nat × PObj)) (a : Nat) : delObj ((b, p) :: r) a = if (a == b) = true then delObj r a else (b, p) :: delObj r a := rfl
theorem acc_n (e : Eff) : addAcc none e = none := rfl
theorem acc_s (ps : List (Nat × Nat)) (l : List Eff) (e : Eff) : addAcc (some (ps, l)) e = some (ps, l ++ [⟨.void, dels (updIds e.upd), e.foot⟩]) := rfl
theorem end_n : endAcc none = true := rfl
theorem end_s (ps : List (Nat × Nat)) (l : List Eff) : endAcc (some (ps, l)) = pairsApart l ps := rfl
theorem mk_f (ps : List (Nat × Nat)) : mkAcc false ps = none := rfl
theorem mk_t : mkAcc true [] = none := rfl
theorem mk_c (p : Nat × Nat) (r : List (Nat × Nat)) : mkAcc true (p :: r) = some (p :: r, []) := rfl
theorem cl_n (n : Nat) (st : St) : cleanAt n none st = st := rfl
theorem opl_n (tm : List PV) : opndl tm [] = some [] := rfl
def oplK (v : Option PV) (vs : Option (List PV)) : Option (List PV) := match v, vs with
  | some v, some vs => some (v :: vs)
  | _, _ => none
theorem opl_c (tm : List PV) (x : Operand) (r : List Operand) : opndl tm (x :: r) = oplK (opnd tm x) (opndl tm r) := rfl
theorem oplK_s (v : PV) (vs : List PV) : oplK (some v) (some vs) = some (v :: vs) := rfl
theorem ops_n (tm : List PV) : opnds tm [] = some [] := rfl
theorem ops_c (tm : List PV) (i : Nat) (x : Operand) (r : List (Nat × Operand)) : opnds tm ((i, x) :: r) = oplK (opnd tm x) (opnds tm r) := rfl
theorem opp_n (tm : List PV) : opndp tm [] = some [] := rfl
def oppK (i : Nat) (v : Option PV) (vs : Option (List (Nat × PV))) : Option (List (Nat × PV)) := match v, vs with
  | some v, some vs => some ((i, v) :: vs)
  | _, _ => none
theorem opp_c (tm : List PV) (i : Nat) (x : Operand) (r : List (Nat × Operand)) : opndp tm ((i, x) :: r) = oppK i (opnd tm x) (opndp tm r) := rfl
theorem oppK_s (i : Nat) (v : PV) (vs : List (Nat × PV)) : oppK i (some v) (some vs) = some ((i, v) :: vs) := rfl
theorem inO_n (i : Nat) : inOrder i [] = true := rfl
theorem inO_c (i j : Nat) (x : Operand) (r : List (Nat × Operand)) : inOrder i ((j, x) :: r) = (i == j && inOrder (i + 1) r) := rfl

/-! cells of structs -/
theorem slab_0 (cs : List PV) (o : Nat) : slab cs o 0 = [] := by simp [slab]
theorem slab_c (v : PV) (cs : List PV) (n : Nat) : slab (v :: cs) 0 (n + 1) = v :: slab cs 0 n := by simp [slab]
theorem slab_s (v : PV) (cs : List PV) (o n : Nat) : slab (v :: cs) (o + 1) n = slab cs o n := by simp [slab]
theorem spl_n (cs : List PV) (o : Nat) : splice cs o [] = cs := by simp [splice]
theorem spl_c (v w : PV) (cs vs : List PV) : splice (v :: cs) 0 (w :: vs) = w :: splice cs 0 vs := by simp [splice]
theorem spl_s (v w : PV) (cs vs : List PV) (o : Nat) : splice (v :: cs) (o + 1) (w :: vs) = v :: splice cs o (w :: vs) := by
  have : o + 1 + (w :: vs).length = (o + (w :: vs).length) + 1 := by omega
  simp only [splice, this, List.take_succ_cons, List.drop_succ_cons, List.cons_append]
theorem len_pn : ([] : List PV).length = 0 := rfl
theorem len_pc (v : PV) (l : List PV) : (v :: l).length = l.length + 1 := rfl

/-! settling -/
def setK (rd : Rd) (k : Nat) (off len a : Nat) (o : Option PObj) (r : Option (List PV × List Nat)) : Option (List PV × List Nat) := match o, r with
  | some (.arr k' xs flat _), some (r', l) => if (k' == k && decide (off + len ≤ xs.length)) = true then some (.lit ((xs.drop off).take len) ⟨false, flat⟩ :: r', a :: l) else none
  | _, _ => none
theorem stl_n (rd : Rd) : settle rd [] = some ([], []) := rfl
def stlP (v : PV) (x : Option (List PV × List Nat)) : Option (List PV × List Nat) := match x with
  | some (r, l) => some (v :: r, l)
  | none => none
theorem stlP_s (v : PV) (r : List PV) (l : List Nat) : stlP v (some (r, l)) = some (v :: r, l) := rfl
theorem stl_int (rd : Rd) (k : IntKind) (n : Int) (r : List PV) : settle rd (.int k n :: r) = stlP (.int k n) (settle rd r) := by
  simp only [settle, stlP]; cases settle rd r with | none => rfl | some p => obtain ⟨a, b⟩ := p; rfl
theorem stl_bool (rd : Rd) (b : Bool) (r : List PV) : settle rd (.bool b :: r) = stlP (.bool b) (settle rd r) := by
  simp only [settle, stlP]; cases settle rd r with | none => rfl | some p => obtain ⟨a, b⟩ := p; rfl
theorem stl_str (rd : Rd) (b : ByteArray) (r : List PV) : settle rd (.str b :: r) = stlP (.str b) (settle rd r) := by
  simp only [settle, stlP]; cases settle rd r with | none => rfl | some p => obtain ⟨a, b⟩ := p; rfl
theorem stl_nils (rd : Rd) (r : List PV) : settle rd (.nils :: r) = stlP (.lit [] ⟨false, false⟩) (settle rd r) := by
  simp only [settle, stlP]; cases settle rd r with | none => rfl | some p => obtain ⟨a, b⟩ := p; rfl
theorem stl_lit (rd : Rd) (xs : List (List PV)) (u fl : Bool) (r : List PV) : settle rd (.lit xs ⟨u, fl⟩ :: r) = stlP (.lit xs ⟨false, fl⟩) (settle rd r) := by
  simp only [settle, stlP]; cases settle rd r with | none => rfl | some p => obtain ⟨a, b⟩ := p; rfl
theorem stl_own (rd : Rd) (a k off len : Nat) (r : List PV) : settle rd (.own a k off len :: r) = setK rd k off len a (rd a) (settle rd r) := by
  simp only [settle, setK]
  cases rd a with
  | none => cases settle rd r <;> rfl
  | some p => cases p <;> cases settle rd r <;> rfl
theorem setK_s (rd : Rd) (k k' len a : Nat) (xs : List (List PV)) (flat fz : Bool) (r : List PV) (l : List Nat) (hl : len = xs.length) :
    setK rd k 0 len a (some (.arr k' xs flat fz)) (some (r, l)) = if (k' == k) = true then some (.lit xs ⟨false, flat⟩ :: r, a :: l) else none := by
  subst hl; simp [setK]
theorem sta_n (rd : Rd) (s : Nat) : settleAll rd s [] = some ([], [], false) := rfl
def staK (s : Nat) (x : Option (List PV × List Nat)) (y : Option (List (List PV) × List Nat × Bool)) : Option (List (List PV) × List Nat × Bool) := match x, y with
  | some (cs, l), some (r', l', _) => if (cs.length == s) = true then some (cs :: r', l ++ l', false) else none
  | _, _ => none
theorem sta_c (rd : Rd) (s : Nat) (v : PV) (r : List PV) : settleAll rd s (v :: r) = staK s ((cellsOf v).bind (settle rd)) (settleAll rd s r) := by
  simp only [settleAll, staK]
  cases (cellsOf v).bind (settle rd) <;> cases settleAll rd s r <;> rfl
theorem staK_s (s : Nat) (cs : List PV) (l l' : List Nat) (r : List (List PV)) (b : Bool) : staK s (some (cs, l)) (some (r, l', b)) = if (cs.length == s) = true then some (cs :: r, l ++ l', false) else none := rfl
theorem frz_n (rd : Rd) : freezes rd [] = [] := rfl
def frzK (a : Nat) (o : Option PObj) (r : Upd) : Upd := match o with
  | some (.arr k xs flat _) => (a, some (.arr k xs flat true)) :: r
  | _ => r
theorem frz_c (rd : Rd) (a : Nat) (r : List Nat) : freezes rd (a :: r) = frzK a (rd a) (freezes rd r) := by
  simp only [freezes, frzK]
  cases rd a with
  | none => rfl
  | some p => cases p <;> rfl
theorem frzK_s (a k : Nat) (xs : List (List PV)) (fl fz : Bool) (r : Upd) : frzK a (some (.arr k xs fl fz)) r = (a, some (.arr k xs fl true)) :: r := rfl
end Go.Pm
