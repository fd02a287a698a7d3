/-
  Loops over an index, as walks over a list.
-/
import Derived.Test.YtjkkigeefoncmaaGreatPmTyped
set_option linter.unusedVariables false
set_option linter.unusedSimpArgs false
namespace Go.Pm
open Go

theorem w64_of {n : Int} (h1 : -9223372036854775808 ≤ n) (h2 : n ≤ 9223372036854775807) : w64 n = n := by
  rw [w64_d, IntKind.wrap_i64]; omega
theorem w64_succ {i : Nat} (h : i < 4611686018427387904) : w64 ((i : Int) + 1) = ((i + 1 : Nat) : Int) := by
  rw [w64_of (by omega) (by omega)]; omega
theorem w64_nat {i : Nat} (h : i < 4611686018427387904) : w64 (i : Int) = (i : Int) := w64_of (by omega) (by omega)
theorem loopMax_eq : loopMax = 4611686018427387904 := rfl

theorem at_nat {α : Type} (l : List α) (i : Nat) : at? l (i : Int) = l[i]? := by simp [at?]
theorem at_lt {α : Type} {l : List α} {i : Int} (h0 : 0 ≤ i) (h : i < l.length) : ∃ a, at? l i = some a ∧ l[i.toNat]? = some a := by
  have : i.toNat < l.length := by omega
  exact ⟨l[i.toNat], by simp [at?, h0, List.getElem?_eq_getElem this], List.getElem?_eq_getElem this⟩
theorem at_neg {α : Type} {l : List α} {i : Int} (h : ¬ (0 ≤ i)) : at? l i = none := by simp [at?, h]

/-- A loop upwards: what holds behind its last round and is handed from round to round. -/
theorem loop_up {R : Type} (F : Nat → Int → Option R) (n : Nat) (hn : n < 4611686018427387904) (Q : Nat → Option R → Prop) (hexit : ∀ m, Q n (F (m + 1) n))
    (hstep : ∀ m i, i < n → Q (i + 1) (F m (w64 ((i : Int) + 1))) → Q i (F (m + 1) i)) : ∀ (i : Nat), i ≤ n → ∀ m, n - i < m → Q i (F m i) := by
  intro i hi
  induction hk : n - i generalizing i with
  | zero =>
    intro m hm
    have : i = n := by omega
    subst this
    cases m with
    | zero => omega
    | succ m => exact hexit m
  | succ k ih =>
    intro m hm
    cases m with
    | zero => omega
    | succ m =>
      refine hstep m i (by omega) ?_
      rw [w64_succ (by omega)]
      exact ih (i + 1) (by omega) (by omega) m (by omega)

/-- A walk over a list with its places. -/
def walk {α R : Type} (step : Nat → α → Option R → Option R) (exit : Option R) : Nat → List α → Option R
  | _, [] => exit
  | i, a :: l => step i a (walk step exit (i + 1) l)

theorem walk_of {α R : Type} (l : List α) (hl : l.length < 4611686018427387904) (F : Nat → Int → Option R) (step : Nat → α → Option R → Option R) (exit : Option R)
    (hexit : ∀ m, F (m + 1) l.length = exit) (hstep : ∀ (m i : Nat) (a : α), l[i]? = some a → F (m + 1) (i : Int) = step i a (F m (w64 ((i : Int) + 1)))) {m : Nat} (hm : l.length < m) : F m 0 = walk step exit 0 l := by
  have := loop_up F l.length hl (fun i r => r = walk step exit i (l.drop i)) (fun m => by simp [walk, hexit]) (fun m i hi h => by
    rw [List.drop_eq_getElem_cons hi, hstep m i _ (List.getElem?_eq_getElem hi), h, walk]) 0 (Nat.zero_le _) m (by omega)
  simpa using this
theorem walk_from {α R : Type} (l : List α) (hl : l.length < 4611686018427387904) (F : Nat → Int → Option R) (step : Nat → α → Option R → Option R) (exit : Option R)
    (hexit : ∀ m, F (m + 1) l.length = exit) (hstep : ∀ (m i : Nat) (a : α), l[i]? = some a → F (m + 1) (i : Int) = step i a (F m (w64 ((i : Int) + 1)))) {m : Nat} (i : Nat) (hi : i ≤ l.length) (hm : l.length < m) : F m i = walk step exit i (l.drop i) :=
  loop_up F l.length hl (fun i r => r = walk step exit i (l.drop i)) (fun m => by simp [walk, hexit]) (fun m i hi h => by
    rw [List.drop_eq_getElem_cons hi, hstep m i _ (List.getElem?_eq_getElem hi), h, walk]) i hi m (by omega)

/-- The search for an element. -/
theorem walk_find {α : Type} (p : α → Option Bool) (q : α → Bool) (l : List α) (hp : ∀ a ∈ l, p a = some (q a)) : ∀ i : Nat, ∃ r : Int, walk (fun i a k => (p a).bind fun b => if b then some (i : Int) else k) (some (-1)) i l = some r ∧ (0 ≤ r ↔ l.any q = true) ∧ (-1 ≤ r ∧ r < i + l.length) := by
  induction l with
  | nil => intro i; exact ⟨-1, rfl, by simp, by simp; omega⟩
  | cons a l ih =>
    intro i
    simp only [walk, hp a (List.mem_cons_self ..), Option.bind_some]
    cases h : q a with
    | true => exact ⟨i, by simp, by simp [h], by simp; omega⟩
    | false =>
      obtain ⟨r, h1, h2, h3⟩ := ih (fun b hb => hp b (List.mem_cons_of_mem _ hb)) (i + 1)
      refine ⟨r, by simpa using h1, by simp [h, h2], ?_⟩
      simp only [List.length_cons]; omega



/-- Two loops upwards, side by side. -/
theorem loop_two {R S : Type} (F : Nat → Int → Option R) (G : Nat → Int → Option S) (n : Nat) (hn : n < 4611686018427387904) (Q : Nat → Option R → Option S → Prop) (hexit : ∀ m m', Q n (F (m + 1) n) (G (m' + 1) n))
    (hstep : ∀ m m' i, i < n → Q (i + 1) (F m (w64 ((i : Int) + 1))) (G m' (w64 ((i : Int) + 1))) → Q i (F (m + 1) i) (G (m' + 1) i)) : ∀ (i : Nat), i ≤ n → ∀ m m', n - i < m → n - i < m' → Q i (F m i) (G m' i) := by
  intro i hi
  induction hk : n - i generalizing i with
  | zero =>
    intro m m' hm hm'
    have : i = n := by omega
    subst this
    cases m with
    | zero => omega
    | succ m => cases m' with
      | zero => omega
      | succ m' => exact hexit m m'
  | succ k ih =>
    intro m m' hm hm'
    cases m with
    | zero => omega
    | succ m => cases m' with
      | zero => omega
      | succ m' =>
        refine hstep m m' i (by omega) ?_
        rw [w64_succ (by omega)]
        exact ih (i + 1) (by omega) (by omega) m m' (by omega) (by omega)

/-- Both answer, and alike. -/
def Both {α : Type} (a b : Option α) : Prop := ∃ v, a = some v ∧ b = some v
theorem Both.eq {α : Type} {a b : Option α} (h : Both a b) : a = b := by obtain ⟨v, h1, h2⟩ := h; rw [h1, h2]
theorem Both.def {α : Type} {a b : Option α} (h : Both a b) : ∃ v, a = some v := by obtain ⟨v, h1, _⟩ := h; exact ⟨v, h1⟩
theorem Both.of {α : Type} {a b : Option α} {v : α} (h : a = some v) (e : a = b) : Both a b := ⟨v, h, e ▸ h⟩
theorem walk_def {α R : Type} (step : Nat → α → Option R → Option R) (exit : Option R) (he : ∃ v, exit = some v) : ∀ (l : List α) (i : Nat), (∀ i a k, a ∈ l → (∃ v, k = some v) → ∃ v, step i a k = some v) → ∃ v, walk step exit i l = some v
  | [], i, _ => he
  | a :: l, i, hs => hs i a _ (List.mem_cons_self ..) (walk_def step exit he l (i + 1) fun i b k hb => hs i b k (List.mem_cons_of_mem _ hb))
/-- 'Some element passes', by the search's answer. -/
theorem contains_of {α : Type} {l : List α} {q : α → Bool} {r : Int} (h : 0 ≤ r ↔ (l.any q) = true) : decide (0 ≤ r) = l.any q := by rw [Bool.eq_iff_iff]; simpa using h

/-- What holds behind the last round and is handed from round to round. -/
theorem up_ind (n : Nat) (hn : n < 4611686018427387904) (P : Nat → Nat → Int → Prop) (hexit : ∀ m, P n (m + 1) n) (hstep : ∀ m i, i < n → P (i + 1) m (w64 ((i : Int) + 1)) → P i (m + 1) i) : ∀ (i : Nat), i ≤ n → ∀ m, n - i < m → P i m i := by
  intro i hi
  induction hk : n - i generalizing i with
  | zero =>
    intro m hm
    have : i = n := by omega
    subst this
    cases m with
    | zero => omega
    | succ m => exact hexit m
  | succ k ih =>
    intro m hm
    cases m with
    | zero => omega
    | succ m =>
      refine hstep m i (by omega) ?_
      rw [w64_succ (by omega)]
      exact ih (i + 1) (by omega) (by omega) m (by omega)
end Go.Pm
