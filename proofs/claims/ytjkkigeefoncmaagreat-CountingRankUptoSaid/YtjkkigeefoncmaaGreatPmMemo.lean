/-
  Answers that are known: the evaluator with a list of them answers no more than without.
-/
import Derived.Test.YtjkkigeefoncmaaGreatPmPrim
set_option linter.unusedVariables false
set_option linter.unusedSimpArgs false
namespace Go.Pm
open Go

mutual
def pvB : PV → PV → Bool
  | .bool a, .bool b => a == b
  | .int k a, .int k' b => decide (k = k') && a == b
  | .str a, .str b => a.data.toList == b.data.toList
  | .nils, .nils => true
  | .nilp, .nilp => true
  | .nilf, .nilf => true
  | .lit xs ⟨u, f⟩, .lit ys ⟨u', f'⟩ => (u == u') && ((f == f') && rowsB xs ys)
  | .agg xs, .agg ys => listB xs ys
  | .tup xs, .tup ys => listB xs ys
  | .fn f cs, .fn g ds => (f == g) && listB cs ds
  | .eptr xs i o, .eptr ys j p => (i == j) && ((o == p) && rowsB xs ys)
  | _, _ => false
def listB : List PV → List PV → Bool
  | [], [] => true
  | x :: xs, y :: ys => pvB x y && listB xs ys
  | _, _ => false
def rowsB : List (List PV) → List (List PV) → Bool
  | [], [] => true
  | x :: xs, y :: ys => listB x y && rowsB xs ys
  | _, _ => false
end
mutual
theorem pvB_eq : ∀ a b : PV, pvB a b = true → a = b
  | .bool a, b, h => by cases b <;> simp [pvB] at h; rw [h]
  | .int k a, b, h => by cases b <;> simp [pvB] at h; rw [h.1, h.2]
  | .str a, b, h => by
    cases b <;> simp only [pvB, Bool.false_eq_true] at h
    have := Array.toList_inj.1 (beq_iff_eq.1 h)
    rw [ByteArray.ext this]
  | .nils, b, h => by cases b <;> simp [pvB] at h; rfl
  | .nilp, b, h => by cases b <;> simp [pvB] at h; rfl
  | .nilf, b, h => by cases b <;> simp [pvB] at h; rfl
  | .lit xs fl, b, h => by
    obtain ⟨u, f⟩ := fl
    cases b with
    | lit ys fl' =>
      obtain ⟨u', f'⟩ := fl'
      simp only [pvB, Bool.and_eq_true, beq_iff_eq] at h
      rw [h.1, h.2.1, rowsB_eq xs ys h.2.2]
    | _ => simp [pvB] at h
  | .agg xs, b, h => by
    cases b with
    | agg ys => simp only [pvB] at h; rw [listB_eq xs ys h]
    | _ => simp [pvB] at h
  | .tup xs, b, h => by
    cases b with
    | tup ys => simp only [pvB] at h; rw [listB_eq xs ys h]
    | _ => simp [pvB] at h
  | .fn f cs, b, h => by
    cases b with
    | fn g ds => simp only [pvB, Bool.and_eq_true, beq_iff_eq] at h; rw [h.1, listB_eq cs ds h.2]
    | _ => simp [pvB] at h
  | .eptr xs i o, b, h => by
    cases b with
    | eptr ys j p => simp only [pvB, Bool.and_eq_true, beq_iff_eq] at h; rw [h.1, h.2.1, rowsB_eq xs ys h.2.2]
    | _ => simp [pvB] at h
  | .undef, b, h => by cases b <;> simp [pvB] at h
  | .void, b, h => by cases b <;> simp [pvB] at h
  | .ptr a o, b, h => by cases b <;> simp [pvB] at h
  | .aptr a i o, b, h => by cases b <;> simp [pvB] at h
  | .own a k o n, b, h => by cases b <;> simp [pvB] at h
theorem listB_eq : ∀ a b : List PV, listB a b = true → a = b
  | [], [], _ => rfl
  | x :: xs, y :: ys, h => by simp only [listB, Bool.and_eq_true] at h; rw [pvB_eq x y h.1, listB_eq xs ys h.2]
  | [], _ :: _, h => by simp [listB] at h
  | _ :: _, [], h => by simp [listB] at h
theorem rowsB_eq : ∀ a b : List (List PV), rowsB a b = true → a = b
  | [], [], _ => rfl
  | x :: xs, y :: ys, h => by simp only [rowsB, Bool.and_eq_true] at h; rw [listB_eq x y h.1, rowsB_eq xs ys h.2]
  | [], _ :: _, h => by simp [rowsB] at h
  | _ :: _, [], h => by simp [rowsB] at h
end

/-- Answers that are known. -/
def memoP : List (List PV × PV) → List PV → Option PV
  | [], _ => none
  | (a, r) :: l, as => if listB a as then some r else memoP l as

theorem memoP_ok {Q : List PV → PV → Prop} : ∀ {l : List (List PV × PV)}, (∀ x ∈ l, Q x.1 x.2) → ∀ {as r}, memoP l as = some r → Q as r
  | [], _, as, r, h => by simp [memoP] at h
  | (a, b) :: l, hq, as, r, h => by
    simp only [memoP] at h
    split at h
    · rename_i hb
      simp at h; subst h
      rw [← listB_eq a as hb]; exact hq (a, b) (List.mem_cons_self ..)
    · exact memoP_ok (fun x hx => hq x (List.mem_cons_of_mem _ hx)) h

/-- A function that is answered at once, and not otherwise than it answers. -/
theorem withP_le {E : Env} {F : Nat} {p : List PV → Option PV} (hp : ∀ as r, p as = some r → (lim E).pureC F as = some r) : LE (lim (withP E F p)) (lim E) := by
  have up : ∀ n, LE (run (withP E F p) n) (lim E) := fun n => by
    induction n with
    | zero => exact .of (fun f as r h => by simp [run] at h) fun f k as hp nx x h => by simp [run] at h
    | succ n ih =>
      refine .of (fun f as r h => ?_) fun f k as hp' nx x h => ?_
      · simp only [run] at h
        by_cases hf : f = F
        · subst hf
          rw [withP_prim] at h
          exact hp as r h
        · rw [withP_level hf] at h
          exact (lim_level_le E).p (ih.level.p h)
      · simp only [run] at h
        rw [withP_level_r] at h
        exact (lim_level_le E).r (ih.level.r h)
  exact .of (fun f as r h => by obtain ⟨n, hn⟩ := lim_p.1 h; exact (up n).p hn) fun f k as hp' nx x h => by obtain ⟨n, hn⟩ := lim_r.1 h; exact (up n).r hn
/-- With answers that some run gives. -/
theorem memo_le {E : Env} {F : Nat} {l : List (List PV × PV)} (n : Nat) (h : ∀ x ∈ l, (run E n).pureC F x.1 = some x.2) : LE (lim (withP E F (memoP l))) (lim E) :=
  withP_le fun as r hr => lim_p.2 ⟨n, memoP_ok (Q := fun a b => (run E n).pureC F a = some b) h hr⟩
end Go.Pm
