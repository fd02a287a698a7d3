import Derived.Test.YtjkkigeefoncmaaGreatL1
set_option linter.all false
set_option maxRecDepth 10000
namespace Go.S
open Go Go.Pm

/-- Texts that are not too long. -/
def Txt (l : List ByteArray) : Prop := l.length ≤ 1048576 ∧ ∀ x ∈ l, x.size ≤ 1048576
theorem any_flip (l : List ByteArray) (v : ByteArray) : (l.any fun x => decide (v = x)) = l.any fun x => decide (x = v) := by
  congr 1; funext x; simp [eq_comm]
def nameStep (l : List ByteArray) (i : Nat) (x : ByteArray) (k : Option Int) : Option Int :=
  if isName x = true then (if ((l.take i).any fun y => decide (y = x)) = true then some 5 else k) else some 2
theorem f177_w (l : List ByteArray) (h : Txt l) : f177_l0 l loopMax 0 = walk (nameStep l) (some 0) 0 l := by
  obtain ⟨hl, hx⟩ := h
  refine walk_of l (by omega) (fun m i => f177_l0 l m i) _ _ (fun m => ?_) (fun m i x hi => ?_) (by rw [loopMax_eq]; omega)
  · simp [f177_l0]
  · have hlt := (List.getElem?_eq_some_iff.1 hi).1
    have hsz := hx x (List.mem_of_getElem? hi)
    have h1 : (i : Int) < l.length := by omega
    have h2 : (0 : Int) ≤ i := by omega
    have h3 : (i : Int) ≤ l.length := by omega
    simp only [f177_l0, h1, h2, h3, at_nat, hi, f145_e x (by omega), Option.bind_some, decide_true, ↓reduceIte, and_self, Int.toNat_natCast, f200_e (l.take i) x (by simp; omega), any_flip, nameStep]
    by_cases c1 : isName x = true <;> simp [c1]
theorem f132_in (l : List ByteArray) (i : Nat) (hi : i < l.length) (hl : l.length ≤ 1048576) (k0 : Int → Option Int) : f132_l2 l i k0 loopMax 0 = if ((l.take i).any fun y => decide (y = l[i])) = true then some 5 else k0 (w64 ((i : Int) + 1)) := by
  have := loop_up (fun m k => f132_l2 l i k0 m k) i (by omega) (fun k r => r = if (((l.take i).drop k).any fun y => decide (y = l[i])) = true then some 5 else k0 (w64 ((i : Int) + 1))) (fun m => by
    have : (l.take i).drop i = [] := by simp
    simp [f132_l2, this]) (fun m k hk ih => by
    have hkl : k < (l.take i).length := by simp; omega
    have h1 : (k : Int) < i := by omega
    rw [List.drop_eq_getElem_cons hkl]
    simp only [f132_l2, h1, decide_true, ↓reduceIte, at_nat, List.getElem?_eq_getElem (show k < l.length by omega), List.getElem?_eq_getElem hi, Option.bind_some, List.any_cons, List.getElem_take]
    rw [ih]
    by_cases c : l[k] = l[i]
    · rw [if_pos (decide_eq_true c), decide_eq_true c]; rfl
    · rw [decide_eq_false c]; rfl) 0 (Nat.zero_le _) loopMax (by rw [loopMax_eq]; omega)
  rw [List.drop_zero] at this; exact this
theorem f132_w (l : List ByteArray) (h : Txt l) : f132_l0 l loopMax 0 = walk (nameStep l) (some 0) 0 l := by
  obtain ⟨hl, hx⟩ := h
  refine walk_of l (by omega) (fun m i => f132_l0 l m i) _ _ (fun m => ?_) (fun m i x hi => ?_) (by rw [loopMax_eq]; omega)
  · simp [f132_l0]
  · have hlt := (List.getElem?_eq_some_iff.1 hi).1
    have hxe : l[i] = x := (List.getElem?_eq_some_iff.1 hi).2
    have hsz := hx x (List.mem_of_getElem? hi)
    have h1 : (i : Int) < l.length := by omega
    simp only [f132_l0, h1, at_nat, hi, f100_e x (by omega), Option.bind_some, decide_true, ↓reduceIte, nameStep, f132_in l i hlt hl, hxe]
    by_cases c1 : isName x = true <;> simp [c1]
theorem names_eq (l : List ByteArray) (h : Txt l) : Both (f177 l) (f132 l) := by
  unfold f177 f132
  rw [f177_w l h, f132_w l h]
  by_cases c : (20 : Int) < l.length
  · exact ⟨3, by simp [c], by simp [c]⟩
  · obtain ⟨v, hv⟩ := walk_def (nameStep l) (some 0) ⟨0, rfl⟩ l 0 fun i a k _ hk => by
      unfold nameStep; split
      · split
        · exact ⟨_, rfl⟩
        · exact hk
      · exact ⟨_, rfl⟩
    exact ⟨v, by simp [c, hv], by simp [c, hv]⟩

theorem f175_e (s : List Attr) (n : ByteArray) (a b : Int) (c : List ByteArray) (h : s.length ≤ 4000000000) : f175_1_176psiil s n a b c = some (s.any fun y => decide (y.Name = n)) := by
  unfold f175_1_176psiil f199_1_176psiil
  rw [walk_of s (by omega) (fun m i => f199_1_176psiil_l0 s n a b c m i) (fun i x k => (f176_1psiil x n a b c).bind fun b => if b then some (i : Int) else k) (some (-1)) (fun m => by simp [f199_1_176psiil_l0]) (fun m i x hx => by
    have hi : (i : Int) < s.length := by have := (List.getElem?_eq_some_iff.1 hx).1; omega
    simp only [f199_1_176psiil_l0, at_nat, hx, Option.bind_some, hi, decide_true, ↓reduceIte]) (by rw [loopMax_eq]; omega)]
  obtain ⟨r, h1, h2, _⟩ := walk_find (fun x => f176_1psiil x n a b c) (fun y => decide (y.Name = n)) s (fun _ _ => rfl) 0
  rw [h1, Option.bind_some, contains_of h2]
theorem f146_e (s : List NodeType) (n : ByteArray) (a : Int) (b : Bool) (c : List Attr) (h : s.length ≤ 4000000000) : f146_1_147psibl s n a b c = some (s.any fun y => decide (y.Name = n)) := by
  unfold f146_1_147psibl f174_1_147psibl
  rw [walk_of s (by omega) (fun m i => f174_1_147psibl_l0 s n a b c m i) (fun i x k => (f147_1psibl x n a b c).bind fun b => if b then some (i : Int) else k) (some (-1)) (fun m => by simp [f174_1_147psibl_l0]) (fun m i x hx => by
    have hi : (i : Int) < s.length := by have := (List.getElem?_eq_some_iff.1 hx).1; omega
    simp only [f174_1_147psibl_l0, at_nat, hx, Option.bind_some, hi, decide_true, ↓reduceIte]) (by rw [loopMax_eq]; omega)]
  obtain ⟨r, h1, h2, _⟩ := walk_find (fun x => f147_1psibl x n a b c) (fun y => decide (y.Name = n)) s (fun _ _ => rfl) 0
  rw [h1, Option.bind_some, contains_of h2]
theorem f151_e (s : List EdgeType) (n : ByteArray) (a b c d e f : Int) (h : s.length ≤ 4000000000) : f151_1_152psiiiiii s n a b c d e f = some (s.any fun y => decide (y.Name = n)) := by
  unfold f151_1_152psiiiiii f178_1_152psiiiiii
  rw [walk_of s (by omega) (fun m i => f178_1_152psiiiiii_l0 s n a b c d e f m i) (fun i x k => (f152_1psiiiiii x n a b c d e f).bind fun b => if b then some (i : Int) else k) (some (-1)) (fun m => by simp [f178_1_152psiiiiii_l0]) (fun m i x hx => by
    have hi : (i : Int) < s.length := by have := (List.getElem?_eq_some_iff.1 hx).1; omega
    simp only [f178_1_152psiiiiii_l0, at_nat, hx, Option.bind_some, hi, decide_true, ↓reduceIte]) (by rw [loopMax_eq]; omega)]
  obtain ⟨r, h1, h2, _⟩ := walk_find (fun x => f152_1psiiiiii x n a b c d e f) (fun y => decide (y.Name = n)) s (fun _ _ => rfl) 0
  rw [h1, Option.bind_some, contains_of h2]

/-! an attribute -/
def AttrOk (x : Attr) : Prop := x.Name.size ≤ 1048576 ∧ Txt x.Names
theorem f92_e (n a b : Int) : f92 n a b = some (decide (a ≤ n) && decide (n ≤ b)) := by
  unfold f92; by_cases h : a ≤ n <;> simp [h]
theorem f102_d (x : Attr) (h : AttrOk x) : ∃ v, f102 x = some v := by
  obtain ⟨v, h1, h2⟩ := names_eq x.Names h.2
  unfold f102
  simp only [f92_e, h2, Option.bind_some]
  repeat' split
  all_goals exact ⟨_, rfl⟩
theorem f149_e (x : Attr) (before : List Attr) (h : AttrOk x) (hb : before.length ≤ 4000000000) :
    f149 x before = if isName x.Name = true then (if (before.any fun y => decide (y.Name = x.Name)) = true then some 5 else f102 x) else some 2 := by
  obtain ⟨v, h1, h2⟩ := names_eq x.Names h.2
  have hlen := h.2.1
  unfold f149 f102
  simp only [f145_e x.Name (by have := h.1; omega), f175_e before _ _ _ _ hb, Option.bind_some, f92_e, h1, h2]
  by_cases c1 : isName x.Name = true
  · simp only [c1, Bool.not_true, Bool.false_eq_true, ↓reduceIte]
    by_cases c2 : (before.any fun y => decide (y.Name = x.Name)) = true
    · simp only [c2, ↓reduceIte]
    · simp only [c2, Bool.false_eq_true, ↓reduceIte]
      have hw : w64 ((x.Names.length : Int) - 1) = (x.Names.length : Int) - 1 := w64_of (by omega) (by omega)
      simp only [hw]
      by_cases c3 : x.Names.length = 0
      · have : x.Names = [] := List.length_eq_zero_iff.1 c3
        have hv : v = 0 := by
          rw [this] at h1
          have : f177 [] = some 0 := by
            unfold f177
            rw [f177_w [] ⟨by simp, by simp⟩]; rfl
          rw [this] at h1; exact (Option.some.inj h1).symm
        subst hv
        have c4 : ¬ ((0 : Int) < x.Names.length) := by omega
        have c5 : ((x.Names.length : Int) == 0) = true := by simp; omega
        simp only [c4, c5, decide_false, Bool.false_eq_true, ↓reduceIte]
        by_cases d1 : -1000000 ≤ x.Low <;> by_cases d2 : x.Low ≤ x.High <;> by_cases d3 : x.High ≤ 1000000 <;> simp [d1, d2, d3] <;> omega
      · have c4 : ((0 : Int) < x.Names.length) := by omega
        have c5 : ((x.Names.length : Int) == 0) = false := beq_eq_false_iff_ne.2 (by omega)
        simp only [c4, c5, decide_true, Bool.false_eq_true, ↓reduceIte]
        by_cases d0 : v = 0
        · subst d0
          by_cases d1 : -1000000 ≤ x.Low <;> by_cases d2 : x.Low ≤ x.High <;> by_cases d3 : x.Low = 0 <;> by_cases d4 : x.High = (x.Names.length : Int) - 1 <;> simp [d1, d2, d3, d4]
        · simp [d0]
  · simp only [Bool.not_eq_true] at c1
    simp [c1]
end Go.S
