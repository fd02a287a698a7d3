import Derived.Test.YtjkkigeefoncmaaGreatL4
set_option linter.all false
set_option maxRecDepth 10000
namespace Go.S
open Go Go.Pm

theorem walk_bad {α R : Type} (p : α → Option Bool) (q : α → Bool) (e : R) (exit : Option R) : ∀ (l : List α) (i : Nat), (∀ a ∈ l, p a = some (q a)) → walk (fun i a k => (p a).bind fun b => if (!b) = true then some e else k) exit i l = if (l.any fun a => !q a) = true then some e else exit
  | [], i, _ => rfl
  | a :: l, i, h => by
    simp only [walk, h a (List.mem_cons_self ..), Option.bind_some, walk_bad p q e exit l (i + 1) fun b hb => h b (List.mem_cons_of_mem _ hb), List.any_cons]
    by_cases h1 : q a = true <;> simp [h1]
def kindOk (n : Int) : Bool := decide (0 ≤ n) && decide (n ≤ 99)
def endsOk (n : Nat) (e : Edge) : Bool := kindOk e.Type_ && ((decide (0 ≤ e.From) && decide (e.From < n)) && (decide (0 ≤ e.To) && decide (e.To < n)))
theorem f122_e (n m : Int) : f122 n m = some (decide (0 ≤ n) && decide (n ≤ m)) := by unfold f122; by_cases h : 0 ≤ n <;> simp [h]
theorem f121_e (n : Int) : f121 n = some (!kindOk n) := by unfold f121 kindOk; rw [f122_e]; rfl
theorem f89_e (n : Int) : f89 n = some (kindOk n) := by unfold f89 kindOk; by_cases h : 0 ≤ n <;> simp [h]
theorem f125_e (e : Edge) (n : Nat) (hn : n ≤ 1048576) : f125 e n = some (endsOk n e) := by
  have hw : w64 ((n : Int) - 1) = (n : Int) - 1 := w64_of (by omega) (by omega)
  have e1 : ∀ z : Int, (decide (z ≤ (n : Int) - 1)) = decide (z < n) := fun z => by rw [Bool.eq_iff_iff]; simp; omega
  unfold f125 endsOk kindOk
  simp only [f122_e, hw, e1, Option.bind_some]
  by_cases h1 : (decide (0 ≤ e.Type_) && decide (e.Type_ ≤ 99)) = true
  · by_cases h2 : (decide (0 ≤ e.From) && decide (e.From < n)) = true
    · simp only [h1, h2, ↓reduceIte, Bool.true_and]
    · simp only [Bool.not_eq_true] at h2; simp only [h1, h2, ↓reduceIte, Bool.false_and, Bool.and_false, Bool.false_eq_true]
  · simp only [Bool.not_eq_true] at h1; simp only [h1, ↓reduceIte, Bool.false_and, Bool.false_eq_true]
theorem f90_e (e : Edge) (n : Nat) : f90 e n = some (endsOk n e) := by
  unfold f90 endsOk
  simp only [f89_e, Option.bind_some]
  cases kindOk e.Type_ with
  | false => rfl
  | true => by_cases h1 : 0 ≤ e.From <;> by_cases h2 : e.From < n <;> by_cases h3 : 0 ≤ e.To <;> simp [h1, h2, h3]
theorem f31_121_e (s : List Int) (h : s.length ≤ 4000000000) : f31_1_121 s = some (s.any fun n => !kindOk n) := by
  unfold f31_1_121 f49_1_121
  rw [walk_of s (by omega) (fun m i => f49_1_121_l0 s m i) (fun i x k => (f121 x).bind fun b => if b then some (i : Int) else k) (some (-1)) (fun m => by simp [f49_1_121_l0]) (fun m i x hx => by
    have hi : (i : Int) < s.length := by have := (List.getElem?_eq_some_iff.1 hx).1; omega
    simp only [f49_1_121_l0, at_nat, hx, Option.bind_some, hi, decide_true, ↓reduceIte]) (by rw [loopMax_eq]; omega)]
  obtain ⟨r, h1, h2, _⟩ := walk_find f121 (fun n => !kindOk n) s (fun a _ => f121_e a) 0
  rw [h1, Option.bind_some, contains_of h2]
theorem f123_e (s : List Edge) (c1 : List Int) (c2 : List Edge) (h : s.length ≤ 4000000000) (hc : c1.length ≤ 1048576) : f123_1_124pll s c1 c2 = some (s.any fun n => !endsOk c1.length n) := by
  unfold f123_1_124pll f157_1_124pll
  rw [walk_of s (by omega) (fun m i => f157_1_124pll_l0 s c1 c2 m i) (fun i x k => (f124_1pll x c1 c2).bind fun b => if b then some (i : Int) else k) (some (-1)) (fun m => by simp [f157_1_124pll_l0]) (fun m i x hx => by
    have hi : (i : Int) < s.length := by have := (List.getElem?_eq_some_iff.1 hx).1; omega
    simp only [f157_1_124pll_l0, at_nat, hx, Option.bind_some, hi, decide_true, ↓reduceIte]) (by rw [loopMax_eq]; omega)]
  obtain ⟨r, h1, h2, _⟩ := walk_find (fun x => f124_1pll x c1 c2) (fun n => !endsOk c1.length n) s (fun a _ => by unfold f124_1pll; rw [f125_e a _ hc]; rfl) 0
  rw [h1, Option.bind_some, contains_of h2]
structure GraphIn (g : Graph) : Prop where
  n : g.Nodes.length ≤ 40
  e : g.Edges.length ≤ 80
  nodes : ∀ x ∈ g.Nodes, 0 ≤ x
  edges : ∀ x ∈ g.Edges, 0 ≤ x.Type_ ∧ (0 ≤ x.From ∧ x.From < g.Nodes.length) ∧ (0 ≤ x.To ∧ x.To < g.Nodes.length)
theorem graph_e (g : Graph) (hn : g.Nodes.length ≤ 1048576) (he : g.Edges.length ≤ 1048576) : ∃ e, f81 g = some e ∧ f57 g = some e ∧ (e = 0 → GraphIn g) := by
  unfold f81 f57
  by_cases c1 : (40 : Int) < g.Nodes.length
  · exact ⟨3, by simp only [c1, decide_true, ↓reduceIte], by simp only [c1, decide_true, ↓reduceIte], by omega⟩
  · by_cases c2 : (80 : Int) < g.Edges.length
    · exact ⟨3, by simp only [c1, c2, decide_true, decide_false, Bool.false_eq_true, ↓reduceIte], by simp only [c1, c2, decide_true, decide_false, Bool.false_eq_true, ↓reduceIte], by omega⟩
    · simp only [c1, c2, decide_false, Bool.false_eq_true, ↓reduceIte, f31_121_e g.Nodes (by omega), f123_e g.Edges g.Nodes g.Edges (by omega) hn, Option.bind_some]
      have hE : f57_l2 g loopMax 0 = if (g.Edges.any fun n => !endsOk g.Nodes.length n) = true then some 6 else some 0 := by
        rw [walk_of g.Edges (by omega) (fun m i => f57_l2 g m i) (fun i x k => (f90 x g.Nodes.length).bind fun b => if (!b) = true then some 6 else k) (some 0) (fun m => by simp [f57_l2]) (fun m i x hx => by
          have hi : (i : Int) < g.Edges.length := by have := (List.getElem?_eq_some_iff.1 hx).1; omega
          simp only [f57_l2, at_nat, hx, Option.bind_some, hi, decide_true, ↓reduceIte]) (by rw [loopMax_eq]; omega)]
        exact walk_bad _ _ _ _ _ _ fun a _ => f90_e a _
      have hN : f57_l0 g loopMax 0 = if (g.Nodes.any fun n => !kindOk n) = true then some 6 else f57_l2 g loopMax 0 := by
        rw [walk_of g.Nodes (by omega) (fun m i => f57_l0 g m i) (fun i x k => (f89 x).bind fun b => if (!b) = true then some 6 else k) (f57_l2 g loopMax 0) (fun m => by simp [f57_l0]) (fun m i x hx => by
          have hi : (i : Int) < g.Nodes.length := by have := (List.getElem?_eq_some_iff.1 hx).1; omega
          simp only [f57_l0, at_nat, hx, Option.bind_some, hi, decide_true, ↓reduceIte]) (by rw [loopMax_eq]; omega)]
        exact walk_bad _ _ _ _ _ _ fun a _ => f89_e a
      rw [hN, hE]
      by_cases d1 : (g.Nodes.any fun n => !kindOk n) = true
      · exact ⟨6, by simp only [d1, ↓reduceIte], by simp only [d1, ↓reduceIte], by omega⟩
      · by_cases d2 : (g.Edges.any fun n => !endsOk g.Nodes.length n) = true
        · exact ⟨6, by simp only [d1, d2, Bool.false_eq_true, ↓reduceIte], by simp only [d1, d2, Bool.false_eq_true, ↓reduceIte], by omega⟩
        · refine ⟨0, by simp only [d1, d2, Bool.false_eq_true, ↓reduceIte], by simp only [d1, d2, Bool.false_eq_true, ↓reduceIte], fun _ => ⟨by omega, by omega, fun x hx => ?_, fun x hx => ?_⟩⟩
          · simp only [Bool.not_eq_true, List.any_eq_false] at d1
            have := d1 x hx
            simp [kindOk] at this; exact this.1
          · simp only [Bool.not_eq_true, List.any_eq_false] at d2
            have := d2 x hx
            simp [endsOk, kindOk] at this; omega

/-! below -/
theorem f185_w (s : List Int) (v : Int) (h : s.length ≤ 4000000000) : f159 s v = some (s.any fun x => v == x) := by
  unfold f159 f185
  rw [walk_of s (by omega) (fun m i => f185_l0 s v m i) (fun i x k => (some (v == x)).bind fun b => if b then some (i : Int) else k) (some (-1)) (fun m => by simp [f185_l0]) (fun m i x hx => by
    have hi : (i : Int) < s.length := by have := (List.getElem?_eq_some_iff.1 hx).1; omega
    simp only [f185_l0, at_nat, hx, Option.bind_some, hi, decide_true, ↓reduceIte]) (by rw [loopMax_eq]; omega)]
  obtain ⟨r, h1, h2, _⟩ := walk_find (fun x => some (v == x)) (fun x => v == x) s (fun a _ => rfl) 0
  rw [h1, Option.bind_some, contains_of h2]
theorem rev_e (n : Nat) (hn : n ≤ 1000000) : ∀ (m : Nat) (s : List Int) (i j : Nat), s.length = n → j < n + 1 → j ≤ i + m → ∃ s', f186_r0_l0 (m + 1) s (i : Int) ((j : Int) - 1) = some s' ∧ s'.Perm s := by
  intro m
  induction m with
  | zero =>
    intro s i j hs hj hm
    have : ¬ ((i : Int) < (j : Int) - 1) := by omega
    exact ⟨s, by simp only [f186_r0_l0, this, decide_false, Bool.false_eq_true, ↓reduceIte], List.Perm.refl _⟩
  | succ m ih =>
    intro s i j hs hj hm
    by_cases c : (i : Int) < (j : Int) - 1
    · have hi : i < s.length := by omega
      have hjl : j - 1 < s.length := by omega
      obtain ⟨k, hk⟩ : ∃ k, j = k + 1 := ⟨j - 1, by omega⟩
      subst hk
      have ek : ((k + 1 : Nat) : Int) - 1 = k := by omega
      rw [ek] at c ⊢
      have hkl : k < s.length := by omega
      have b1 : (0 : Int) ≤ k := by omega
      have b2 : (k : Int) < s.length := by omega
      have b3 : (0 : Int) ≤ i := by omega
      have b4 : (i : Int) < s.length := by omega
      have w1 : w64 ((i : Int) + 1) = ((i + 1 : Nat) : Int) := w64_succ (by omega)
      have w2 : w64 ((k : Int) - 1) = (k : Int) - 1 := w64_of (by omega) (by omega)
      have hset : ((s.set i s[k])[k]?).isSome = true := by simp [hkl]
      obtain ⟨z, hz⟩ := Option.isSome_iff_exists.1 hset
      obtain ⟨s', g1, g2⟩ := ih ((s.set i s[k]).set k s[i]) (i + 1) k (by simp [hs]) (by omega) (by omega)
      refine ⟨s', ?_, g2.trans (List.set_set_perm hi hkl)⟩
      unfold f186_r0_l0
      simp only [c, b1, b2, b3, b4, decide_true, Bool.and_self, ↓reduceIte, Int.toNat_natCast, List.getElem?_eq_getElem hi, List.getElem?_eq_getElem hkl, Option.bind_some, w1, w2, hz]
      exact g1
    · exact ⟨s, by simp only [f186_r0_l0, c, decide_false, Bool.false_eq_true, ↓reduceIte], List.Perm.refl _⟩
theorem f186_e (s : List Int) (h : s.length ≤ 1000000) : ∃ s', f186_r0 s = some s' ∧ s'.Perm s := by
  unfold f186_r0
  have : w64 ((s.length : Int) - 1) = (s.length : Int) - 1 := w64_of (by omega) (by omega)
  rw [this]
  have := rev_e s.length h (loopMax - 1) s 0 s.length rfl (by omega) (by rw [loopMax_eq]; omega)
  exact this
theorem line_e {R : Recs} (h93 : ∀ a0 a1 a2, R.f93 a0 a1 a2 = f93B R a0 a1 a2) {t : Types} (ht : TypIn t) : ∀ (i : Nat), i < t.Nodes.length → ∃ l : List Int, l.length ≤ i + 1 ∧ (∀ b, 0 ≤ b → R.f93 t i b = some (l.any fun x => b == x)) ∧
    ∀ (out : List Int) (m : Nat), out.length + i ≤ 1000 → i + 1 < m → f160_l0 t m out i = (f186_r0 (out ++ l)).bind fun x3 => if decide ((out ++ l).length ≤ x3.length) = true then some (x3.take (out ++ l).length) else none := by
  intro i
  induction i using Nat.strongRecOn with
  | ind i ih =>
    intro hi
    have hx : t.Nodes[i]? = some t.Nodes[i] := List.getElem?_eq_getElem hi
    obtain ⟨p1, p2⟩ := ht.par i hi _ hx
    generalize t.Nodes[i] = x at hx p1 p2
    have h0 : (0 : Int) ≤ i := by omega
    have hi12 : i < 12 := by have := ht.n; omega
    by_cases hneg : 0 ≤ x.Parent
    · obtain ⟨p, hpp⟩ : ∃ p : Nat, x.Parent = p := ⟨x.Parent.toNat, by omega⟩
      obtain ⟨l, g1, g2, g3⟩ := ih p (by omega) (by omega)
      refine ⟨(i : Int) :: l, by simp; omega, fun b hb => ?_, fun out m ho hm => ?_⟩
      · rw [h93]; unfold f93B
        by_cases c : (i : Int) = b
        · subst c; simp
        · have c' : ((i : Int) == b) = false := beq_eq_false_iff_ne.2 c
          have c'' : (b == (i : Int)) = false := beq_eq_false_iff_ne.2 (Ne.symm c)
          simp only [c', c'', h0, decide_true, Bool.false_eq_true, ↓reduceIte, at_nat, hx, Option.bind_some, hpp, g2 b hb, List.any_cons, Bool.false_or]
      · cases m with
        | zero => omega
        | succ m =>
          have hb : (out ++ [(i : Int)]).length ≤ bound := by unfold bound; simp; omega
          unfold f160_l0
          simp only [h0, decide_true, ↓reduceIte, hb, at_nat, hx, Option.bind_some, hpp]
          rw [g3 (out ++ [(i : Int)]) m (by simp; omega) (by omega)]
          simp only [List.append_assoc, List.singleton_append]
    · have hm1 : x.Parent = -1 := by omega
      refine ⟨[(i : Int)], by simp, fun b hb => ?_, fun out m ho hm => ?_⟩
      · have hz : R.f93 t (-1) b = some false := by
          rw [h93]; unfold f93B
          have : ((-1 : Int) == b) = false := beq_eq_false_iff_ne.2 (by omega)
          simp [this]
        rw [h93]; unfold f93B
        by_cases c : (i : Int) = b
        · subst c; simp
        · have c' : ((i : Int) == b) = false := beq_eq_false_iff_ne.2 c
          have c'' : (b == (i : Int)) = false := beq_eq_false_iff_ne.2 (Ne.symm c)
          simp only [c', c'', h0, decide_true, Bool.false_eq_true, ↓reduceIte, at_nat, hx, Option.bind_some, hm1, hz, List.any_cons, List.any_nil, Bool.or_false]
      · cases m with
        | zero => omega
        | succ m =>
          cases m with
          | zero => omega
          | succ m =>
            have hb : (out ++ [(i : Int)]).length ≤ bound := by unfold bound; simp; omega
            have hn : ¬ ((0 : Int) ≤ -1) := by omega
            unfold f160_l0
            simp only [h0, decide_true, ↓reduceIte, hb, at_nat, hx, Option.bind_some, hm1]
            unfold f160_l0
            simp only [hn, decide_false, Bool.false_eq_true, ↓reduceIte]
theorem below_e {R : Recs} (h93 : ∀ a0 a1 a2, R.f93 a0 a1 a2 = f93B R a0 a1 a2) {t : Types} (ht : TypIn t) (a b : Int) (ha : 0 ≤ a) (ha2 : a < t.Nodes.length) (hb : 0 ≤ b) : ∃ v, f127 t a b = some v ∧ R.f93 t a b = some v := by
  obtain ⟨i, rfl⟩ : ∃ i : Nat, a = i := ⟨a.toNat, by omega⟩
  obtain ⟨l, g1, g2, g3⟩ := line_e h93 ht i (by omega)
  have hn := ht.n
  obtain ⟨s', q1, q2⟩ := f186_e l (by omega)
  have hlen := q2.length_eq
  refine ⟨_, ?_, g2 b hb⟩
  unfold f127 f160
  rw [g3 [] loopMax (by simp; omega) (by rw [loopMax_eq]; omega)]
  simp only [List.nil_append, q1, Option.bind_some, hlen, Nat.le_refl, decide_true, ↓reduceIte]
  rw [← hlen, List.take_length, f185_w s' b (by omega), Option.bind_some]
  congr 1
  rw [Bool.eq_iff_iff]
  simp [q2.mem_iff]
end Go.S
