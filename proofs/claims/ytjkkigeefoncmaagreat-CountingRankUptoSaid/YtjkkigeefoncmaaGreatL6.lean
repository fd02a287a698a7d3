import Derived.Test.YtjkkigeefoncmaaGreatL5
set_option linter.all false
set_option maxRecDepth 10000
namespace Go.S
open Go Go.Pm

theorem f31_158_e (s : List Int) (c1 : List NodeType) (c2 : List EdgeType) (h : s.length ≤ 4000000000) : f31_1_158pll s c1 c2 = some (s.any fun a => decide (a < 0) || decide ((c1.length : Int) ≤ a)) := by
  unfold f31_1_158pll f49_1_158pll
  rw [walk_of s (by omega) (fun m i => f49_1_158pll_l0 s c1 c2 m i) (fun i x k => (f158_1pll x c1 c2).bind fun b => if b then some (i : Int) else k) (some (-1)) (fun m => by simp [f49_1_158pll_l0]) (fun m i x hx => by
    have hi : (i : Int) < s.length := by have := (List.getElem?_eq_some_iff.1 hx).1; omega
    simp only [f49_1_158pll_l0, at_nat, hx, Option.bind_some, hi, decide_true, ↓reduceIte]) (by rw [loopMax_eq]; omega)]
  obtain ⟨r, h1, h2, _⟩ := walk_find (fun x => f158_1pll x c1 c2) (fun a => decide (a < 0) || decide ((c1.length : Int) ≤ a)) s (fun a _ => by unfold f158_1pll; by_cases h : a < 0 <;> simp [h]) 0
  rw [h1, Option.bind_some, contains_of h2]

section
variable {R : Recs} (h93 : ∀ a0 a1 a2, R.f93 a0 a1 a2 = f93B R a0 a1 a2)
include h93
theorem fits_e {t : Types} (ht : TypIn t) {p : ByteArray × Int} (hp : p.2 = 0) (hv : f78 R t = some p) (hv' : f44 R t = some p) (e a b : Int) (ha : 0 ≤ a ∧ a < t.Nodes.length) (hb : 0 ≤ b ∧ b < t.Nodes.length) :
    ∃ v, f82 R t e a b = some v ∧ f58 R t e a b = some v := by
  have hn := ht.n
  have he := ht.e
  have w1 : w64 ((t.Nodes.length : Int) - 1) = (t.Nodes.length : Int) - 1 := w64_of (by omega) (by omega)
  have w2 : w64 ((t.Edges.length : Int) - 1) = (t.Edges.length : Int) - 1 := w64_of (by omega) (by omega)
  have a1 : f126 R t [a, b] = some 0 := by
    unfold f126
    simp only [hv, Option.bind_some, hp, f31_158_e [a, b] t.Nodes t.Edges (by simp)]
    have g1 : ¬ (a < 0) := by omega
    have g2 : ¬ ((t.Nodes.length : Int) ≤ a) := by omega
    have g3 : ¬ (b < 0) := by omega
    have g4 : ¬ ((t.Nodes.length : Int) ≤ b) := by omega
    simp [g1, g2, g3, g4]
  have a2 : f91 R t a b = some 0 := by
    unfold f91
    simp only [hv', Option.bind_some, hp, f92_e, w1]
    have g1 : a ≤ (t.Nodes.length : Int) - 1 := by omega
    have g2 : b ≤ (t.Nodes.length : Int) - 1 := by omega
    simp [g1, g2, ha.1, hb.1]
  unfold f82 f58
  simp only [a1, a2, Option.bind_some, f92_e, w2, show (!((0 : Int) == 0)) = false from rfl, Bool.false_eq_true, ↓reduceIte]
  by_cases c1 : e < 0
  · have c1' : ¬ (0 ≤ e) := by omega
    exact ⟨false, by simp only [c1, decide_true, ↓reduceIte], by simp only [c1', decide_false, Bool.false_and, Bool.not_false, ↓reduceIte]⟩
  · have c1' : 0 ≤ e := by omega
    by_cases c2 : (t.Edges.length : Int) ≤ e
    · have c2' : ¬ (e ≤ (t.Edges.length : Int) - 1) := by omega
      exact ⟨false, by simp only [c1, c2, decide_true, decide_false, Bool.false_eq_true, ↓reduceIte], by simp only [c1', c2', decide_true, decide_false, Bool.and_false, Bool.not_false, ↓reduceIte]⟩
    · have c2' : e ≤ (t.Edges.length : Int) - 1 := by omega
      obtain ⟨i, rfl⟩ : ∃ i : Nat, e = i := ⟨e.toNat, by omega⟩
      have hi : i < t.Edges.length := by omega
      have hx : t.Edges[i]? = some t.Edges[i] := List.getElem?_eq_getElem hi
      obtain ⟨⟨k1, k2⟩, k3, k4⟩ := ht.ends i hi _ hx
      generalize t.Edges[i] = x at hx k1 k2 k3 k4
      simp only [c1, c2, c1', c2', decide_true, decide_false, Bool.and_self, Bool.not_true, Bool.false_eq_true, ↓reduceIte, at_nat, hx, Option.bind_some]
      obtain ⟨v1, u1, u2⟩ := below_e h93 ht a x.From ha.1 ha.2 k1
      obtain ⟨v2, u3, u4⟩ := below_e h93 ht b x.To hb.1 hb.2 k3
      simp only [u1, u2, u3, u4, Option.bind_some]
      cases v1 with
      | true => exact ⟨v2, rfl, rfl⟩
      | false => exact ⟨false, rfl, rfl⟩
end

structure Typed (t : Types) (g : Graph) : Prop where
  types : TypIn t
  graph : GraphIn g
  nodes : ∀ x ∈ g.Nodes, x < t.Nodes.length
  edges : ∀ x ∈ g.Edges, x.Type_ < t.Edges.length
section
variable {R : Recs} (h148 : ∀ a0 a1, R.f148 a0 a1 = f148B R a0 a1) (h101 : ∀ a0 a1, R.f101 a0 a1 = f101B R a0 a1) (h93 : ∀ a0 a1 a2, R.f93 a0 a1 a2 = f93B R a0 a1 a2)
include h148 h101 h93
theorem typed_e {t : Types} {g : Graph} (ht : TypOk t) (hn : g.Nodes.length ≤ 1048576) (he : g.Edges.length ≤ 1048576) : ∃ e, f53 R t g = some e ∧ f38 R t g = some e ∧ (e = 0 → Typed t g) := by
  obtain ⟨p, v1, v2, v3⟩ := valid_e h148 h101 ht
  obtain ⟨q, w1, w2, w3⟩ := graph_e g hn he
  unfold f53 f38
  simp only [v1, v2, w1, w2, Option.bind_some]
  by_cases hp : p.2 = 0
  · have hT := v3 hp
    have hp' : (!(p.2 == 0)) = false := by simp [hp]
    simp only [hp', Bool.false_eq_true, ↓reduceIte]
    by_cases hq : q = 0
    · have hG := w3 hq
      have hq' : (!(q == 0)) = false := by simp [hq]
      simp only [hq', Bool.false_eq_true, ↓reduceIte]
      have E : (∀ x ∈ g.Nodes, x < t.Nodes.length) → ∃ e, f53_l2 R t g loopMax 0 = some e ∧ f38_l2 R t g loopMax 0 = some e ∧ (e = 0 → Typed t g) := fun hN => by
        have := loop_two (f53_l2 R t g) (f38_l2 R t g) g.Edges.length (by omega) (fun i a b => (∀ j x, j < i → g.Edges[j]? = some x → x.Type_ < t.Edges.length) → ∃ e, a = some e ∧ b = some e ∧ (e = 0 → Typed t g)) (fun m m' hpre => by
          refine ⟨0, by simp [f53_l2], by simp [f38_l2], fun _ => ⟨hT, hG, hN, fun x hx => ?_⟩⟩
          obtain ⟨j, hj⟩ := List.mem_iff_getElem?.1 hx
          exact hpre j x (List.getElem?_eq_some_iff.1 hj).1 hj) (fun m m' i hi ih hpre => by
          have h1 : (i : Int) < g.Edges.length := by omega
          have hx : g.Edges[i]? = some g.Edges[i] := List.getElem?_eq_getElem hi
          obtain ⟨k1, ⟨k2, k3⟩, k4, k5⟩ := hG.edges _ (List.getElem_mem hi)
          generalize g.Edges[i] = x at hx k1 k2 k3 k4 k5
          obtain ⟨n1, m1, m1'⟩ := at_lt k2 k3
          obtain ⟨n2, m2, m2'⟩ := at_lt k4 k5
          have z1 := List.mem_of_getElem? m1'
          have z2 := List.mem_of_getElem? m2'
          obtain ⟨v, u1, u2⟩ := fits_e h93 hT hp v1 v2 x.Type_ n1 n2 ⟨hG.nodes _ z1, hN _ z1⟩ ⟨hG.nodes _ z2, hN _ z2⟩
          simp only [f53_l2, f38_l2, h1, decide_true, ↓reduceIte, at_nat, hx, Option.bind_some, m1, m2, u1, u2]
          by_cases c : (t.Edges.length : Int) ≤ x.Type_
          · exact ⟨6, by simp only [c, decide_true, ↓reduceIte], by simp only [c, decide_true, ↓reduceIte], by omega⟩
          · simp only [c, decide_false, Bool.false_eq_true, ↓reduceIte]
            cases v with
            | false => exact ⟨13, rfl, rfl, by omega⟩
            | true =>
              exact ih fun j y hj hy => by
                rcases Nat.lt_or_eq_of_le (Nat.le_of_lt_succ hj) with h | h
                · exact hpre j y h hy
                · subst h; rw [hx] at hy; obtain rfl := Option.some.inj hy; omega) 0 (Nat.zero_le _) loopMax loopMax (by rw [loopMax_eq]; omega) (by rw [loopMax_eq]; omega)
        exact this fun j x hj => by omega
      have := loop_two (f53_l0 R t g) (f38_l0 R t g) g.Nodes.length (by omega) (fun i a b => (∀ j x, j < i → g.Nodes[j]? = some x → x < t.Nodes.length) → ∃ e, a = some e ∧ b = some e ∧ (e = 0 → Typed t g)) (fun m m' hpre => by
        obtain ⟨e, g1, g2, g3⟩ := E fun x hx => by
          obtain ⟨j, hj⟩ := List.mem_iff_getElem?.1 hx
          exact hpre j x (List.getElem?_eq_some_iff.1 hj).1 hj
        have h1 : ¬ ((g.Nodes.length : Int) < g.Nodes.length) := by omega
        exact ⟨e, by simp only [f53_l0, h1, decide_false, Bool.false_eq_true, ↓reduceIte, g1], by simp only [f38_l0, h1, decide_false, Bool.false_eq_true, ↓reduceIte, g2], g3⟩) (fun m m' i hi ih hpre => by
        have h1 : (i : Int) < g.Nodes.length := by omega
        have hx : g.Nodes[i]? = some g.Nodes[i] := List.getElem?_eq_getElem hi
        generalize g.Nodes[i] = x at hx
        simp only [f53_l0, f38_l0, h1, decide_true, ↓reduceIte, at_nat, hx, Option.bind_some]
        by_cases c : (t.Nodes.length : Int) ≤ x
        · exact ⟨6, by simp only [c, decide_true, ↓reduceIte], by simp only [c, decide_true, ↓reduceIte], by omega⟩
        · simp only [c, decide_false, Bool.false_eq_true, ↓reduceIte]
          exact ih fun j y hj hy => by
            rcases Nat.lt_or_eq_of_le (Nat.le_of_lt_succ hj) with h | h
            · exact hpre j y h hy
            · subst h; rw [hx] at hy; obtain rfl := Option.some.inj hy; omega) 0 (Nat.zero_le _) loopMax loopMax (by rw [loopMax_eq]; omega) (by rw [loopMax_eq]; omega)
      exact this fun j x hj => by omega
    · have hq' : (!(q == 0)) = true := by simp [hq]
      simp only [hq', ↓reduceIte]
      exact ⟨q, rfl, rfl, fun h => absurd h hq⟩
  · have hp' : (!(p.2 == 0)) = true := by simp [hp]
    simp only [hp', ↓reduceIte]
    exact ⟨_, rfl, rfl, fun h => absurd h hp⟩
end
theorem f55_f53 (R : Recs) (t : Types) (g : Graph) : f55 R t g = f53 R t g := by
  have h2 : ∀ m i, f55_l2 R t g m i = f53_l2 R t g m i := fun m => by
    induction m with
    | zero => intro i; rfl
    | succ m ih => intro i; simp only [f55_l2, f53_l2, ih]
  have h0 : ∀ m i, f55_l0 R t g m i = f53_l0 R t g m i := fun m => by
    induction m with
    | zero => intro i; rfl
    | succ m ih => intro i; simp only [f55_l0, f53_l0, ih, h2]
  simp only [f55, f53, h0]
end Go.S
