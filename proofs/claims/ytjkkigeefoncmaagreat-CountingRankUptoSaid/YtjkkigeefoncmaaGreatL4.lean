import Derived.Test.YtjkkigeefoncmaaGreatL3
set_option linter.all false
set_option maxRecDepth 10000
namespace Go.S
open Go Go.Pm

theorem f153_e (low high : Int) : f103 low high = f153 low high := by
  unfold f103 f153
  simp only [f92_e, Option.bind_some]
  by_cases h1 : (0 : Int) ≤ low <;> by_cases h2 : low ≤ 40 <;> by_cases h3 : (high == -1) = true <;> by_cases h4 : low ≤ high <;> simp [h1, h2, h3, h4]
theorem f153_d (low high : Int) : ∃ b, f153 low high = some b := by
  unfold f153; repeat' split
  all_goals exact ⟨_, rfl⟩
theorem f150_e (n : Int) (c1 : List NodeType) (c2 : List EdgeType) : f150_1pll n c1 c2 = some (decide (0 ≤ n) && decide (n < c1.length)) := by
  unfold f150_1pll; by_cases h : 0 ≤ n <;> simp [h]
noncomputable def edgeTail (t : Types) (i : Int) (x0 : EdgeType) : Option Int :=
  (Option.bind (Go.S.f92 x0.From (0 : Int) (Go.Pm.w64 ((((List.length t.Nodes) : Nat) : Int) - (1 : Int)))) fun x4 =>
     (if (!x4) then
     (some (6 : Int))
    else (Option.bind (Go.S.f92 x0.To (0 : Int) (Go.Pm.w64 ((((List.length t.Nodes) : Nat) : Int) - (1 : Int)))) fun x5 =>
     (if (!x5) then
     (some (6 : Int))
    else (Option.bind (Go.S.f103 x0.OutLow x0.OutHigh) fun x6 =>
     (if (!x6) then
     (some (6 : Int))
    else (Option.bind (Go.S.f103 x0.InLow x0.InHigh) fun x7 =>
     (if (!x7) then
     (some (6 : Int))
    else (some (0 : Int))))))))))
theorem f69_out (t : Types) (i : Nat) (x0 : EdgeType) (hi : i < t.Edges.length) (hl : t.Edges.length ≤ 1048576) : f69_l0 t i x0 loopMax 0 = if ((t.Edges.take i).any fun y => decide (y.Name = x0.Name)) = true then some 5 else edgeTail t i x0 := by
  have := loop_up (fun m k => f69_l0 t i x0 m k) i (by omega) (fun k r => r = if (((t.Edges.take i).drop k).any fun y => decide (y.Name = x0.Name)) = true then some 5 else edgeTail t i x0) (fun m => by
    have e : (t.Edges.take i).drop i = [] := by simp
    have e2 : ¬ ((i : Int) < i) := by omega
    simp only [f69_l0, e, e2, decide_false, Bool.false_eq_true, ↓reduceIte, List.any_nil, edgeTail]) (fun m k hk ih => by
    have hkl : k < (t.Edges.take i).length := by simp; omega
    have h1 : (k : Int) < i := by omega
    rw [List.drop_eq_getElem_cons hkl]
    simp only [f69_l0, h1, decide_true, ↓reduceIte, at_nat, List.getElem?_eq_getElem (show k < t.Edges.length by omega), Option.bind_some, List.any_cons, List.getElem_take]
    rw [ih]
    by_cases c : t.Edges[k].Name = x0.Name
    · rw [if_pos (decide_eq_true c), decide_eq_true c]; rfl
    · rw [decide_eq_false c]; rfl) 0 (Nat.zero_le _) loopMax (by rw [loopMax_eq]; omega)
  rw [List.drop_zero] at this; exact this
/-- An edge's ends are there. -/
def EdgeIn (t : Types) (i : Nat) : Prop := ∀ x, t.Edges[i]? = some x → (0 ≤ x.From ∧ x.From < t.Nodes.length) ∧ (0 ≤ x.To ∧ x.To < t.Nodes.length)
theorem edge_e {t : Types} (ht : TypOk t) (i : Nat) (hi : i < t.Edges.length) : ∃ e, f117 t i = some e ∧ f69 t i = some e ∧ (e = 0 → EdgeIn t i) := by
  have hx : t.Edges[i]? = some t.Edges[i] := List.getElem?_eq_getElem hi
  have hs := ht.edges t.Edges[i] (List.getElem_mem hi)
  have hl := ht.elen
  have hl2 := ht.nlen
  generalize t.Edges[i] = x at hx hs
  have h1 : (0 : Int) ≤ i := by omega
  have h2 : (i : Int) ≤ t.Edges.length := by omega
  have hw : w64 ((t.Nodes.length : Int) - 1) = (t.Nodes.length : Int) - 1 := w64_of (by omega) (by omega)
  unfold f117 f69
  simp only [at_nat, hx, Option.bind_some, f145_e x.Name (by omega), f100_e x.Name (by omega), f69_out t i x hi hl, h1, h2, and_self, decide_true, ↓reduceIte, Int.toNat_natCast, f151_e (t.Edges.take i) _ _ _ _ _ _ _ (by simp; omega)]
  by_cases c1 : isName x.Name = true
  · simp only [c1, Bool.not_true, Bool.false_eq_true, ↓reduceIte]
    by_cases c2 : ((t.Edges.take i).any fun y => decide (y.Name = x.Name)) = true
    · exact ⟨5, by simp only [c2, ↓reduceIte], by simp only [c2, ↓reduceIte], by omega⟩
    · simp only [c2, Bool.false_eq_true, ↓reduceIte, edgeTail, f92_e, f150_e, Option.bind_some, hw, f153_e]
      have e1 : ∀ z : Int, (decide (z ≤ (t.Nodes.length : Int) - 1)) = decide (z < t.Nodes.length) := fun z => by rw [Bool.eq_iff_iff]; simp; omega
      simp only [e1]
      obtain ⟨b5, h5⟩ := f153_d x.OutLow x.OutHigh
      obtain ⟨b6, h6⟩ := f153_d x.InLow x.InHigh
      simp only [h5, h6, Option.bind_some]
      by_cases d1 : (0 ≤ x.From ∧ x.From < t.Nodes.length)
      · by_cases d2 : (0 ≤ x.To ∧ x.To < t.Nodes.length)
        · have hE : EdgeIn t i := fun y hy => by rw [hx] at hy; obtain rfl := Option.some.inj hy; exact ⟨d1, d2⟩
          simp only [d1.1, d1.2, d2.1, d2.2, decide_true, Bool.and_self, Bool.not_true, Bool.false_eq_true, ↓reduceIte]
          cases b5 with
          | true => cases b6 with
            | true => exact ⟨0, rfl, rfl, fun _ => hE⟩
            | false => exact ⟨6, rfl, rfl, fun _ => hE⟩
          | false => exact ⟨6, rfl, rfl, fun _ => hE⟩
        · have d2' : (decide (0 ≤ x.To) && decide (x.To < t.Nodes.length)) = false := by rw [← Bool.decide_and]; exact decide_eq_false d2
          simp only [d1.1, d1.2, d2', decide_true, Bool.and_self, Bool.not_true, Bool.not_false, Bool.false_eq_true, ↓reduceIte]
          exact ⟨6, rfl, rfl, by omega⟩
      · have d1' : (decide (0 ≤ x.From) && decide (x.From < t.Nodes.length)) = false := by rw [← Bool.decide_and]; exact decide_eq_false d1
        simp only [d1', Bool.not_false, ↓reduceIte]
        exact ⟨6, rfl, rfl, by omega⟩
  · simp only [Bool.not_eq_true] at c1
    exact ⟨2, by simp only [c1, Bool.not_false, ↓reduceIte], by simp only [c1, Bool.not_false, ↓reduceIte], by omega⟩

/-- What right types are. -/
structure TypIn (t : Types) : Prop where
  n : t.Nodes.length ≤ 12
  e : t.Edges.length ≤ 20
  par : ∀ i, i < t.Nodes.length → Par t i
  ends : ∀ i, i < t.Edges.length → EdgeIn t i
section
variable {R : Recs} (h148 : ∀ a0 a1, R.f148 a0 a1 = f148B R a0 a1) (h101 : ∀ a0 a1, R.f101 a0 a1 = f101B R a0 a1)
theorem edges_e {t : Types} (ht : TypOk t) : ∃ p, f78_l3 t loopMax 0 = some p ∧ f44_l2 t loopMax 0 = some p ∧ (p.2 = 0 → ∀ i, i < t.Edges.length → EdgeIn t i) := by
  have hl := ht.elen
  have := loop_two (f78_l3 t) (f44_l2 t) t.Edges.length (by omega) (fun i a b => (∀ j, j < i → EdgeIn t j) → ∃ p : ByteArray × Int, a = some p ∧ b = some p ∧ (p.2 = 0 → ∀ j, j < t.Edges.length → EdgeIn t j)) (fun m m' hpre => by
    exact ⟨_, by simp [f78_l3]; rfl, by simp [f44_l2], fun _ => hpre⟩) (fun m m' i hi ih hpre => by
    obtain ⟨e, g1, g2, g3⟩ := edge_e ht i hi
    have h1 : (i : Int) < t.Edges.length := by omega
    simp only [f78_l3, f44_l2, h1, decide_true, ↓reduceIte, at_nat, List.getElem?_eq_getElem hi, Option.bind_some, g1, g2]
    by_cases he : e = 0
    · subst he
      simp only [show (!((0 : Int) == 0)) = false from rfl, Bool.false_eq_true, ↓reduceIte]
      exact ih fun j hj => by
        rcases Nat.lt_or_eq_of_le (Nat.le_of_lt_succ hj) with h | h
        · exact hpre j h
        · rw [h]; exact g3 rfl
    · have he' : (!(e == 0)) = true := by simp [he]
      simp only [he', ↓reduceIte]
      exact ⟨_, rfl, rfl, fun h => absurd h he⟩) 0 (Nat.zero_le _) loopMax loopMax (by rw [loopMax_eq]; omega) (by rw [loopMax_eq]; omega)
  exact this fun j hj => by omega
include h148 h101
theorem valid_e {t : Types} (ht : TypOk t) : ∃ p, f78 R t = some p ∧ f44 R t = some p ∧ (p.2 = 0 → TypIn t) := by
  have hl := ht.nlen
  unfold f78 f44
  by_cases c0 : (((t.Nodes.length : Nat) : Int) == 0) = true
  · simp only [c0, ↓reduceIte]; exact ⟨_, rfl, rfl, fun h => by simp at h⟩
  · simp only [c0, Bool.false_eq_true, ↓reduceIte]
    by_cases c1 : (12 : Int) < t.Nodes.length
    · simp only [c1, decide_true, ↓reduceIte]; exact ⟨_, rfl, rfl, fun h => by simp at h⟩
    · by_cases c2 : (20 : Int) < t.Edges.length
      · simp only [c1, c2, decide_true, decide_false, Bool.false_eq_true, ↓reduceIte]; exact ⟨_, rfl, rfl, fun h => by simp at h⟩
      · simp only [c1, c2, decide_false, Bool.false_eq_true, ↓reduceIte]
        have := loop_two (f78_l1 R t) (f44_l0 R t) t.Nodes.length (by omega) (fun i a b => (∀ j, j < i → Par t j) → ∃ p : ByteArray × Int, a = some p ∧ b = some p ∧ (p.2 = 0 → TypIn t)) (fun m m' hpre => by
          obtain ⟨p, g1, g2, g3⟩ := edges_e ht
          have hn : ¬ ((t.Nodes.length : Int) < t.Nodes.length) := by omega
          exact ⟨p, by simp only [f78_l1, hn, decide_false, Bool.false_eq_true, ↓reduceIte, g1], by simp only [f44_l0, hn, decide_false, Bool.false_eq_true, ↓reduceIte, g2], fun h => ⟨by omega, by omega, hpre, g3 h⟩⟩) (fun m m' i hi ih hpre => by
          obtain ⟨e, g1, g2, g3⟩ := node_e h148 h101 ht i hi (by omega) hpre
          have h1 : (i : Int) < t.Nodes.length := by omega
          simp only [f78_l1, f44_l0, h1, decide_true, ↓reduceIte, at_nat, List.getElem?_eq_getElem hi, Option.bind_some, g1, g2]
          by_cases he : e = 0
          · subst he
            simp only [show (!((0 : Int) == 0)) = false from rfl, Bool.false_eq_true, ↓reduceIte]
            exact ih fun j hj => by
              rcases Nat.lt_or_eq_of_le (Nat.le_of_lt_succ hj) with h | h
              · exact hpre j h
              · rw [h]; exact g3 rfl
          · have he' : (!(e == 0)) = true := by simp [he]
            simp only [he', ↓reduceIte]
            exact ⟨_, rfl, rfl, fun h => absurd h he⟩) 0 (Nat.zero_le _) loopMax loopMax (by rw [loopMax_eq]; omega) (by rw [loopMax_eq]; omega)
        exact this fun j hj => by omega
end
end Go.S
