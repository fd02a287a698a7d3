import Derived.Test.YtjkkigeefoncmaaGreatL7
set_option linter.all false
set_option maxRecDepth 10000
namespace Go.S
open Go Go.Pm

theorem of_d (g : Graph) (hG : GraphIn g) : ∃ st, f36_l0 g loopMax [] 0 = some (st, 0) := by
  have hn := hG.n
  have he := hG.e
  have E : ∀ s1, ∃ st, f36_l2 g s1 loopMax [] 0 = some (st, 0) := fun s1 => by
    exact up_ind g.Edges.length (by omega) (fun i m k => ∀ s, Counts s i → ∃ st, f36_l2 g s1 m s k = some (st, 0)) (fun m s hs => by
      have h1 : ¬ ((g.Edges.length : Int) < g.Edges.length) := by omega
      exact ⟨_, by simp only [f36_l2, h1, decide_false, Bool.false_eq_true, ↓reduceIte]; rfl⟩) (fun m i hi ih s hs => by
      have h1 : (i : Int) < g.Edges.length := by omega
      have hx : g.Edges[i]? = some g.Edges[i] := List.getElem?_eq_getElem hi
      obtain ⟨_, ⟨k2, k3⟩, k4, k5⟩ := hG.edges _ (List.getElem_mem hi)
      generalize g.Edges[i] = x at hx k2 k3 k4 k5
      obtain ⟨n1, m1, _⟩ := at_lt k2 k3
      obtain ⟨n2, m2, _⟩ := at_lt k4 k5
      obtain ⟨l', q1, q2⟩ := counted_d s (Count.mk x.Type_ n1 n2 1) i hs (by omega) rfl
      simp only [f36_l2, h1, decide_true, ↓reduceIte, at_nat, hx, Option.bind_some, m1, m2, q1]
      exact ih l' q2) 0 (Nat.zero_le _) loopMax (by rw [loopMax_eq]; omega) [] ⟨Nat.le_refl _, fun c hc => by cases hc⟩
  exact up_ind g.Nodes.length (by omega) (fun i m k => ∀ s, Counts s i → ∃ st, f36_l0 g m s k = some (st, 0)) (fun m s hs => by
    have h1 : ¬ ((g.Nodes.length : Int) < g.Nodes.length) := by omega
    simp only [f36_l0, h1, decide_false, Bool.false_eq_true, ↓reduceIte]
    exact E s) (fun m i hi ih s hs => by
    have h1 : (i : Int) < g.Nodes.length := by omega
    have hx : g.Nodes[i]? = some g.Nodes[i] := List.getElem?_eq_getElem hi
    generalize g.Nodes[i] = x at hx
    obtain ⟨l', q1, q2⟩ := counted_d s (Count.mk x 0 0 1) i hs (by omega) rfl
    simp only [f36_l0, h1, decide_true, ↓reduceIte, at_nat, hx, Option.bind_some, q1]
    exact ih l' q2) 0 (Nat.zero_le _) loopMax (by rw [loopMax_eq]; omega) [] ⟨Nat.le_refl _, fun c hc => by cases hc⟩

section
variable {R : Recs} (h148 : ∀ a0 a1, R.f148 a0 a1 = f148B R a0 a1) (h101 : ∀ a0 a1, R.f101 a0 a1 = f101B R a0 a1) (h93 : ∀ a0 a1 a2, R.f93 a0 a1 a2 = f93B R a0 a1 a2)
include h148 h101 h93
theorem rank_e {t : Types} {g : Graph} (ht : TypOk t) (hn : g.Nodes.length ≤ 1048576) (he : g.Edges.length ≤ 1048576) (s : List Stage) (hs : ∀ x ∈ s, x.Weights.length ≤ 1048576) :
    ∃ v, f15 R t s g = some v ∧ f16 R t s g = some v ∧ v.1.length ≤ 1000 := by
  obtain ⟨e, g1, g2, g3⟩ := typed_e h148 h101 h93 ht hn he
  unfold f15 f16 f36
  simp only [g1, g2, Option.bind_some]
  by_cases he0 : e = 0
  · have e1 : (!(e == 0)) = false := by simp [he0]
    obtain ⟨st, hst⟩ := of_d g (g3 he0).graph
    simp only [e1, Bool.false_eq_true, ↓reduceIte, hst, Option.bind_some, show (!((0 : Int) == 0)) = false from rfl]
    by_cases c : (6 : Int) < s.length
    · simp only [c, decide_true, ↓reduceIte]; exact ⟨_, rfl, rfl, Nat.zero_le _⟩
    · simp only [c, decide_false, Bool.false_eq_true, ↓reduceIte]
      have D := up_ind s.length (by omega) (fun i m k => ∀ m', s.length - i < m' → ∀ out : List Int, out.length = i → ∃ v, f15_l0 R t s g m out k = some v ∧ f16_l0 R t s g m' out k = some v ∧ v.1.length ≤ 1000) (fun m m' hm' out ho => by
        have h1 : ¬ ((s.length : Int) < s.length) := by omega
        cases m' with
        | zero => omega
        | succ m' =>
          simp only [f15_l0, f16_l0, h1, decide_false, Bool.false_eq_true, ↓reduceIte]
          exact ⟨_, rfl, rfl, by show out.length ≤ 1000; omega⟩) (fun m i hi ih m' hm' out ho => by
        cases m' with
        | zero => omega
        | succ m' =>
          have h1 : (i : Int) < s.length := by omega
          have hx : s[i]? = some s[i] := List.getElem?_eq_getElem hi
          have hw := hs _ (List.getElem_mem hi)
          generalize s[i] = x at hx hw
          obtain ⟨v, q1, q2⟩ := weight_e h148 h101 h93 ht hn he x.Weights hw
          have hb : (out ++ [v.1]).length ≤ bound := by unfold bound; simp; omega
          simp only [f15_l0, f16_l0, h1, decide_true, ↓reduceIte, at_nat, hx, Option.bind_some, q1, q2, hb]
          by_cases cv : v.2 = 0
          · have cv' : (!(v.2 == 0)) = false := by simp [cv]
            simp only [cv', Bool.false_eq_true, ↓reduceIte]
            exact ih m' (by omega) (out ++ [v.1]) (by simp [ho])
          · have cv' : (!(v.2 == 0)) = true := by simp [cv]
            simp only [cv', ↓reduceIte]
            exact ⟨_, rfl, rfl, Nat.zero_le _⟩) 0 (Nat.zero_le _) loopMax (by rw [loopMax_eq]; omega) loopMax (by rw [loopMax_eq]; omega) [] rfl
      exact D
  · have e1 : (!(e == 0)) = true := by simp [he0]
    simp only [e1, ↓reduceIte, Option.bind_some]
    exact ⟨_, rfl, rfl, Nat.zero_le _⟩
end

/-! few; equal -/
theorem f13_l6_d (t : Types) (ht : TypOk t) : ∃ b, f13_l6 t loopMax 0 = some b := by
  have he := ht.elen
  exact up_ind t.Edges.length (by omega) (fun i m k => ∃ b, f13_l6 t m k = some b) (fun m => ⟨true, by simp [f13_l6]⟩) (fun m i hi ih => by
    have h1 : (i : Int) < t.Edges.length := by omega
    simp only [f13_l6, h1, decide_true, ↓reduceIte, at_nat, List.getElem?_eq_getElem hi, Option.bind_some]
    split
    · exact ⟨_, rfl⟩
    · exact ih) 0 (Nat.zero_le _) loopMax (by rw [loopMax_eq]; omega)
theorem f13_l4_d (k : Int) (x : Attr) (hx : x.Names.length ≤ 1048576) (k2 : Int → Option Bool) (hk : ∃ b, k2 (w64 (k + 1)) = some b) : ∃ b, f13_l4 k x k2 loopMax 0 = some b := by
  exact up_ind x.Names.length (by omega) (fun i m j => ∃ b, f13_l4 k x k2 m j = some b) (fun m => by
    have h1 : ¬ ((x.Names.length : Int) < x.Names.length) := by omega
    simp only [f13_l4, h1, decide_false, Bool.false_eq_true, ↓reduceIte]; exact hk) (fun m i hi ih => by
    have h1 : (i : Int) < x.Names.length := by omega
    simp only [f13_l4, h1, decide_true, ↓reduceIte, at_nat, List.getElem?_eq_getElem hi, Option.bind_some]
    split
    · exact ⟨_, rfl⟩
    · exact ih) 0 (Nat.zero_le _) loopMax (by rw [loopMax_eq]; omega)
theorem f13_d (t : Types) (ht : TypOk t) : ∃ b, f13 t = some b := by
  have hn := ht.nlen
  have L0 := up_ind t.Nodes.length (by omega) (fun i m k => ∀ n, ∃ b, f13_l0 t m n k = some b) (fun m n => by
    have h1 : ¬ ((t.Nodes.length : Int) < t.Nodes.length) := by omega
    simp only [f13_l0, h1, decide_false, Bool.false_eq_true, ↓reduceIte]; exact f13_l6_d t ht) (fun m i hi ih n => by
    have h1 : (i : Int) < t.Nodes.length := by omega
    have hx : t.Nodes[i]? = some t.Nodes[i] := List.getElem?_eq_getElem hi
    have ho := ht.nodes _ (List.getElem_mem hi)
    generalize t.Nodes[i] = x at hx ho
    simp only [f13_l0, h1, decide_true, ↓reduceIte, at_nat, hx, Option.bind_some]
    split
    · exact ⟨_, rfl⟩
    · split
      · exact ⟨_, rfl⟩
      · have hl := ho.len
        exact up_ind x.Attrs.length (by omega) (fun k m2 kk => ∃ b, f13_l2 t n i x (f13_l0 t m) m2 kk = some b) (fun m2 => by
          have h2 : ¬ ((x.Attrs.length : Int) < x.Attrs.length) := by omega
          simp only [f13_l2, at_nat, hx, Option.bind_some, h2, decide_false, Bool.false_eq_true, ↓reduceIte]; exact ih _) (fun m2 k hk ih2 => by
          have h2 : (k : Int) < x.Attrs.length := by omega
          have hy : x.Attrs[k]? = some x.Attrs[k] := List.getElem?_eq_getElem hk
          have hyo := ho.attrs _ (List.getElem_mem hk)
          generalize x.Attrs[k] = y at hy hyo
          simp only [f13_l2, at_nat, hx, hy, Option.bind_some, h2, decide_true, ↓reduceIte]
          split
          · exact ⟨_, rfl⟩
          · split
            · exact ⟨_, rfl⟩
            · exact f13_l4_d k y hyo.2.1 _ ih2) 0 (Nat.zero_le _) loopMax (by rw [loopMax_eq]; omega)) 0 (Nat.zero_le _) loopMax (by rw [loopMax_eq]; omega) 0
  unfold f13
  split
  · exact ⟨_, rfl⟩
  · split
    · exact ⟨_, rfl⟩
    · exact L0
theorem f14_d (x : Stage) : ∃ b, f14 x = some b := by
  unfold f14; split <;> exact ⟨_, rfl⟩
theorem f8_d (s : List Stage) (h : s.length ≤ 1048576) : ∃ b, f8_1_14 s = some b := by
  have : ∃ r, f29_1_14 s = some r := by
    unfold f29_1_14
    exact up_ind s.length (by omega) (fun i m k => ∃ r, f29_1_14_l0 s m k = some r) (fun m => ⟨-1, by simp [f29_1_14_l0]⟩) (fun m i hi ih => by
      have h1 : (i : Int) < s.length := by omega
      obtain ⟨b, hb⟩ := f14_d s[i]
      simp only [f29_1_14_l0, h1, decide_true, ↓reduceIte, at_nat, List.getElem?_eq_getElem hi, Option.bind_some, hb]
      split
      · exact ⟨_, rfl⟩
      · exact ih) 0 (Nat.zero_le _) loopMax (by rw [loopMax_eq]; omega)
  obtain ⟨r, hr⟩ := this
  exact ⟨_, by unfold f8_1_14; rw [hr]; rfl⟩
theorem f17_self (l : List Int) (h : l.length ≤ 1048576) : f17 l l = some true := by
  unfold f17
  have h0 : (!((l.length : Int) == l.length)) = false := by simp
  simp only [h0, Bool.false_eq_true, ↓reduceIte]
  exact up_ind l.length (by omega) (fun i m k => f17_l0 l l m k = some true) (fun m => by simp [f17_l0]) (fun m i hi ih => by
    have h1 : (i : Int) < l.length := by omega
    have h2 : (!(l[i] == l[i])) = false := by simp
    simp only [f17_l0, h1, decide_true, ↓reduceIte, at_nat, List.getElem?_eq_getElem hi, Option.bind_some, h2, Bool.false_eq_true]
    exact ih) 0 (Nat.zero_le _) loopMax (by rw [loopMax_eq]; omega)

theorem law4 (R : Recs) (h148 : ∀ a0 a1, R.f148 a0 a1 = f148B R a0 a1) (h101 : ∀ a0 a1, R.f101 a0 a1 = f101B R a0 a1) (h93 : ∀ a0 a1 a2, R.f93 a0 a1 a2 = f93B R a0 a1 a2) (h6 : R.f6 = some true) (t : Types) (s : List Stage) (g : Graph)
    (ht : Sized.ok 1048576 t) (hs : Sized.ok 1048576 s) (hg : Sized.ok 1048576 g) : f4 R t s g = some true := by
  have hT := typOk_of ht
  obtain ⟨⟨gn, _⟩, ge, _⟩ := hg
  obtain ⟨sl, sx⟩ := hs
  obtain ⟨b1, hb1⟩ := f13_d t hT
  obtain ⟨b2, hb2⟩ := f8_d s sl
  obtain ⟨v, hv1, hv2, hv3⟩ := rank_e h148 h101 h93 hT gn ge s fun x hx => (sx x hx).1.1
  have hc : f11 s = some s := by
    unfold f11 cloneL
    have : s.length ≤ bound := by unfold bound; omega
    simp only [this, ↓reduceIte]
  unfold f4
  simp only [h6, Option.bind_some, Bool.not_true, Bool.false_eq_true, ↓reduceIte, hb1, hb2, hc, hv1, hv2, beq_self_eq_true, f17_self v.1 (by omega)]
  repeat' split
  all_goals rfl
end Go.S
