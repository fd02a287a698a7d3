import Derived.Test.YtjkkigeefoncmaaGreatL2
import Derived.Test.YtjkkigeefoncmaaGreatSRead
set_option linter.all false
set_option maxRecDepth 10000
namespace Go.S
open Go Go.Pm

structure NodeOk (x : NodeType) : Prop where
  name : x.Name.size ≤ 1048576
  len : x.Attrs.length ≤ 1048576
  attrs : ∀ a ∈ x.Attrs, AttrOk a
structure TypOk (t : Types) : Prop where
  nlen : t.Nodes.length ≤ 1048576
  elen : t.Edges.length ≤ 1048576
  nodes : ∀ x ∈ t.Nodes, NodeOk x
  edges : ∀ x ∈ t.Edges, x.Name.size ≤ 1048576
theorem typOk_of {t : Types} (h : Sized.ok 1048576 t) : TypOk t := by
  obtain ⟨⟨h1, h2⟩, h3, h4⟩ := h
  refine ⟨h1, h3, fun x hx => ?_, fun x hx => (h4 x hx).1⟩
  obtain ⟨g1, g2, g3, g4, g5⟩ := h2 x hx
  refine ⟨g1, g4, fun a ha => ?_⟩
  obtain ⟨k1, k2, k3, k4, k5⟩ := g5 a ha
  exact ⟨k1, k4, k5⟩
/-- A node's parent stands ahead of it. -/
def Par (t : Types) (i : Nat) : Prop := ∀ x, t.Nodes[i]? = some x → -1 ≤ x.Parent ∧ x.Parent < i

section
variable {R : Recs} (h148 : ∀ a0 a1, R.f148 a0 a1 = f148B R a0 a1) (h101 : ∀ a0 a1, R.f101 a0 a1 = f101B R a0 a1)
include h148 h101
theorem attrs_e {t : Types} (ht : TypOk t) : ∀ (i : Nat), i < t.Nodes.length → i < 1000 → (∀ j, j ≤ i → Par t j) → ∃ l pre x, t.Nodes[i]? = some x ∧ l = pre ++ x.Attrs ∧ R.f148 t i = some l ∧ R.f101 t i = some l ∧ l.length ≤ (i + 1) * 1048576 ∧ ∀ a ∈ l, AttrOk a := by
  intro i
  induction i using Nat.strongRecOn with
  | ind i ih =>
    intro hi hi2 hp
    have hx : t.Nodes[i]? = some t.Nodes[i] := List.getElem?_eq_getElem hi
    have hn := ht.nodes t.Nodes[i] (List.getElem_mem hi)
    obtain ⟨p1, p2⟩ := hp i (Nat.le_refl _) _ hx
    generalize t.Nodes[i] = x at hx hn p1 p2
    have hi0 : ¬ ((i : Int) < 0) := by omega
    by_cases hneg : 0 ≤ x.Parent
    · obtain ⟨p, hpp⟩ : ∃ p : Nat, x.Parent = p := ⟨x.Parent.toNat, by omega⟩
      obtain ⟨l, pre, y, g1, g2, g3, g4, g5, g6⟩ := ih p (by omega) (by omega) (by omega) fun j hj => hp j (by omega)
      have hm : (p + 1) * 1048576 ≤ i * 1048576 := Nat.mul_le_mul_right _ (by omega)
      have hlen : (l ++ x.Attrs).length ≤ (i + 1) * 1048576 := by rw [List.length_append]; have := hn.len; omega
      have hb : (l ++ x.Attrs).length ≤ bound := by unfold bound; omega
      have hb' : l.length ≤ bound := by unfold bound; omega
      refine ⟨l ++ x.Attrs, l, x, hx, rfl, ?_, ?_, hlen, fun a ha => (List.mem_append.1 ha).elim (g6 a) (hn.attrs a)⟩
      · rw [h148]; unfold f148B
        have h0 : (0 : Int) ≤ p := by omega
        simp only [at_nat, hx, Option.bind_some, hpp, h0, decide_true, ↓reduceIte, g3, hb]
      · rw [h101]; unfold f101B
        simp only [hi0, decide_false, Bool.false_eq_true, ↓reduceIte, at_nat, hx, Option.bind_some, hpp, g4, hb, hb', decide_true]
    · have hm1 : x.Parent = -1 := by omega
      have hlen : x.Attrs.length ≤ (i + 1) * 1048576 := by have := hn.len; omega
      have hb : x.Attrs.length ≤ bound := by have := hn.len; unfold bound; omega
      refine ⟨x.Attrs, [], x, hx, rfl, ?_, ?_, hlen, hn.attrs⟩
      · rw [h148]; unfold f148B
        simp only [at_nat, hx, Option.bind_some, hneg, decide_false, Bool.false_eq_true, ↓reduceIte, hb, decide_true]
      · have hz : R.f101 t (-1) = some [] := by rw [h101]; rfl
        have hb0 : ([] : List Attr).length ≤ bound := Nat.zero_le _
        rw [h101]; unfold f101B
        simp only [hi0, decide_false, Bool.false_eq_true, ↓reduceIte, at_nat, hx, Option.bind_some, hm1, hz, hb0, hb, decide_true, List.nil_append]
end

noncomputable def attrStep (l : List Attr) (k : Nat) (x : Attr) (rest : Option Int) : Option Int :=
  if isName x.Name = true then (if ((l.take k).any fun y => decide (y.Name = x.Name)) = true then some 5 else (f102 x).bind fun e => if (!(e == 0)) = true then some e else rest) else some 2
theorem f116_w (l : List Attr) (hl : l.length ≤ 1073741824) (h : ∀ a ∈ l, AttrOk a) (k : Nat) (hk : k ≤ l.length) : f116_l1 l loopMax k = walk (attrStep l) (some 0) k (l.drop k) := by
  refine walk_from l (by omega) (fun m i => f116_l1 l m i) _ _ (fun m => by simp [f116_l1]) (fun m i x hx => ?_) k hk (by rw [loopMax_eq]; omega)
  have hi := (List.getElem?_eq_some_iff.1 hx).1
  have h1 : (i : Int) < l.length := by omega
  have h2 : (0 : Int) ≤ i := by omega
  have h3 : (i : Int) ≤ l.length := by omega
  have h4 : i ≤ l.length := by omega
  simp only [f116_l1, h1, h2, h3, h4, decide_true, ↓reduceIte, Bool.and_self, and_self, Int.toNat_natCast, hx, Option.bind_some, f149_e x (l.take i) (h x (List.mem_of_getElem? hx)) (by simp; omega), attrStep]
  by_cases c1 : isName x.Name = true
  · simp only [c1, ↓reduceIte]
    by_cases c2 : ((l.take i).any fun y => decide (y.Name = x.Name)) = true
    · simp only [c2, ↓reduceIte, Option.bind_some]; rfl
    · simp only [c2, Bool.false_eq_true, ↓reduceIte]
  · simp only [c1, Bool.false_eq_true, ↓reduceIte, Option.bind_some]; rfl
theorem f68_in (l : List Attr) (k : Nat) (x : Attr) (hx : l[k]? = some x) (hl : l.length ≤ 1073741824) (k2 : Int → Option Int) : f68_l4 l k k2 loopMax 0 =
    if ((l.take k).any fun y => decide (y.Name = x.Name)) = true then some 5 else (f102 x).bind fun e => if (!(e == 0)) = true then some e else k2 (w64 ((k : Int) + 1)) := by
  have hk := (List.getElem?_eq_some_iff.1 hx).1
  have hk1 : (k : Int) < l.length := by omega
  have hk0 : (0 : Int) ≤ k := by omega
  have := loop_up (fun m j => f68_l4 l k k2 m j) k (by omega) (fun j r => r = if (((l.take k).drop j).any fun y => decide (y.Name = x.Name)) = true then some 5 else (f102 x).bind fun e => if (!(e == 0)) = true then some e else k2 (w64 ((k : Int) + 1))) (fun m => by
    have e : (l.take k).drop k = [] := by simp
    have e2 : ¬ ((k : Int) < k) := by omega
    simp only [f68_l4, e, e2, decide_false, Bool.false_eq_true, ↓reduceIte, hk0, hk1, decide_true, Bool.and_self, Int.toNat_natCast, hx, Option.bind_some, List.any_nil]) (fun m j hj ih => by
    have hjl : j < (l.take k).length := by simp; omega
    have h1 : (j : Int) < k := by omega
    have h0 : (0 : Int) ≤ j := by omega
    have h2 : (j : Int) < l.length := by omega
    rw [List.drop_eq_getElem_cons hjl]
    simp only [f68_l4, h0, h1, h2, hk0, hk1, decide_true, ↓reduceIte, Bool.and_self, Int.toNat_natCast, List.getElem?_eq_getElem (show j < l.length by omega), hx, Option.bind_some, List.any_cons, List.getElem_take]
    rw [ih]
    by_cases c : l[j].Name = x.Name
    · rw [if_pos (decide_eq_true c), decide_eq_true c]; rfl
    · rw [decide_eq_false c]; rfl) 0 (Nat.zero_le _) loopMax (by rw [loopMax_eq]; omega)
  rw [List.drop_zero] at this; exact this
theorem f68_w (l : List Attr) (hl : l.length ≤ 1073741824) (h : ∀ a ∈ l, AttrOk a) (k : Nat) (hk : k ≤ l.length) : f68_l2 l loopMax k = walk (attrStep l) (some 0) k (l.drop k) := by
  refine walk_from l (by omega) (fun m i => f68_l2 l m i) _ _ (fun m => by simp [f68_l2]) (fun m i x hx => ?_) k hk (by rw [loopMax_eq]; omega)
  have hi := (List.getElem?_eq_some_iff.1 hx).1
  have h1 : (i : Int) < l.length := by omega
  have h2 : (0 : Int) ≤ i := by omega
  have hs := (h x (List.mem_of_getElem? hx)).1
  simp only [f68_l2, h1, h2, decide_true, ↓reduceIte, Bool.and_self, Int.toNat_natCast, hx, Option.bind_some, f100_e x.Name (by omega), f68_in l i x hx hl, attrStep]
  by_cases c1 : isName x.Name = true
  · simp only [c1, Bool.not_true, Bool.false_eq_true, ↓reduceIte]
  · simp only [Bool.not_eq_true] at c1
    simp only [c1, Bool.not_false, Bool.false_eq_true, ↓reduceIte]
theorem attrWalk_d (l : List Attr) (h : ∀ a ∈ l, AttrOk a) (k : Nat) : ∃ v, walk (attrStep l) (some 0) k (l.drop k) = some v :=
  walk_def _ _ ⟨0, rfl⟩ _ _ fun i a r ha hr => by
    unfold attrStep
    obtain ⟨e, he⟩ := f102_d a (h a (List.mem_of_mem_drop ha))
    rw [he, Option.bind_some]
    repeat' split
    all_goals first | exact hr | exact ⟨_, rfl⟩

/-- What the reference's node says behind the names. -/
noncomputable def nodeTail (R : Recs) (t : Types) (i : Int) (x0 : NodeType) : Option Int :=
  (f92 x0.Parent (-1) (w64 (i - 1))).bind fun x4 =>
     if (!x4) = true then some 6
     else (R.f101 t i).bind fun x5 =>
       if decide ((4 : Int) < x0.Attrs.length) = true then some 3
       else if decide ((8 : Int) < x5.length) = true then some 3
       else f68_l2 x5 loopMax (w64 ((x5.length : Int) - x0.Attrs.length))
theorem f68_out (R : Recs) (t : Types) (i : Nat) (x0 : NodeType) (hi : i < t.Nodes.length) (hl : t.Nodes.length ≤ 1048576) : f68_l0 R t i x0 loopMax 0 = if ((t.Nodes.take i).any fun y => decide (y.Name = x0.Name)) = true then some 5 else nodeTail R t i x0 := by
  have := loop_up (fun m k => f68_l0 R t i x0 m k) i (by omega) (fun k r => r = if (((t.Nodes.take i).drop k).any fun y => decide (y.Name = x0.Name)) = true then some 5 else nodeTail R t i x0) (fun m => by
    have e : (t.Nodes.take i).drop i = [] := by simp
    have e2 : ¬ ((i : Int) < i) := by omega
    simp only [f68_l0, e, e2, decide_false, Bool.false_eq_true, ↓reduceIte, List.any_nil, nodeTail]) (fun m k hk ih => by
    have hkl : k < (t.Nodes.take i).length := by simp; omega
    have h1 : (k : Int) < i := by omega
    rw [List.drop_eq_getElem_cons hkl]
    simp only [f68_l0, h1, decide_true, ↓reduceIte, at_nat, List.getElem?_eq_getElem (show k < t.Nodes.length by omega), Option.bind_some, List.any_cons, List.getElem_take]
    rw [ih]
    by_cases c : t.Nodes[k].Name = x0.Name
    · rw [if_pos (decide_eq_true c), decide_eq_true c]; rfl
    · rw [decide_eq_false c]; rfl) 0 (Nat.zero_le _) loopMax (by rw [loopMax_eq]; omega)
  rw [List.drop_zero] at this; exact this

section
variable {R : Recs} (h148 : ∀ a0 a1, R.f148 a0 a1 = f148B R a0 a1) (h101 : ∀ a0 a1, R.f101 a0 a1 = f101B R a0 a1)
include h148 h101
theorem node_e {t : Types} (ht : TypOk t) (i : Nat) (hi : i < t.Nodes.length) (hi2 : i < 1000) (hp : ∀ j, j < i → Par t j) : ∃ e, f116 R t i = some e ∧ f68 R t i = some e ∧ (e = 0 → Par t i) := by
  have hx : t.Nodes[i]? = some t.Nodes[i] := List.getElem?_eq_getElem hi
  have hn := ht.nodes t.Nodes[i] (List.getElem_mem hi)
  have hl := ht.nlen
  generalize t.Nodes[i] = x at hx hn
  have hs := hn.name
  have h1 : (0 : Int) ≤ i := by omega
  have h2 : (i : Int) ≤ t.Nodes.length := by omega
  unfold f116 f68
  simp only [at_nat, hx, Option.bind_some, f145_e x.Name (by omega), f100_e x.Name (by omega), f68_out R t i x hi hl, h1, h2, and_self, decide_true, ↓reduceIte, Int.toNat_natCast, f146_e (t.Nodes.take i) _ _ _ _ (by simp; omega)]
  by_cases c1 : isName x.Name = true
  · simp only [c1, Bool.not_true, Bool.false_eq_true, ↓reduceIte]
    by_cases c2 : ((t.Nodes.take i).any fun y => decide (y.Name = x.Name)) = true
    · exact ⟨5, by simp only [c2, ↓reduceIte], by simp only [c2, ↓reduceIte], by omega⟩
    · simp only [c2, Bool.false_eq_true, ↓reduceIte, nodeTail, f92_e, Option.bind_some]
      have hw : w64 ((i : Int) - 1) = (i : Int) - 1 := w64_of (by omega) (by omega)
      simp only [hw]
      by_cases d1 : x.Parent < -1
      · have d1' : ¬ (-1 ≤ x.Parent) := by omega
        exact ⟨6, by simp only [d1, decide_true, ↓reduceIte], by simp only [d1', decide_false, Bool.false_and, Bool.not_false, ↓reduceIte], by omega⟩
      · have d1' : -1 ≤ x.Parent := by omega
        by_cases d2 : (i : Int) ≤ x.Parent
        · have d2' : ¬ (x.Parent ≤ (i : Int) - 1) := by omega
          exact ⟨6, by simp only [d1, d2, decide_true, decide_false, Bool.false_eq_true, ↓reduceIte], by simp only [d1', d2', decide_true, decide_false, Bool.and_false, Bool.not_false, ↓reduceIte], by omega⟩
        · have d2' : x.Parent ≤ (i : Int) - 1 := by omega
          have hpi : Par t i := fun y hy => by rw [hx] at hy; obtain rfl := Option.some.inj hy; exact ⟨d1', by omega⟩
          obtain ⟨l, pre, y, g1, g2, g3, g4, g5, g6⟩ := attrs_e h148 h101 ht i hi hi2 fun j hj => by
            rcases Nat.lt_or_eq_of_le hj with h | h
            · exact hp j h
            · rw [h]; exact hpi
          rw [hx] at g1; obtain rfl := Option.some.inj g1
          simp only [d1, d2, d1', d2', decide_true, decide_false, Bool.false_eq_true, Bool.and_self, Bool.not_true, ↓reduceIte, g3, g4, Option.bind_some]
          have hle : x.Attrs.length ≤ l.length := by rw [g2]; simp
          have hl5 : l.length ≤ 1073741824 := by omega
          have hw2 : w64 ((l.length : Int) - x.Attrs.length) = ((l.length - x.Attrs.length : Nat) : Int) := by rw [w64_of (by omega) (by omega)]; omega
          simp only [hw2, f116_w l hl5 g6 _ (Nat.sub_le _ _), f68_w l hl5 g6 _ (Nat.sub_le _ _)]
          obtain ⟨v, hv⟩ := attrWalk_d l g6 (l.length - x.Attrs.length)
          simp only [hv]
          by_cases e1 : (4 : Int) < x.Attrs.length
          · exact ⟨3, by simp only [e1, decide_true, ↓reduceIte], by simp only [e1, decide_true, ↓reduceIte], fun _ => hpi⟩
          · by_cases e2 : (8 : Int) < l.length
            · exact ⟨3, by simp only [e1, e2, decide_true, decide_false, Bool.false_eq_true, ↓reduceIte], by simp only [e1, e2, decide_true, decide_false, Bool.false_eq_true, ↓reduceIte], fun _ => hpi⟩
            · exact ⟨v, by simp only [e1, e2, decide_false, Bool.false_eq_true, ↓reduceIte], by simp only [e1, e2, decide_false, Bool.false_eq_true, ↓reduceIte], fun _ => hpi⟩
  · simp only [Bool.not_eq_true] at c1
    exact ⟨2, by simp only [c1, Bool.not_false, ↓reduceIte], by simp only [c1, Bool.not_false, ↓reduceIte], by omega⟩
end
end Go.S
