import Derived.Test.YtjkkigeefoncmaaGreatL6
set_option linter.all false
set_option maxRecDepth 10000
namespace Go.S
open Go Go.Pm

/-! weights -/
theorem f88_e (v : Int) : f88 v = some (decide (v < 0) || decide (1000 < v)) := by unfold f88; by_cases h : v < 0 <;> simp [h]
theorem f31_88_e (s : List Int) (h : s.length ≤ 4000000000) : f31_1_88 s = some (s.any fun v => decide (v < 0) || decide (1000 < v)) := by
  unfold f31_1_88 f49_1_88
  rw [walk_of s (by omega) (fun m i => f49_1_88_l0 s m i) (fun i x k => (f88 x).bind fun b => if b then some (i : Int) else k) (some (-1)) (fun m => by simp [f49_1_88_l0]) (fun m i x hx => by
    have hi : (i : Int) < s.length := by have := (List.getElem?_eq_some_iff.1 hx).1; omega
    simp only [f49_1_88_l0, at_nat, hx, Option.bind_some, hi, decide_true, ↓reduceIte]) (by rw [loopMax_eq]; omega)]
  obtain ⟨r, h1, h2, _⟩ := walk_find f88 (fun v => decide (v < 0) || decide (1000 < v)) s (fun a _ => f88_e a) 0
  rw [h1, Option.bind_some, contains_of h2]
theorem f59_w (s : List Int) (h : s.length ≤ 4000000000) : f59 s s.length = some (!(s.any fun v => decide (v < 0) || decide (1000 < v))) := by
  unfold f59
  have h0 : (!((s.length : Int) == s.length)) = false := by simp
  simp only [h0, Bool.false_eq_true, ↓reduceIte]
  rw [walk_of s (by omega) (fun m i => f59_l0 s s.length m i) (fun i x k => (some (!(decide (x < 0) || decide (1000 < x)))).bind fun b => if (!b) = true then some false else k) (some true) (fun m => by simp [f59_l0]) (fun m i x hx => by
    have hi : (i : Int) < s.length := by have := (List.getElem?_eq_some_iff.1 hx).1; omega
    simp only [f59_l0, at_nat, hx, Option.bind_some, hi, decide_true, ↓reduceIte]
    by_cases c1 : x < 0
    · simp [c1]
    · by_cases c2 : 1000 < x
      · simp [c1, c2]
      · simp [c1, c2]) (by rw [loopMax_eq]; omega)]
  rw [walk_bad (fun x => some (!(decide (x < 0) || decide (1000 < x)))) (fun x => !(decide (x < 0) || decide (1000 < x))) false (some true) s 0 (fun _ _ => rfl)]
  simp only [Bool.not_not]
  by_cases c : (s.any fun v => decide (v < 0) || decide (1000 < v)) = true
  · simp only [c, ↓reduceIte]; rfl
  · simp only [Bool.not_eq_true] at c; simp only [c, Bool.false_eq_true, ↓reduceIte]; rfl
theorem f37_f39_l2 (t : Types) (w : List Int) (g : Graph) : ∀ m s i, f37_l2 t w g.Edges m s i = f39_l2 t.Nodes w g m s i := fun m => by
  induction m with
  | zero => intro s i; rfl
  | succ m ih => intro s i; simp only [f37_l2, f39_l2, ih]
theorem f37_f39_l0 (t : Types) (w : List Int) (g : Graph) : ∀ m s i, f37_l0 t w g m s i = f39_l0 t.Nodes w g m s i := fun m => by
  induction m with
  | zero => intro s i; rfl
  | succ m ih => intro s i; simp only [f37_l0, f39_l0, ih, f37_f39_l2]
theorem f37_d (t : Types) (w : List Int) (g : Graph) (hT : Typed t g) (hw : (w.length : Int) = t.Nodes.length + t.Edges.length) : ∃ v, f37_l0 t w g loopMax 0 0 = some v := by
  have hn := hT.graph.n
  have he := hT.graph.e
  have tn := hT.types.n
  have te := hT.types.e
  have E := up_ind g.Edges.length (by omega) (fun i m k => ∀ s, ∃ v, f37_l2 t w g.Edges m s k = some v) (fun m s => ⟨_, by simp [f37_l2]; rfl⟩) (fun m i hi ih s => by
    have h1 : (i : Int) < g.Edges.length := by omega
    have hx : g.Edges[i]? = some g.Edges[i] := List.getElem?_eq_getElem hi
    have k1 := (hT.graph.edges _ (List.getElem_mem hi)).1
    have k2 := hT.edges _ (List.getElem_mem hi)
    generalize g.Edges[i] = x at hx k1 k2
    have hw1 : w64 ((t.Nodes.length : Int) + x.Type_) = (t.Nodes.length : Int) + x.Type_ := w64_of (by omega) (by omega)
    obtain ⟨y, hy, _⟩ := at_lt (l := w) (i := (t.Nodes.length : Int) + x.Type_) (by omega) (by omega)
    simp only [f37_l2, h1, decide_true, ↓reduceIte, at_nat, hx, Option.bind_some, hw1, hy]
    exact ih _) 0 (Nat.zero_le _) loopMax (by rw [loopMax_eq]; omega)
  exact up_ind g.Nodes.length (by omega) (fun i m k => ∀ s, ∃ v, f37_l0 t w g m s k = some v) (fun m s => by
    have h1 : ¬ ((g.Nodes.length : Int) < g.Nodes.length) := by omega
    simp only [f37_l0, h1, decide_false, Bool.false_eq_true, ↓reduceIte]
    exact E s) (fun m i hi ih s => by
    have h1 : (i : Int) < g.Nodes.length := by omega
    have hx : g.Nodes[i]? = some g.Nodes[i] := List.getElem?_eq_getElem hi
    have k1 := hT.graph.nodes _ (List.getElem_mem hi)
    have k2 := hT.nodes _ (List.getElem_mem hi)
    generalize g.Nodes[i] = x at hx k1 k2
    obtain ⟨y, hy, _⟩ := at_lt (l := w) (i := x) k1 (by omega)
    simp only [f37_l0, h1, decide_true, ↓reduceIte, at_nat, hx, Option.bind_some, hy]
    exact ih _) 0 (Nat.zero_le _) loopMax (by rw [loopMax_eq]; omega) 0
section
variable {R : Recs} (h148 : ∀ a0 a1, R.f148 a0 a1 = f148B R a0 a1) (h101 : ∀ a0 a1, R.f101 a0 a1 = f101B R a0 a1) (h93 : ∀ a0 a1 a2, R.f93 a0 a1 a2 = f93B R a0 a1 a2)
include h148 h101 h93
theorem weight_e {t : Types} {g : Graph} (ht : TypOk t) (hn : g.Nodes.length ≤ 1048576) (he : g.Edges.length ≤ 1048576) (w : List Int) (hw : w.length ≤ 1048576) : ∃ v, f37 R t w g = some v ∧ f39 R t w g = some v := by
  obtain ⟨e, g1, g2, g3⟩ := typed_e h148 h101 h93 ht hn he
  have tn := ht.nlen
  have te := ht.elen
  have hs : w64 ((t.Nodes.length : Int) + t.Edges.length) = (t.Nodes.length : Int) + t.Edges.length := w64_of (by omega) (by omega)
  unfold f37 f39
  simp only [f55_f53, g1, g2, Option.bind_some, hs]
  by_cases he0 : e = 0
  · have e1 : (!(e == 0)) = false := by simp [he0]
    simp only [e1, Bool.false_eq_true, ↓reduceIte]
    by_cases c : (w.length : Int) = (t.Nodes.length : Int) + t.Edges.length
    · have c1 : (!((w.length : Int) == (t.Nodes.length : Int) + t.Edges.length)) = false := by simp [c]
      have hz : f56 w ((t.Nodes.length : Int) + t.Edges.length) = some (!(w.any fun v => decide (v < 0) || decide (1000 < v))) := by
        unfold f56
        have c2 : ((w.length : Int) == (t.Nodes.length : Int) + t.Edges.length) = true := by simp [c]
        simp only [c2, ↓reduceIte, f31_88_e w (by omega), Option.bind_some]
      obtain ⟨v, hv⟩ := f37_d t w g (g3 he0) c
      have hv' : f39_l0 t.Nodes w g loopMax 0 0 = some v := by rw [← f37_f39_l0]; exact hv
      simp only [c1, Bool.false_eq_true, ↓reduceIte, hz, f59_w w (by omega), Option.bind_some, hv, hv']
      cases (w.any fun v => decide (v < 0) || decide (1000 < v)) with
      | true => exact ⟨_, rfl, rfl⟩
      | false => exact ⟨_, rfl, rfl⟩
    · have c1 : (!((w.length : Int) == (t.Nodes.length : Int) + t.Edges.length)) = true := by simp [c]
      simp only [c1, ↓reduceIte]
      exact ⟨_, rfl, rfl⟩
  · have e1 : (!(e == 0)) = true := by simp [he0]
    simp only [e1, ↓reduceIte]
    exact ⟨_, rfl, rfl⟩
end

/-! counts -/
def Counts (l : List Count) (k : Nat) : Prop := l.length ≤ k ∧ ∀ c ∈ l, 1 ≤ c.Number ∧ c.Number ≤ k
theorem f128_d (l : List Int) (h : l.length ≤ 1000) : ∃ v, f128 l = some v := by
  unfold f128
  exact up_ind l.length (by omega) (fun i m k => ∃ v, f128_l0 l m 0 k = some v) (fun m => ⟨0, by simp [f128_l0]⟩) (fun m i hi ih => by
    have h1 : (i : Int) < l.length := by omega
    simp only [f128_l0, h1, decide_true, ↓reduceIte, at_nat, List.getElem?_eq_getElem hi, Option.bind_some]
    split
    · exact ⟨_, rfl⟩
    · exact ih) 0 (Nat.zero_le _) loopMax (by rw [loopMax_eq]; omega)
theorem f85_d (a b : Count) : ∃ v, f85 a b = some v := by
  unfold f85
  obtain ⟨v, hv⟩ := f128_d [w64 (a.Type_ - b.Type_), w64 (a.From - b.From), w64 (a.To - b.To)] (by simp)
  exact ⟨v, by rw [hv]; rfl⟩
theorem half_e (i j : Nat) (h : i + j ≤ 1000000) : w64 (Int.fdiv (Go.IntKind.wrap Go.IntKind.u64 (w64 ((i : Int) + (j : Int)))) ((2 : Int) ^ (Min.min (Int.toNat (1 : Int)) (Go.IntKind.bits Go.IntKind.u64)))) = (((i + j) / 2 : Nat) : Int) := by
  have h1 : w64 ((i : Int) + j) = (i : Int) + j := w64_of (by omega) (by omega)
  have h2 : Go.IntKind.wrap Go.IntKind.u64 ((i : Int) + j) = (i : Int) + j := by
    have : (0 : Int) ≤ (i : Int) + j ∧ (i : Int) + j < 18446744073709551616 := by omega
    simp [Go.IntKind.wrap, Go.IntKind.bits, Go.IntKind.signed]
    omega
  have h3 : ((2 : Int) ^ (Min.min (Int.toNat (1 : Int)) (Go.IntKind.bits Go.IntKind.u64))) = 2 := by decide
  rw [h1, h2, h3]
  have h4 : Int.fdiv ((i : Int) + j) 2 = (((i + j) / 2 : Nat) : Int) := by
    rw [Int.fdiv_eq_ediv_of_nonneg _ (by omega)]; omega
  rw [h4]
  exact w64_nat (by omega)
theorem search_d (l : List Count) (x : Count) (hl : l.length ≤ 1000) : ∃ (i : Nat) (b : Bool), f84_2_85 l x = some ((i : Int), b) ∧ i ≤ l.length ∧ (b = true → i < l.length) := by
  unfold f84_2_85
  have key : ∀ (d m i j : Nat), j - i ≤ d → d < m → i ≤ j → j ≤ l.length → ∃ (r : Nat) (b : Bool), f84_2_85_l0 l x m (i : Int) (j : Int) = some ((r : Int), b) ∧ r ≤ l.length ∧ (b = true → r < l.length) := by
    intro d
    induction d with
    | zero =>
      intro m i j h1 h2 h3 h4
      cases m with
      | zero => omega
      | succ m =>
        have c : ¬ ((i : Int) < j) := by omega
        simp only [f84_2_85_l0, c, decide_false, Bool.false_eq_true, ↓reduceIte]
        by_cases c2 : (i : Int) < l.length
        · obtain ⟨y, hy, _⟩ := at_lt (l := l) (i := (i : Int)) (by omega) c2
          obtain ⟨v, hv⟩ := f85_d y x
          simp only [c2, decide_true, ↓reduceIte, hy, hv, Option.bind_some]
          exact ⟨i, _, rfl, by omega, fun _ => by omega⟩
        · simp only [c2, decide_false, Bool.false_eq_true, ↓reduceIte]
          exact ⟨i, false, rfl, by omega, fun h => by cases h⟩
    | succ d ih =>
      intro m i j h1 h2 h3 h4
      cases m with
      | zero => omega
      | succ m =>
        by_cases c : (i : Int) < j
        · have h0 : (0 : Int) ≤ 1 := by omega
          obtain ⟨y, hy, _⟩ := at_lt (l := l) (i := (((i + j) / 2 : Nat) : Int)) (by omega) (by omega)
          obtain ⟨v, hv⟩ := f85_d y x
          simp only [f84_2_85_l0, c, h0, decide_true, ↓reduceIte, half_e i j (by omega), hy, hv, Option.bind_some, w64_succ (show (i + j) / 2 < 4611686018427387904 by omega)]
          split
          · exact ih m ((i + j) / 2 + 1) j (by omega) (by omega) (by omega) h4
          · exact ih m i ((i + j) / 2) (by omega) (by omega) (by omega) (by omega)
        · simp only [f84_2_85_l0, c, decide_false, Bool.false_eq_true, ↓reduceIte]
          by_cases c2 : (i : Int) < l.length
          · obtain ⟨y, hy, _⟩ := at_lt (l := l) (i := (i : Int)) (by omega) c2
            obtain ⟨v, hv⟩ := f85_d y x
            simp only [c2, decide_true, ↓reduceIte, hy, hv, Option.bind_some]
            exact ⟨i, _, rfl, by omega, fun _ => by omega⟩
          · simp only [c2, decide_false, Bool.false_eq_true, ↓reduceIte]
            exact ⟨i, false, rfl, by omega, fun h => by cases h⟩
  exact key l.length loopMax 0 l.length (by omega) (by rw [loopMax_eq]; omega) (by omega) (Nat.le_refl _)
theorem counted_d (l : List Count) (x : Count) (k : Nat) (h : Counts l k) (hk : k ≤ 500) (hx : x.Number = 1) : ∃ l', f54 l x = some l' ∧ Counts l' (k + 1) := by
  obtain ⟨h1, h2⟩ := h
  unfold f54 f83 cloneL
  have hb : l.length ≤ bound := by unfold bound; omega
  obtain ⟨i, b, g1, g2, g3⟩ := search_d l x (by omega)
  simp only [hb, ↓reduceIte, Option.bind_some, g1]
  cases b with
  | false =>
    have c1 : (0 : Int) ≤ i ∧ (i : Int) ≤ l.length ∧ 0 < [x].length ∧ l.length + [x].length ≤ bound := by unfold bound; simp; omega
    simp only [Bool.not_false, ↓reduceIte, f86_r0, insertL, c1, and_self, decide_true, Option.map_some, Option.bind_some, Int.toNat_natCast]
    refine ⟨_, rfl, by simp; omega, fun c hc => ?_⟩
    simp only [List.append_assoc, List.mem_append, List.mem_singleton] at hc
    rcases hc with hc | rfl | hc
    · have := h2 c (List.mem_of_mem_take hc); omega
    · omega
    · have := h2 c (List.mem_of_mem_drop hc); omega
  | true =>
    have hi := g3 rfl
    have c1 : (0 : Int) ≤ i := by omega
    have c2 : (i : Int) < l.length := by omega
    have hy := h2 _ (List.getElem_mem hi)
    simp only [Bool.not_true, Bool.false_eq_true, ↓reduceIte, c1, c2, decide_true, Bool.and_self, Int.toNat_natCast, List.getElem?_eq_getElem hi, Option.bind_some]
    generalize l[i] = y at hy
    have hw : w64 (y.Number + x.Number) = y.Number + 1 := by rw [hx]; exact w64_of (by omega) (by omega)
    have hz : (y.Number + 1 == 0) = false := by simp; omega
    simp only [hw, hz, Bool.false_eq_true, ↓reduceIte]
    refine ⟨_, rfl, by simp; omega, fun c hc => ?_⟩
    rcases List.mem_or_eq_of_mem_set hc with hc | rfl
    · have := h2 c hc; omega
    · show 1 ≤ y.Number + 1 ∧ y.Number + 1 ≤ _
      omega
end Go.S
