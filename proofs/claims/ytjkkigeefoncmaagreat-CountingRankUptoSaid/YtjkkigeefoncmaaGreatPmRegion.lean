/-
  A region: its operations in the text's order, or in whatever order.
-/
import Derived.Test.YtjkkigeefoncmaaGreatPmCall
set_option linter.unusedVariables false
set_option linter.unusedSimpArgs false
namespace Go.Pm
open Go

section
variable {P : Program} {w w' : World} {B B' : Nat → Prop} {β β' : Map} {rd rd' : Rd} {tm tm' : List PV} {a : Act}

/-! ### slots -/
theorem nth_put : ∀ {l : List PV} {i j : Nat} {v : PV}, nth (put l i v) j = if j = i ∧ i < l.length then v else nth l j
  | [], i, j, v => by simp [put, nth]
  | x :: r, 0, 0, v => by simp [put, nth]
  | x :: r, 0, j + 1, v => by simp [put, nth]
  | x :: r, i + 1, 0, v => by simp [put, nth]
  | x :: r, i + 1, j + 1, v => by simp only [put, nth]; rw [nth_put]; simp
theorem put_length : ∀ {l : List PV} {i : Nat} {v : PV}, (put l i v).length = l.length
  | [], i, v => rfl
  | x :: r, 0, v => rfl
  | x :: r, i + 1, v => by simp [put, put_length]
theorem nth_none : ∀ {l : List PV} {i : Nat}, l.length ≤ i → nth l i = .undef
  | [], i, _ => rfl
  | x :: r, 0, h => by simp at h
  | x :: r, i + 1, h => by simp [nth]; exact nth_none (by simpa using h)
theorem nth_eq {l : List PV} {i : Nat} : nth l i = (l[i]?).getD .undef := by
  rcases Nat.lt_or_ge i l.length with h | h
  · rw [List.getElem?_eq_getElem h]; exact nth_get (List.getElem?_eq_getElem h)
  · rw [nth_none h, List.getElem?_eq_none h]; rfl

theorem TmRel.step (hs : Sim w B β rd) (ha : TmRel w B β tm a) (h : Step w B β rd w' B' β' rd') : TmRel w' B' β' tm a :=
  ⟨ha.len, fun t => h.keep hs (ha.val t), ha.def0⟩

theorem TmRel.put (ha : TmRel w B β tm a) {d : Option Nat} {p : PV} {v : Value} (h : V w B β p v) : TmRel w B β (putD tm d p) (a.put d v) := by
  cases d with
  | none => exact ha
  | some d =>
    refine ⟨by simp [putD, put_length, Act.put, ha.len], fun t => ?_, ha.def0⟩
    simp only [putD, nth_put, Act.put]
    split
    · rename_i hc
      obtain ⟨rfl, hlt⟩ := hc
      have : t < a.tmps.size := ha.len ▸ hlt
      simp [this]; exact h
    · rename_i hc
      by_cases htd : t = d
      · subst htd
        have h1 : ¬ t < a.tmps.size := fun h' => hc ⟨rfl, ha.len ▸ h'⟩
        have := ha.val t
        simp [Array.getElem?_setIfInBounds, h1] at this ⊢
        simpa [h1] using this
      · have := ha.val t
        simpa [Array.getElem?_setIfInBounds_ne (Ne.symm htd)] using this

/-! ### a guard -/
theorem guard_ok {ops : Array Oper} (ha : TmRel w B β tm a) {o : Oper} {g : Bool} (h : guardOf ops.toList tm o = some g) : Region.wanted o (yielded ops a.tmps) = g := by
  unfold guardOf at h
  unfold Region.wanted
  split at h
  · rename_i hg; simp at h; subst h; simp [hg]
  · rename_i j want hg
    simp only [hg]
    split at h
    · rename_i d hd
      have hd' : (ops[j]?).bind (·.dst) = some d := by simpa using hd
      have hv := ha.val d
      unfold yielded
      rw [hd']
      simp only [Option.bind_some]
      split at h
      · rename_i b hb
        simp at h; subst h
        rw [hb] at hv
        have := hv.bool_inv
        have hx : a.tmps[d]? = some (.bool b) := by
          rcases Nat.lt_or_ge d a.tmps.size with h1 | h1
          · simpa [h1] using this
          · simp [h1, Go.undef] at this
        rw [hx]
        cases b <;> cases want <;> rfl
      · rename_i hb
        simp at h; subst h
        rw [hb] at hv
        generalize hz : a.tmps.getD d Go.undef = z at hv
        cases hv
        have hx : ∀ b, a.tmps[d]? ≠ some (.bool b) := fun b hb' => by
          simp [hb', Go.undef] at hz
        split
        · rename_i b hb'; exact absurd hb' (hx b)
        · rfl
      · simp at h
    · simp at h

theorem guard_same {os : List Oper} {o : Oper} (h : ∀ g w d, o.guard = some (g, w) → (os[g]?).bind (·.dst) = some d → nth tm' d = nth tm d) : guardOf os tm' o = guardOf os tm o := by
  unfold guardOf
  split
  · rfl
  · rename_i j want hg
    split
    · rename_i d hd; rw [h j want d hg hd]
    · rfl

/-! ### one operation of a region -/
theorem step_foot {E : Env} {C : Callee} (hC : IdsOK C) {os : List Oper} {nid : Nat} {o : Oper} {e : Eff} (h : stepOp E C os rd nid tm o = some e) :
    UpdOK rd nid e ∧ (Same rd rd' e.foot → (∀ x ∈ o.op.operands, OpndSame tm tm' x) → (∀ g w d, o.guard = some (g, w) → (os[g]?).bind (·.dst) = some d → nth tm' d = nth tm d) → stepOp E C os rd' nid tm' o = some e) := by
  unfold stepOp at h ⊢
  split at h
  · rename_i hg
    obtain ⟨h1, h2⟩ := op_foot (rd' := rd') (tm' := tm') hC h
    exact ⟨h1, fun hs ht hgd => by rw [guard_same hgd, hg]; exact h2 hs ht⟩
  · rename_i hg
    simp at h; subst h
    exact ⟨.none rfl, fun hs ht hgd => by rw [guard_same hgd, hg]⟩
  · simp at h

theorem step_ok {E : Env} {C : Callee} (hT : TabOK P E.tab) (hC : CalleeOK P E.resK C) (hs : Sim w B β rd) (ha : TmRel w B β tm a) {nid : Nat} (hn : Fresh β rd nid) {ops : Array Oper} {i : Nat} {o : Oper} (ho : ops[i]? = some o) {e : Eff}
    (h : stepOp E C ops.toList rd nid tm o = some e)
    {K : Act → World → Prop} {Q : Exit → Act → World → Prop} (hK : ∀ v w' B' β', Did w B β rd nid e w' B' β' v → K (a.put o.dst v) w') : wpOp P ops Q i K a w := by
  unfold wpOp
  simp only [ho]
  unfold stepOp at h
  split at h
  · rename_i hg
    rw [guard_ok ha hg]
    simp only [↓reduceIte]
    exact .inl (op_ok hT hC hs ha hn h hK)
  · rename_i hg
    rw [guard_ok ha hg]
    simp at h; subst h
    simp only [Bool.false_eq_true, ↓reduceIte]
    exact hK _ w B β ⟨.refl hs, .void, fun _ _ _ => rfl⟩
  · simp at h

theorem upd_fresh {nid : Nat} {e : Eff} (h : UpdOK rd nid e) {b : Nat} (hb : rd b = none) (hr : b < nid ∨ nid + 64 ≤ b) : rdU rd e.upd b = none := by
  have : ∀ (u : Upd) (rd0 : Rd), (∀ x ∈ u, (nid ≤ x.1 ∧ x.1 < nid + 64) ∨ (x.1 ∈ e.foot ∧ (rd x.1 = none → x.2 = none))) → rd0 b = none → rdU rd0 u b = none := by
    intro u
    induction u with
    | nil => intro rd0 _ h; exact h
    | cons x u ih =>
      intro rd0 hu h0
      obtain ⟨c, q⟩ := x
      simp only [rdU]
      refine ih _ (fun x hx => hu x (List.mem_cons_of_mem _ hx)) ?_
      unfold setR
      split
      · rename_i hbc
        subst hbc
        rcases hu _ List.mem_cons_self with h1 | h1
        · simp at h1; omega
        · exact h1.2 hb
      · exact h0
  exact this e.upd rd h hb

theorem look_setObj : ∀ (h : List (Nat × PObj)) (a : Nat) (o : PObj), look (setObj h a o) = setR (look h) a (some o)
  | [], a, o => by
    funext x
    simp only [setObj, look, setR]
    by_cases hx : x = a
    · simp [hx]
    · simp [hx]
  | (b, p) :: r, a, o => by
    funext x
    simp only [setObj]
    by_cases hab : a = b
    · subst hab
      simp only [beq_self_eq_true, ↓reduceIte, look, setR]
      by_cases hx : x = a
      · simp [hx]
      · simp [hx]
    · have hab' : (a == b) = false := by simpa using hab
      simp only [hab', Bool.false_eq_true, ↓reduceIte, look]
      rw [look_setObj r a o]
      simp only [setR]
      by_cases hx : x = b
      · subst hx
        have : x ≠ a := fun h => hab h.symm
        simp [this]
      · simp [hx]

theorem look_delObj : ∀ (h : List (Nat × PObj)) (a : Nat), look (delObj h a) = setR (look h) a none
  | [], a => by funext x; simp [delObj, look, setR]
  | (b, p) :: r, a => by
    funext x
    simp only [delObj]
    by_cases hab : a = b
    · subst hab
      simp only [beq_self_eq_true, ↓reduceIte]
      rw [look_delObj r a]
      simp only [setR, look]
      by_cases hx : x = a
      · simp [hx]
      · simp [hx]
    · have hab' : (a == b) = false := by simpa using hab
      simp only [hab', Bool.false_eq_true, ↓reduceIte, look]
      rw [look_delObj r a]
      simp only [setR]
      by_cases hx : x = b
      · subst hx
        have : x ≠ a := fun h => hab h.symm
        simp [this]
      · simp [hx]

theorem look_applyUpd : ∀ (u : Upd) (h : List (Nat × PObj)), look (applyUpd h u) = rdU (look h) u
  | [], h => rfl
  | (a, some o) :: r, h => by simp only [applyUpd, rdU]; rw [look_applyUpd r, look_setObj]
  | (a, none) :: r, h => by simp only [applyUpd, rdU]; rw [look_applyUpd r, look_delObj]

/-- How things stand between operations. -/
structure Stand (w0 : World) (B0 : Nat → Prop) (β0 : Map) (rd0 : Rd) (w : World) (B : Nat → Prop) (β : Map) (rd : Rd) (tm : List PV) (a : Act) (nx : Nat) : Prop where
  step : Step w0 B0 β0 rd0 w B β rd
  tms : TmRel w B β tm a
  free : ∀ b, nx ≤ b → β b = none ∧ rd b = none

theorem Stand.next {w0 : World} {B0 : Nat → Prop} {β0 : Map} {rd0 : Rd} {nx : Nat} (h : Stand w0 B0 β0 rd0 w B β rd tm a nx) {e : Eff} {d : Option Nat} {v : Value} (hd : Did w B β rd nx e w' B' β' v) (hu : UpdOK rd nx e) :
    Stand w0 B0 β0 rd0 w' B' β' (rdU rd e.upd) (putD tm d e.val) (a.put d v) (nx + 64) :=
  ⟨h.step.trans hd.step, ((h.tms.step h.step.sim hd.step)).put hd.val, fun b hb => ⟨by rw [hd.frame b (h.free b (by omega)).2 (.inr hb)]; exact (h.free b (by omega)).1, upd_fresh hu (h.free b (by omega)).2 (.inr hb)⟩⟩

theorem seq_ok {E : Env} {C : Callee} (hT : TabOK P E.tab) (hC : CalleeOK P E.resK C) {ops : Array Oper} {Q : Exit → Act → World → Prop} {w0 : World} {B0 : Nat → Prop} {β0 : Map} {rd0 : Rd} {tm1 : List PV} {h1 : List (Nat × PObj)} :
    ∀ (rest : List Oper) (k nx : Nat) (tm : List PV) (h : List (Nat × PObj)) (es : List Eff) (w : World) (B : Nat → Prop) (β : Map) (a : Act), (∀ i o, rest[i]? = some o → ops[k + i]? = some o) → evOps E C ops.toList rest nx tm h = some (tm1, h1, es) →
      Stand w0 B0 β0 rd0 w B β (look h) tm a nx → (∀ w' B' β' a', Stand w0 B0 β0 rd0 w' B' β' (look h1) tm1 a' (nx + 64 * rest.length) → Q .normal a' w') → wpOps P ops Q (List.range' k rest.length) a w
  | [], k, nx, tm, h, es, w, B, β, a, _, he, hst, hQ => by
    simp [evOps] at he; obtain ⟨rfl, rfl, rfl⟩ := he
    simp only [List.length_nil, List.range'_zero, wpOps]
    exact hQ w B β a (by simpa using hst)
  | o :: r, k, nx, tm, h, es, w, B, β, a, hops, he, hst, hQ => by
    simp only [evOps] at he
    split at he
    · rename_i e heq
      split at he
      · rename_i tm' h' es' hr
        simp at he; obtain ⟨rfl, rfl, rfl⟩ := he
        have ho : ops[k]? = some o := by have := hops 0 o rfl; simpa using this
        rw [List.length_cons, List.range'_succ, wpOps_cons]
        have hfr : Fresh β (look h) nx := fun b h1 _ => hst.free b h1
        refine step_ok hT hC hst.step.sim hst.tms hfr ho heq fun v w' B' β' hd => ?_
        have hu := (step_foot (rd' := look h) (tm' := tm) hC.ids heq).1
        have hst' := hst.next (d := o.dst) hd hu
        rw [← look_applyUpd] at hst'
        refine seq_ok hT hC r (k + 1) (nx + 64) _ _ _ w' B' β' _ (fun i o' hi => ?_) hr hst' fun w'' B'' β'' a'' hs => hQ w'' B'' β'' a'' ?_
        · have := hops (i + 1) o' (by simpa using hi); rw [← this]; congr 1; omega
        · have : nx + 64 + 64 * r.length = nx + 64 * (o :: r).length := by simp; omega
          rw [← this]; exact hs
      · simp at he
    · simp at he
end
end Go.Pm
