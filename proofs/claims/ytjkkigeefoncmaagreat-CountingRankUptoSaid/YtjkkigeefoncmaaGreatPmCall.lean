/-
  A call: what the machine does is what the evaluator says.
-/
import Derived.Test.YtjkkigeefoncmaaGreatPmCallFoot
set_option linter.unusedVariables false
set_option linter.unusedSimpArgs false
namespace Go.Pm
open Go

section
variable {P : Program} {w w' : World} {B B' : Nat → Prop} {β β' : Map} {rd rd' : Rd} {tm : List PV} {a : Act}

/-- What an operation has done. -/
structure Did (w : World) (B : Nat → Prop) (β : Map) (rd : Rd) (nid : Nat) (e : Eff) (w' : World) (B' : Nat → Prop) (β' : Map) (v : Value) : Prop where
  step : Step w B β rd w' B' β' (rdU rd e.upd)
  val : V w' B' β' e.val v
  frame : ∀ b, rd b = none → (b < nid ∨ nid + 64 ≤ b) → β' b = β b

def Fresh (β : Map) (rd : Rd) (nid : Nat) : Prop := ∀ b, nid ≤ b → b < nid + 64 → β b = none ∧ rd b = none

def Callable (P : Program) (f : Nat) : Prop := ∃ fn, P.funcs[f]? = some fn ∧ (fn.name == "runtime.NumGoroutine") = false ∧ fn.body.isNone = false

structure PureOK (P : Program) (resK : Nat → List (Option Nat)) (C : Callee) : Prop where
  callable : ∀ f as r, C.pureC f as = some r → Callable P f
  calls : ∀ f as r, C.pureC f as = some r → ∀ (w : World) (B : Nat → Prop) (vs : Array Value), (∀ b, B b → b < w.heap.size) → Vs w B (fun _ => none) as vs.toList →
    Calls P f vs w (fun en w' => ∃ v, en = .returned v ∧ Ext (fun _ => False) w w' ∧ ∃ Bc bs, (∀ b, B b → Bc b) ∧ (∀ b, Bc b → B b ∨ w.heap.size ≤ b) ∧ (∀ b, Bc b → b < w'.heap.size) ∧ (∀ b ∈ bs, ¬ Bc b) ∧ RR w' Bc w.heap.size r (resK f) v bs)

structure RefOK (P : Program) (C : Callee) : Prop where
  callable : ∀ f r args h next v h' nx, C.refC f r args h next = some (v, h', nx) → Callable P f
  calls : ∀ f r args h next v h' nx, C.refC f r args h next = some (v, h', nx) → ∀ (w : World) (B : Nat → Prop) (β : Map) (vs : Array Value), Sim w B β (look h) → Vs w B β args vs.toList →
    (∀ b, next ≤ b → β b = none ∧ look h b = none) → r ≤ next →
    Calls P f vs w (fun en w' => ∃ u B' β', en = .returned u ∧ StepR r w B β (look h) w' B' β' (look h') ∧ V w' B' β' v u ∧ ∀ b, nx ≤ b → β' b = none ∧ look h' b = none)

structure CalleeOK (P : Program) (resK : Nat → List (Option Nat)) (C : Callee) : Prop where
  pur : PureOK P resK C
  ref : RefOK P C
  ids : IdsOK C

theorem isArr_some {a : Nat} (h : isArr rd a = true) : ∃ k xs fl z, rd a = some (.arr k xs fl z) := by
  unfold isArr at h
  split at h
  · rename_i k xs fl z ha; exact ⟨k, xs, fl, z, ha⟩
  · simp at h

/-- The places that a list of changes names come to what it says; the others stay. -/
theorem rdU_not_in : ∀ {u : Upd} {rd : Rd} {a : Nat}, a ∉ u.map (·.1) → rdU rd u a = rd a
  | [], rd, a, _ => rfl
  | (b, o) :: u, rd, a, h => by
    simp only [List.map_cons, List.mem_cons, not_or] at h
    simp only [rdU]
    rw [rdU_not_in h.2]
    simp [setR, h.1]

theorem freezes_dom {l : List Nat} {a : Nat} : (rdU rd (freezes rd l) a = none) ↔ rd a = none := by
  by_cases h : a ∈ (freezes rd l).map (·.1)
  · have h1 : ∃ o, rd a = some o := by
      simp only [List.mem_map] at h
      obtain ⟨x, hx, rfl⟩ := h
      exact (freezes_in hx).2.1
    obtain ⟨o, ho⟩ := h1
    refine ⟨fun hn => ?_, fun hn => by rw [hn] at ho; simp at ho⟩
    have : ∀ {u : Upd} {rd : Rd}, Adds u → (∃ o, rd a = some o) → ∃ o, rdU rd u a = some o := by
      intro u
      induction u with
      | nil => intro rd _ h; exact h
      | cons x u ih =>
        intro rd hu hr
        obtain ⟨b, q⟩ := x
        obtain ⟨o', ho'⟩ := hu _ List.mem_cons_self
        simp at ho'; subst ho'
        simp only [rdU]
        refine ih (fun x hx => hu x (List.mem_cons_of_mem _ hx)) ?_
        unfold setR
        split
        · exact ⟨_, rfl⟩
        · exact hr
    obtain ⟨o', ho'⟩ := this (u := freezes rd l) (rd := rd) (fun x hx => (freezes_in hx).2.2) ⟨o, ho⟩
    rw [hn] at ho'; simp at ho'
  · rw [rdU_not_in h]

theorem pure_ok {E : Env} {C : Callee} (hC : CalleeOK P E.resK C) (hs : Sim w B β rd) {nid f : Nat} {args : List PV} {vs : Array Value} (hv : Vs w B β args vs.toList) (hn : Fresh β rd nid)
    (hf : E.isRef f = false) {e : Eff} (h : evCall E C rd nid f args = some e) :
    Callable P f ∧ Calls P f vs w (fun en w' => ∃ v B' β', en = .returned v ∧ Did w B β rd nid e w' B' β' v) := by
  unfold evCall at h
  simp only [hf, Bool.false_eq_true, ↓reduceIte] at h
  split at h
  · rename_i as foot hsn
    split at h
    · rename_i r hr
      split at h
      · rename_i q u sh j hi
        split at h
        · rename_i hcond
          simp at h; subst h
          simp only [Bool.and_eq_true, decide_eq_true_eq, Bool.or_eq_true, Bool.not_eq_true', List.all_eq_true] at hcond
          obtain ⟨hj, hshf⟩ := hcond
          obtain ⟨s1, s2⟩ := (snap_ok hs (E.keepNil f) snapFuel).2 args as foot vs.toList hsn hv
          refine ⟨hC.pur.callable f as r hr, ?_⟩
          let B2 : Nat → Prop := fun b => B b ∨ ∃ a ∈ foot, ∃ m, β a = some m ∧ m.block = b
          have hB2 : ∀ b, B2 b → b < w.heap.size := by
            rintro b (hb | ⟨a, ha, m, hm, rfl⟩)
            · exact hs.lt b hb
            · obtain ⟨o, ho⟩ := s1 a ha
              exact hs.block_lt ho hm
          refine Calls.mono (hC.pur.calls f as r hr w B2 vs hB2 (s2 B2 (fun b hb => .inl hb) fun a ha m hm => .inr ⟨a, ha, m, hm, rfl⟩)) ?_
          rintro en w' ⟨v, rfl, ext, Bc, bs, b1, b2, b3, b4, hrr⟩
          -- the rows that became data
          obtain ⟨B1, st1, hsh1⟩ : ∃ B1, Step w B β rd w B1 β (rdU rd (if sh then freezes rd (dedup foot []) else [])) ∧ (sh = true → ∀ b, B2 b → B1 b) := by
            cases sh with
            | false => exact ⟨B, .refl hs, fun h => by cases h⟩
            | true =>
              simp at hshf
              obtain ⟨B1, st, hB1⟩ := freezes_ok (dedup foot []) hs fun b hb => isArr_some (hshf b (by simpa using ((dedup_ok (l := foot) (acc := []) (by simp)).2.1 b).1 hb))
              refine ⟨B1, by simpa using st, fun _ b hb => ?_⟩
              rcases hb with hb | ⟨a, ha, m, hm, rfl⟩
              · exact st.bsub b hb
              · exact hB1 a (by simpa using ((dedup_ok (l := foot) (acc := []) (by simp)).2.1 a).2 (.inr ha)) m hm
          generalize hrd1 : rdU rd (if sh then freezes rd (dedup foot []) else []) = rd1 at st1
          let B' : Nat → Prop := fun b => B1 b ∨ (sh = true ∧ Bc b)
          have hrow : ∀ b ∈ bs, w.heap.size ≤ b := by
            have hRC : ∀ {p key v bs}, RC w' Bc w.heap.size p key v bs → ∀ b ∈ bs, w.heap.size ≤ b := fun h b hb => by
              cases h <;> simp at hb
              subst hb; assumption
            have hRCs : ∀ {ps ks vs bs}, RCs w' Bc w.heap.size ps ks vs bs → ∀ b ∈ bs, w.heap.size ≤ b := fun h => by
              induction h with
              | nil => simp
              | cons p r ks v vs bs bs' h hr hd ih => intro b hb; exact (List.mem_append.1 hb).elim (hRC h b) (ih b)
            have hRV : ∀ {p ks v ks' bs}, RV w' Bc w.heap.size p ks v ks' bs → ∀ b ∈ bs, w.heap.size ≤ b := fun h => by
              cases h with
              | agg cs ks vs bs h ho => exact hRCs h
              | one p ks v bs hp h => exact hRC h
            have hRVs : ∀ {ps ks vs bs}, RVs w' Bc w.heap.size ps ks vs bs → ∀ b ∈ bs, w.heap.size ≤ b := fun h => by
              induction h with
              | nil => simp
              | cons p r ks ks' v vs bs bs' h hr hd ih => intro b hb; exact (List.mem_append.1 hb).elim (hRV h b) (ih b)
            cases hrr with
            | tup cs ks vs bs h => exact hRVs h
            | one p ks ks' v bs hp h => exact hRV h
          have hB1lt : ∀ b, B1 b → b < w.heap.size := st1.sim.lt
          have hB'lt : ∀ b, B' b → b < w'.heap.size := by
            rintro b (hb | ⟨_, hb⟩)
            · exact Nat.lt_of_lt_of_le (hB1lt b hb) ext.size
            · exact b3 b hb
          have hB'new : ∀ b, B' b → B1 b ∨ w.heap.size ≤ b := by
            rintro b (hb | ⟨h1, hb⟩)
            · exact .inl hb
            · rcases b2 b hb with h2 | h2
              · exact .inl (hsh1 h1 b h2)
              · exact .inr h2
          have imp := importR_ok hrr hi B' (fun h1 b hb => .inr ⟨h1, hb⟩) (fun b hb => by
            rintro (h1 | ⟨_, h1⟩)
            · have := hB1lt b h1; have := hrow b hb; omega
            · exact b4 b hb h1) hB'lt
          obtain ⟨⟨β1, isle, hval⟩, hadds, hrng, hnod⟩ := imp
          simp only [Nat.add_zero] at isle hrng
          -- the caller's heap in the new world
          have hin : ∀ b, In β rd1 b → b < w.heap.size := by
            rintro b ⟨a, o, l, h1, h2, rfl⟩; exact st1.sim.block_lt h1 h2
          have sim1 : Sim w' B' β rd1 := st1.sim.grow (fun b hb => .inl hb) (fun b hb => ext.block b (hb.elim (hB1lt b) (hin b)) (fun h => h)) ext.room hB'lt (fun b hb => by
            rcases hB'new b hb with h1 | h1
            · exact .inl h1
            · exact .inr fun h2 => by have := hin b h2; omega)
          have hdom : ∀ a, rd1 a = none ↔ rd a = none := fun a => by
            rw [← hrd1]
            cases sh with
            | false => simp [rdU]
            | true => simpa using freezes_dom
          let βn : Map := joinM β β1
          have hβ0 : ∀ b l, β1 b = some l → β b = none ∧ rd1 b = none := fun b l hl => by
            have := isle.dom b l hl
            have hf := hn b this.1 (by omega)
            exact ⟨hf.1, (hdom b).2 hf.2⟩
          have m1 : ∀ b l, β b = some l → βn b = some l := fun b l hl => by simp [βn, joinM, hl]
          have m2 : ∀ b l, β1 b = some l → βn b = some l := fun b l hl => by simp [βn, joinM, (hβ0 b l hl).1, hl]
          have hrd : rdU rd ((if sh then freezes rd (dedup foot []) else []) ++ u) = joinR (rdU (fun _ => none) u) rd1 := by
            funext b
            rw [rdU_append, hrd1]
            exact rdU_adds hadds (fun x hx => (hdom _).2 (hn x.1 (hrng x hx).1 (by have := (hrng x hx).2; omega)).2) hnod b
          have simn : Sim w' B' βn (joinR (rdU (fun _ => none) u) rd1) := by
            refine Sim.union (sim1.remap m1 fun b o hb => ?_) (isle.sim.remap m2 fun b o hb => ?_) (fun b o hb => ?_) (fun b c o p l m hb hc hl hm => ?_)
            · show βn b = β b
              unfold βn joinM
              cases hx : β b with
              | some l => rfl
              | none =>
                cases hy : β1 b with
                | none => rfl
                | some l => have := (hβ0 b l hy).2; rw [hb] at this; simp at this
            · show βn b = β1 b
              have := isle.ids b o hb
              have hf := hn b this.1 (by omega)
              simp [βn, joinM, hf.1]
            · unfold joinR at hb
              split at hb
              · rename_i q hq; simp at hb; subst hb; exact .inr hq
              · exact .inl hb
            · have h1 : l.block < w.heap.size := by
                have hb' : β b = some l := by
                  cases hx : β b with
                  | some l' => have := m1 b l' hx; rw [hl] at this; simp at this; rw [this]
                  | none =>
                    have hl' : β1 b = some l := by simpa [βn, joinM, hx] using hl
                    have := (hβ0 b l hl').2; rw [hb] at this; simp at this
                exact hin _ ⟨b, o, l, hb, hb', rfl⟩
              have h2 : w.heap.size ≤ m.block := by
                have := isle.ids c p hc
                have hf := hn c this.1 (by omega)
                have hc' : β1 c = some m := by simpa [βn, joinM, hf.1] using hm
                exact hrow _ (isle.dom c m hc').2.2
              omega
          refine ⟨v, B', βn, rfl, ⟨?_, hval.remap m2, fun b hb hr => ?_⟩⟩
          · refine ⟨by rw [hrd]; exact simn, ext.mono (fun b hb => hb.elim), fun b hb => .inl (st1.bsub b hb), fun b hb => ?_, fun b hb => ?_, fun b hb => ?_, m1⟩
            · rcases hB'new b hb with h1 | h1
              · exact st1.bnew b h1
              · exact .inr (.inr h1)
            · rw [hrd] at hb
              obtain ⟨c, o, l, h1, h2, h3, h4⟩ := hb
              unfold joinR at h1
              split at h1
              · rename_i q hq
                simp at h1; subst h1
                have := isle.ids c q hq
                have hf := hn c this.1 (by omega)
                have hc' : β1 c = some l := by simpa [βn, joinM, hf.1] using h3
                exact .inr (h4 ▸ hrow _ (isle.dom c l hc').2.2)
              · have hc' : β c = some l := by
                  cases hx : β c with
                  | some l' => have := m1 c l' hx; rw [h3] at this; simp at this; rw [this]
                  | none =>
                    have hl' : β1 c = some l := by simpa [βn, joinM, hx] using h3
                    have := (hβ0 c l hl').2; rw [h1] at this; simp at this
                rcases st1.muts b ⟨c, o, l, h1, h2, hc', h4⟩ with h5 | h5
                · exact .inl h5
                · exact .inr h5
            · rw [hrd] at hb
              obtain ⟨c, o, l, h1, h3, h4⟩ := hb
              unfold joinR at h1
              split at h1
              · rename_i q hq
                simp at h1; subst h1
                have := isle.ids c q hq
                have hf := hn c this.1 (by omega)
                have hc' : β1 c = some l := by simpa [βn, joinM, hf.1] using h3
                exact .inr (h4 ▸ hrow _ (isle.dom c l hc').2.2)
              · have hc' : β c = some l := by
                  cases hx : β c with
                  | some l' => have := m1 c l' hx; rw [h3] at this; simp at this; rw [this]
                  | none =>
                    have hl' : β1 c = some l := by simpa [βn, joinM, hx] using h3
                    have := (hβ0 c l hl').2; rw [h1] at this; simp at this
                rcases st1.ins b ⟨c, o, l, h1, hc', h4⟩ with h5 | h5
                · exact .inl h5
                · exact .inr h5
          · show βn b = β b
            unfold βn joinM
            cases hx : β b with
            | some l => rfl
            | none =>
              cases hy : β1 b with
              | none => rfl
              | some l => have := isle.dom b l hy; omega
        · simp at h
      · simp at h
    · simp at h
  · simp at h

theorem look_mem : ∀ {h : List (Nat × PObj)} {j : Nat} {o : PObj}, look h j = some o → (j, o) ∈ h
  | [], j, o, h => by simp [look] at h
  | (b, p) :: r, j, o, h => by
    unfold look at h
    split at h
    · rename_i hj; simp at hj h; subst hj; subst h; simp
    · exact List.mem_cons_of_mem _ (look_mem h)
theorem look_of : ∀ {h : List (Nat × PObj)} {j : Nat} {o : PObj}, (h.map (·.1)).Nodup → (j, o) ∈ h → look h j = some o
  | [], j, o, _, h => by simp at h
  | (b, p) :: r, j, o, hn, h => by
    have hn' : b ∉ r.map (·.1) ∧ (r.map (·.1)).Nodup := List.nodup_cons.1 hn
    unfold look
    rcases List.mem_cons.1 h with h1 | h1
    · simp at h1; obtain ⟨rfl, rfl⟩ := h1; simp
    · have : (j == b) = false := by
        simp only [beq_eq_false_iff_ne]
        rintro rfl; exact hn'.1 (List.mem_map_of_mem (f := fun x : Nat × PObj => x.1) h1)
      rw [this]; exact look_of hn'.2 h1

theorem backs_nodup {b : Nat → Option Nat} : ∀ {h : List (Nat × PObj)}, (∀ x ∈ h, ∀ y ∈ h, ∀ c, b x.1 = some c → b y.1 = some c → x.1 = y.1) → (h.map (·.1)).Nodup → ((backs b h).map (·.1)).Nodup
  | [], _, _ => by simp [backs]
  | (j, o) :: r, hb, hn => by
    have hn' : j ∉ r.map (·.1) ∧ (r.map (·.1)).Nodup := List.nodup_cons.1 hn
    have ih := backs_nodup (b := b) (h := r) (fun x hx y hy => hb x (List.mem_cons_of_mem _ hx) y (List.mem_cons_of_mem _ hy)) hn'.2
    unfold backs
    split
    · rename_i a ha
      simp only [List.map_cons, List.nodup_cons]
      refine ⟨fun hm => ?_, ih⟩
      simp only [List.mem_map] at hm
      obtain ⟨x, hx, hxa⟩ := hm
      obtain ⟨y, hy, hby, _⟩ := backs_in hx
      have := hb (j, o) (by simp) y (List.mem_cons_of_mem _ hy) a ha (by rw [hby, hxa])
      simp at this
      exact hn'.1 (this ▸ List.mem_map_of_mem hy)
    · exact ih

theorem rdU_mem : ∀ {u : Upd} {rd : Rd} {a : Nat} {o : PObj}, rdU rd u a = some o → (a, some o) ∈ u ∨ rd a = some o
  | [], rd, a, o, h => .inr h
  | (b, q) :: u, rd, a, o, h => by
    simp only [rdU] at h
    rcases rdU_mem h with h1 | h1
    · exact .inl (List.mem_cons_of_mem _ h1)
    · unfold setR at h1
      split at h1
      · rename_i hab; subst hab; subst h1; exact .inl (by simp)
      · exact .inr h1

theorem rdU_dels : ∀ {l : List Nat} {rd : Rd} {a : Nat}, rdU rd (dels l) a = if a ∈ l then none else rd a
  | [], rd, a => by simp [dels, rdU]
  | b :: r, rd, a => by
    simp only [dels, rdU]
    rw [rdU_dels]
    by_cases h : a ∈ r
    · simp [h]
    · by_cases hab : a = b
      · subst hab; simp [setR]
      · simp [h, hab, setR]

theorem ref_ok {E : Env} {C : Callee} (hC : CalleeOK P E.resK C) (hs : Sim w B β rd) {nid f : Nat} {args : List PV} {vs : Array Value} (hv : Vs w B β args vs.toList) (hn : Fresh β rd nid)
    (hf : E.isRef f = true) {e : Eff} (h : evCall E C rd nid f args = some e) :
    Callable P f ∧ Calls P f vs w (fun en w' => ∃ v B' β', en = .returned v ∧ Did w B β rd nid e w' B' β' v) := by
  unfold evCall at h
  simp only [hf, ↓reduceIte] at h
  have hd := dedup_nodup (idss args)
  generalize dedup (idss args) [] = d at *
  have hroots := (dedup_ok (l := boxes rd (order rd d [])) hd).1
  generalize dedup (boxes rd (order rd d [])) d = roots at *
  obtain ⟨hLn, hLp⟩ := order_ok rd [] hroots
  generalize order rd roots [] = L at *
  generalize order rd d [] = L0 at *
  split at h
  · rename_i v h' nx hc
    split at h
    · rename_i hcond
      simp at h; subst h
      simp only [Bool.and_eq_true, decide_eq_true_eq, List.all_eq_true] at hcond
      obtain ⟨hnx, hobj⟩ := hcond
      have hrd : ∀ a ∈ roots, ∃ o, rd a = some o := fun a ha => by
        have := hobj a ha
        unfold isObj at this
        split at this
        · rename_i o ho; exact ⟨o, ho⟩
        · simp at this
      refine ⟨hC.ref.callable _ _ _ _ _ _ _ _ hc, ?_⟩
      have hsc := hs.picks hLn
      have hids := hC.ids _ _ _ _ _ _ _ _ hc
      have hle : roots.length ≤ L.length := by
        rcases Nat.lt_or_ge L.length roots.length with h1 | h1
        · have := hLp L.length roots[L.length] (List.getElem?_eq_getElem h1)
          simp at this
        · exact h1
      refine Calls.mono (hC.ref.calls _ _ _ _ _ _ _ _ hc w B (renM L β) vs hsc (hv.ren (renM_hg L β)) (fun b hb => picks_free rd _ L β b hb) hle) ?_
      rintro en w' ⟨u, B', β', rfl, st, hval, hfree⟩
      let βn : Map := fun a => if nid ≤ a ∧ a < nid + 64 then β' (roots.length + (a - nid)) else match pos roots a 0 with | some i => β' i | none => β a
      have hmutc : ∀ b, Mut (renM L β) (look (Pm.picks rd (fun a => pos L a 0) L 0)) b → ∃ x ∈ L, ∃ o l, rd x = some o ∧ (∀ k xs fl, o ≠ .arr k xs fl true) ∧ β x = some l ∧ l.block = b := by
        rintro b ⟨j, o', l, h1, h2, h3, h4⟩
        obtain ⟨x, o, hx, hp, rfl, hβ⟩ := picks_hr hLn rd β j o' h1
        have := (pos_spec hp).2
        exact ⟨x, List.mem_of_getElem? this, o, l, hx, fun k xs fl he => h2 k xs fl (by rw [he]; rfl), hβ.symm.trans h3, h4⟩
      have hinc : ∀ b, In (renM L β) (look (Pm.picks rd (fun a => pos L a 0) L 0)) b → ∃ x ∈ L, ∃ o l, rd x = some o ∧ β x = some l ∧ l.block = b := by
        rintro b ⟨j, o', l, h1, h3, h4⟩
        obtain ⟨x, o, hx, hp, rfl, hβ⟩ := picks_hr hLn rd β j o' h1
        have := (pos_spec hp).2
        exact ⟨x, List.mem_of_getElem? this, o, l, hx, hβ.symm.trans h3, h4⟩
      have hnotf : ∀ a o, rd a = some o → ¬ (nid ≤ a ∧ a < nid + 64) := fun a o ho ⟨h1, h2⟩ => by
        have := (hn a h1 h2).2; rw [ho] at this; simp at this
      have hroot : ∀ i a, roots[i]? = some a → βn a = β' i := fun i a hi => by
        obtain ⟨o, ho⟩ := hrd a (List.mem_of_getElem? hi)
        have h1 := hnotf a o ho
        have h2 := pos_of hroots hi (i := 0)
        simp only [Nat.zero_add] at h2
        simp only [βn, h1, ↓reduceIte, h2]
      have hout : ∀ a, a ∉ roots → ¬ (nid ≤ a ∧ a < nid + 64) → βn a = β a := fun a ha h1 => by
        have h2 : pos roots a 0 = none := by
          cases hp : pos roots a 0 with
          | none => rfl
          | some i => have := (pos_spec hp).2; exact absurd (List.mem_of_getElem? this) ha
        simp only [βn, h1, ↓reduceIte, h2]
      have m1 : ∀ a l, β a = some l → βn a = some l := fun a l hl => by
        have h1 : ¬ (nid ≤ a ∧ a < nid + 64) := fun ⟨q1, q2⟩ => by have := (hn a q1 q2).1; rw [hl] at this; simp at this
        by_cases ha : a ∈ roots
        · obtain ⟨i, hi, hia⟩ := List.mem_iff_getElem.1 ha
          have hi' : roots[i]? = some a := by rw [← hia]; exact List.getElem?_eq_getElem hi
          rw [hroot i a hi']
          exact st.map i l hi (by simp [renM, hLp i a hi', hl])
        · rw [hout a ha h1]; exact hl
      -- the other objects
      let rd0 : Rd := rdU rd (dels L)
      have hrd0 : ∀ a o, rd0 a = some o → a ∉ L ∧ rd a = some o := fun a o h => by
        simp only [rd0, rdU_dels] at h
        split at h
        · simp at h
        · rename_i hL; exact ⟨hL, h⟩
      have hrootL : ∀ a ∈ roots, a ∈ L := fun a ha => by
        obtain ⟨i, hi, hia⟩ := List.mem_iff_getElem.1 ha
        exact List.mem_of_getElem? (hLp i a (by rw [← hia]; exact List.getElem?_eq_getElem hi))
      have hapart : ∀ x ∈ L, ∀ o l, rd x = some o → β x = some l → ¬ In β rd0 l.block := by
        rintro x hx o l h1 h2 ⟨y, p, m, g1, g2, g3⟩
        obtain ⟨q1, q2⟩ := hrd0 y p g1
        exact hs.inj x y o p l m h1 q2 (fun he => q1 (he ▸ hx)) h2 g2 g3.symm
      have sim0 : Sim w' B' βn rd0 := by
        have s0 : Sim w B β rd0 := hs.less fun a o h => (hrd0 a o h).2
        refine (s0.grow st.bsub (fun b hb => ?_) st.ext.room st.sim.lt (fun b hb => ?_)).remap m1 fun a o ha => ?_
        · have hlt : b < w.heap.size := by
            rcases hb with hb | ⟨a, o, l, h1, h2, rfl⟩
            · exact hs.lt b hb
            · exact s0.block_lt h1 h2
          refine st.ext.block b hlt fun hm => ?_
          obtain ⟨x, hx, o, l, h1, h2, h3, rfl⟩ := hmutc b hm
          rcases hb with hb | hb
          · exact hs.excl x o l h1 h2 h3 hb
          · exact hapart x hx o l h1 h3 hb
        · rcases st.bnew b hb with h1 | h1 | h1
          · exact .inl h1
          · obtain ⟨x, hx, o, l, k1, k2, k3, k4⟩ := hmutc b h1
            exact .inr (k4 ▸ hapart x hx o l k1 k3)
          · refine .inr ?_
            rintro ⟨a, o, l, g1, g2, rfl⟩
            have := s0.block_lt g1 g2; omega
        · obtain ⟨q1, q2⟩ := hrd0 a o ha
          exact hout a (fun h => q1 (hrootL a h)) (hnotf a o q2)
      -- what comes back
      let b := backId roots nid
      have hbid : ∀ j x, b j = some x → j < nx → (∃ i, j = i ∧ roots[i]? = some x) ∨ (roots.length ≤ j ∧ x = nid + (j - roots.length) ∧ x < nid + 64) := fun j x hj hlt => by
        simp only [b, backId] at hj
        split at hj
        · exact .inl ⟨j, rfl, hj⟩
        · simp at hj; exact .inr ⟨by omega, hj.symm, by omega⟩
      have hβb : ∀ j x, b j = some x → j < nx → βn x = β' j := fun j x hj hlt => by
        rcases hbid j x hj hlt with ⟨i, rfl, hi⟩ | ⟨h1, h2, h3⟩
        · exact hroot j x hi
        · have h4 : nid ≤ x ∧ x < nid + 64 := by omega
          simp only [βn, h4, and_self, ↓reduceIte]
          congr 1; omega
      have hinj : ∀ x ∈ h', ∀ y ∈ h', ∀ c, b x.1 = some c → b y.1 = some c → x.1 = y.1 := fun x hx y hy c hxc hyc => by
        rcases hbid x.1 c hxc (hids.1 x hx) with ⟨i, hi, hi2⟩ | ⟨h1, h2, h3⟩ <;> rcases hbid y.1 c hyc (hids.1 y hy) with ⟨k, hk, hk2⟩ | ⟨g1, g2, g3⟩
        · have e1 := pos_of hroots hi2 (i := 0)
          have e2 := pos_of hroots hk2 (i := 0)
          rw [e1] at e2; simp at e2; omega
        · obtain ⟨o, ho⟩ := hrd c (List.mem_of_getElem? hi2)
          exact absurd (by omega) (hnotf c o ho)
        · obtain ⟨o, ho⟩ := hrd c (List.mem_of_getElem? hk2)
          exact absurd (by omega) (hnotf c o ho)
        · omega
      have hadds : Adds (backs b h') := fun x hx => by
        obtain ⟨y, hy, _, he⟩ := backs_in hx; exact ⟨_, he⟩
      have hnod := backs_nodup hinj hids.2
      have hkeys : ∀ x ∈ backs b h', rd0 x.1 = none := fun x hx => by
        obtain ⟨y, hy, hby, _⟩ := backs_in hx
        simp only [rd0, rdU_dels]
        rcases hbid y.1 x.1 hby (hids.1 y hy) with ⟨i, hi, hi2⟩ | ⟨h1, h2, h3⟩
        · rw [if_pos (hrootL _ (List.mem_of_getElem? hi2))]
        · split
          · rfl
          · exact (hn x.1 (by omega) h3).2
      let rd1 : Rd := rdU (fun _ => none) (backs b h')
      have hrd1 : ∀ x o', rd1 x = some o' → ∃ j o, look h' j = some o ∧ b j = some x ∧ o' = renObj b o ∧ βn x = β' j := fun x o' hx => by
        rcases rdU_mem hx with h1 | h1
        · obtain ⟨y, hy, hby, he⟩ := backs_in h1
          simp at hby he
          exact ⟨y.1, y.2, look_of hids.2 hy, hby, he, hβb _ _ hby (hids.1 y hy)⟩
        · simp at h1
      have hgb : ∀ j x l, b j = some x → β' j = some l → βn x = some l := fun j x l hj hl => by
        have hlt : j < nx := by
          rcases Nat.lt_or_ge j nx with h1 | h1
          · exact h1
          · have := (hfree j h1).1; rw [hl] at this; simp at this
        rw [hβb j x hj hlt]; exact hl
      have sim1 : Sim w' B' βn rd1 := st.sim.ren hgb hrd1
      have hrdn : rdU rd (dels L ++ backs b h') = joinR rd1 rd0 := by
        funext a
        rw [rdU_append]
        exact rdU_adds hadds hkeys hnod a
      have hin1 : ∀ bl, In βn rd1 bl → In β' (look h') bl := by
        rintro bl ⟨x, o', l, h1, h2, h3⟩
        obtain ⟨j, o, g1, g2, g3, g4⟩ := hrd1 x o' h1
        exact ⟨j, o, l, g1, g4.symm.trans h2, h3⟩
      have hsz0 : ∀ bl, In β rd0 bl → bl < w.heap.size := by
        rintro bl ⟨a, o, l, h1, h2, rfl⟩; exact hs.block_lt (hrd0 a o h1).2 h2
      have hin0 : ∀ a o l, rd0 a = some o → βn a = some l → β a = some l := fun a o l h1 h2 => by
        obtain ⟨q1, q2⟩ := hrd0 a o h1
        rw [← hout a (fun h => q1 (hrootL a h)) (hnotf a o q2)]; exact h2
      have simn : Sim w' B' βn (joinR rd1 rd0) := by
        refine Sim.union sim0 sim1 (fun a o ha => ?_) (fun a c o p l m ha hc hl hm => ?_)
        · unfold joinR at ha
          split at ha
          · rename_i q hq; simp at ha; subst ha; exact .inr hq
          · exact .inl ha
        · have i0 : In β rd0 l.block := ⟨a, o, l, ha, hin0 a o l ha hl, rfl⟩
          intro he
          rcases st.ins _ (hin1 m.block ⟨c, p, m, hc, hm, rfl⟩) with h1 | h1
          · obtain ⟨x, hx, q, l2, g1, g2, g3⟩ := hinc _ h1
            exact hapart x hx q l2 g1 g2 (by rw [g3, ← he]; exact i0)
          · have := hsz0 _ i0; omega
      refine ⟨u, B', βn, rfl, ⟨⟨by rw [hrdn]; exact simn, st.ext.mono (fun bl hb => ?_), st.bsub, fun bl hb => ?_, fun bl hb => ?_, fun bl hb => ?_, m1⟩, hval.ren hgb, fun a ha hr => ?_⟩⟩
      · obtain ⟨x, hx, o, l, h1, h2, h3, h4⟩ := hmutc bl hb
        exact ⟨x, o, l, h1, h2, h3, h4⟩
      · rcases st.bnew bl hb with h1 | h1 | h1
        · exact .inl h1
        · obtain ⟨x, hx, o, l, h1, h2, h3, h4⟩ := hmutc bl h1
          exact .inr (.inl ⟨x, o, l, h1, h2, h3, h4⟩)
        · exact .inr (.inr h1)
      · rw [hrdn] at hb
        obtain ⟨a, o, l, h1, h2, h3, h4⟩ := hb
        unfold joinR at h1
        split at h1
        · rename_i q hq
          simp at h1; subst h1
          obtain ⟨j, o2, g1, g2, rfl, g4⟩ := hrd1 a q hq
          rcases st.muts bl ⟨j, o2, l, g1, fun k xs fl he => h2 k xs fl (by rw [he]; rfl), g4.symm.trans h3, h4⟩ with h5 | h5
          · obtain ⟨x, hx, o3, l3, k1, k2, k3, k4⟩ := hmutc bl h5
            exact .inl ⟨x, o3, l3, k1, k2, k3, k4⟩
          · exact .inr h5
        · exact .inl ⟨a, o, l, (hrd0 a o h1).2, h2, hin0 a o l h1 h3, h4⟩
      · rw [hrdn] at hb
        obtain ⟨a, o, l, h1, h3, h4⟩ := hb
        unfold joinR at h1
        split at h1
        · rename_i q hq
          simp at h1; subst h1
          rcases st.ins bl (hin1 bl ⟨a, q, l, hq, h3, h4⟩) with h5 | h5
          · obtain ⟨x, hx, o3, l3, k1, k3, k4⟩ := hinc bl h5
            exact .inl ⟨x, o3, l3, k1, k3, k4⟩
          · exact .inr h5
        · exact .inl ⟨a, o, l, (hrd0 a o h1).2, hin0 a o l h1 h3, h4⟩
      · refine hout a (fun hm => ?_) (by omega)
        obtain ⟨o, ho⟩ := hrd a hm
        rw [ha] at ho; simp at ho
    · simp at h
  · simp at h

theorem call_ok {E : Env} {C : Callee} (hC : CalleeOK P E.resK C) (hs : Sim w B β rd) {nid f : Nat} {args : List PV} {vs : Array Value} (hv : Vs w B β args vs.toList) (hn : Fresh β rd nid)
    {e : Eff} (h : evCall E C rd nid f args = some e) :
    Callable P f ∧ Calls P f vs w (fun en w' => ∃ v B' β', en = .returned v ∧ Did w B β rd nid e w' B' β' v) := by
  cases hf : E.isRef f with
  | true => exact ref_ok hC hs hv hn hf h
  | false => exact pure_ok hC hs hv hn hf h

/-- Whatever follows: an operation does what the evaluator says. -/
theorem op_ok {E : Env} {C : Callee} (hT : TabOK P E.tab) (hC : CalleeOK P E.resK C) (hs : Sim w B β rd) (ha : TmRel w B β tm a) {nid : Nat} (hn : Fresh β rd nid) {o : Oper} {e : Eff} (h : evOp E C rd nid tm o = some e)
    {K : Act → World → Prop} {Q : Exit → Act → World → Prop} (hK : ∀ v w' B' β', Did w B β rd nid e w' B' β' v → K (a.put o.dst v) w') : o.wp P a w K Q := by
  unfold evOp at h
  split at h
  · rename_i f args ats ho
    split at h
    · rename_i g caps vs hf hvs
      have h1 := opnd_ok ha hf
      generalize hfe : a.eval f = fv at h1
      obtain ⟨us, rfl, h2⟩ := Vs.of_fn h1
      have h3 := opndl_ok ha hvs
      have h4 : Vs w B β (vs ++ caps) (args.map a.eval ++ us).toList := by
        have := h3.append h2
        simpa using this
      obtain ⟨⟨fn, c1, c2, c3⟩, hcalls⟩ := call_ok hC hs h4 hn h
      have hrun : (execOp a.eval o).run P w = .ok (.enter g (args.map a.eval ++ us)) w := by
        have c2' : fn.name ≠ "runtime.NumGoroutine" := by simpa using c2
        have c3' : fn.body ≠ none := fun hb => by rw [hb] at c3; simp at c3
        simp [execOp, ho, resolve, hfe, Deferred.ofValue, invoke, callFunc, c1, c2', c3']
      unfold Oper.wp
      rw [hrun, Oper.upon_enter]
      refine Calls.mono hcalls ?_
      rintro en w' ⟨v, B', β', rfl, hd⟩
      exact hK v w' B' β' hd
    · simp at h
  · obtain ⟨nx, v, w', B', β', h1, h2, h3, h4, h5⟩ := basic_ok hT hs ha h (hn nid (Nat.le_refl _) (by omega)).1 (hn nid (Nat.le_refl _) (by omega)).2
    have hd : Did w B β rd nid e w' B' β' v := ⟨h3, h4, fun b _ hb => h5 b (by omega)⟩
    unfold Oper.wp
    rw [h1]
    rcases h2 with rfl | ⟨rfl, rfl⟩
    · rw [Oper.upon_value]; exact hK v w' B' β' hd
    · rw [Oper.upon_skip]; exact hK _ w' B' β' hd
end
end Go.Pm
