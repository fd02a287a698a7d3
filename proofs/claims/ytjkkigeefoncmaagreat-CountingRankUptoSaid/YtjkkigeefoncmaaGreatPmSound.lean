/-
  The evaluator's calls are the machine's.
-/
import Derived.Test.YtjkkigeefoncmaaGreatPmCode
set_option linter.unusedVariables false
set_option linter.unusedSimpArgs false
namespace Go.Pm
open Go

section
variable {P : Program} {w w' w0 : World} {B B' B0 : Nat → Prop} {β β' β0 : Map} {rd rd' rd0 : Rd} {tm tm' : List PV} {a : Act}

/-- What is asked of a pure function that the evaluator knows by other means. -/
structure PrimP (P : Program) (resK : Nat → List (Option Nat)) (f : Nat) (p : List PV → Option PV) : Prop where
  callable : ∀ as r, p as = some r → Callable P f
  calls : ∀ as r, p as = some r → ∀ (w : World) (B : Nat → Prop) (vs : Array Value), (∀ b, B b → b < w.heap.size) → Vs w B (fun _ => none) as vs.toList →
    Calls P f vs w (fun en w' => ∃ v, en = .returned v ∧ Ext (fun _ => False) w w' ∧ ∃ Bc bs, (∀ b, B b → Bc b) ∧ (∀ b, Bc b → B b ∨ w.heap.size ≤ b) ∧ (∀ b, Bc b → b < w'.heap.size) ∧ (∀ b ∈ bs, ¬ Bc b) ∧ RR w' Bc w.heap.size r (resK f) v bs)

structure PrimR (P : Program) (f : Nat) (p : List PV → List (Nat × PObj) → Nat → Option (PV × List (Nat × PObj) × Nat)) : Prop where
  callable : ∀ args h next v h' nx, p args h next = some (v, h', nx) → Callable P f
  calls : ∀ r args h next v h' nx, p args h next = some (v, h', nx) → ∀ (w : World) (B : Nat → Prop) (β : Map) (vs : Array Value), Sim w B β (look h) → Vs w B β args vs.toList →
    (∀ b, next ≤ b → β b = none ∧ look h b = none) → r ≤ next →
    Calls P f vs w (fun en w' => ∃ u B' β', en = .returned u ∧ StepR r w B β (look h) w' B' β' (look h') ∧ V w' B' β' v u ∧ ∀ b, nx ≤ b → β' b = none ∧ look h' b = none)
  ids : ∀ args h next v h' nx, p args h next = some (v, h', nx) → (∀ x ∈ h', x.1 < nx) ∧ (h'.map (·.1)).Nodup

structure EnvOK (P : Program) (E : Env) : Prop where
  tab : TabOK P E.tab
  code : ∀ f fn, E.code f = some fn → P.funcs[f]? = some fn ∧ (fn.name == "runtime.NumGoroutine") = false ∧ ∀ c, fn.body = some c → codeOK (E.pairs f) c = true
  primP : ∀ f p, E.primP f = some p → PrimP P E.resK f p
  primR : ∀ f p, E.primR f = some p → PrimR P f p

theorem sim_nil (hB : ∀ b, B b → b < w.heap.size) : Sim w B (fun _ => none) (look []) :=
  (Isle.nil 0 hB).sim

theorem body_ok {E : Env} {C : Callee} (hE : EnvOK P E) (hC : CalleeOK P E.resK C) {n f nr : Nat} {args : List PV} {h : List (Nat × PObj)} {next : Nat} {v : PV} {h' : List (Nat × PObj)} {nx : Nat}
    (hr : runBody E C n f nr args h next = some (v, h', nx)) :
    Callable P f ∧ ∀ (w0 : World) (B0 : Nat → Prop) (β0 : Map) (rd0 : Rd) (w : World) (B : Nat → Prop) (β : Map) (vs : Array Value), StepR nr w0 B0 β0 rd0 w B β (look h) → Free β (look h) next → Vs w B β args vs.toList →
      Calls P f vs w (fun en w' => ∃ u B' β', en = .returned u ∧ StepR nr w0 B0 β0 rd0 w' B' β' (look h') ∧ Free β' (look h') nx ∧ V w' B' β' v u) := by
  unfold runBody at hr
  split at hr
  · rename_i fn hfn
    split at hr
    · rename_i c hc
      split at hr
      · rename_i ex st1 hev
        split at hr
        · rename_i hex
          simp only at hr
          generalize hcl : cleanAt nr (E.keepE f) st1 = st at hr
          split at hr
          · rename_i rs hrs
            simp at hr; obtain ⟨rfl, rfl, rfl⟩ := hr
            obtain ⟨h1, h2, h3⟩ := hE.code f fn hfn
            refine ⟨⟨fn, h1, h2, by rw [hc]; rfl⟩, fun w0 B0 β0 rd0 w B β vs hst hf hv => ?_⟩
            refine calls_of_wp h1 hc ?_
            refine code_ok hE.tab hC c 0 _ ex st1 (h3 c hc) hev w B β _ _ ⟨hst, ?_, hf⟩ fun w' B' β1 a' hn1 => ?_
            · have hl : args.length = vs.size := by have := hv.1; simpa using this
              refine TmRel.of_vs ?_ rfl
              simp only [Array.toList_append, Array.toList_replicate]
              rw [hl]
              refine hv.append ⟨by simp, fun i c v h1 h2 => ?_⟩
              rw [List.getElem?_replicate] at h1
              split at h1
              · simp at h1; subst h1; exact .undef _
              · simp at h1
            · obtain ⟨β', hn⟩ := cleanAt_ok (ks := E.keepE f) hn1
              rw [hcl] at hn
              obtain ⟨u, g1, g2⟩ := results_ok hE.tab hn.step.sim hn.tms hrs
              have : bodyPost P fn (fun en w' => ∃ u B' β', en = .returned u ∧ StepR nr w0 B0 β0 rd0 w' B' β' (look st.heap) ∧ Free β' (look st.heap) st.next ∧ V w' B' β' (pack rs) u) .normal a' w' :=
                ⟨hn.tms.def0, u, g1, u, B', β', rfl, hn.step, hn.free, g2⟩
              rcases hex with rfl | rfl
              · exact this
              · exact this
          · simp at hr
        · simp at hr
      · simp at hr
    · simp at hr
  · simp at hr

theorem normArgs_ok : ∀ {ks : List (Nat × List (Nat × Nat × Bool))} {h : List (Nat × PObj)} {nx : Nat} {args : List PV}, Sim w B β (look h) → Free β (look h) nx → ∀ {h' : List (Nat × PObj)} {nx' : Nat}, normArgs h nx args ks = (h', nx') →
    Step w B β (look h) w B β (look h') ∧ Free β (look h') nx'
  | [], h, nx, args, hs, hf, h', nx', he => by
    simp [normArgs] at he; obtain ⟨rfl, rfl⟩ := he
    exact ⟨.refl hs, hf⟩
  | (i, cs) :: r, h, nx, args, hs, hf, h', nx', he => by
    simp only [normArgs] at he
    rcases hk : normIn (nth args i) h nx cs with ⟨v1, h1, nx1⟩
    rw [hk] at he
    obtain ⟨g1, g2, _⟩ := normIn_ok hs hf hk
    obtain ⟨q1, q2⟩ := normArgs_ok g1.sim g2 he
    exact ⟨g1.trans q1, q2⟩

theorem picks_ids {rd : Rd} {g : Nat → Option Nat} : ∀ {L : List Nat} {i : Nat}, (∀ x ∈ Pm.picks rd g L i, i ≤ x.1 ∧ x.1 < i + L.length) ∧ ((Pm.picks rd g L i).map (·.1)).Nodup
  | [], i => by simp [Pm.picks]
  | a :: r, i => by
    obtain ⟨h1, h2⟩ := picks_ids (rd := rd) (g := g) (L := r) (i := i + 1)
    unfold Pm.picks
    split
    · refine ⟨fun x hx => ?_, ?_⟩
      · rcases List.mem_cons.1 hx with rfl | hx
        · simp
        · have := h1 x hx; simp; omega
      · simp only [List.map_cons, List.nodup_cons]
        refine ⟨fun hm => ?_, h2⟩
        simp only [List.mem_map] at hm
        obtain ⟨x, hx, hxi⟩ := hm
        have := h1 x hx; omega
    · refine ⟨fun x hx => ?_, h2⟩
      have := h1 x hx; simp; omega

theorem run_ok {E : Env} (hE : EnvOK P E) : ∀ n, CalleeOK P E.resK (run E n)
  | 0 => ⟨⟨fun f as r h => by simp [run] at h, fun f as r h => by simp [run] at h⟩, ⟨fun f r args h next v h' nx hc => by simp [run] at hc, fun f r args h next v h' nx hc => by simp [run] at hc⟩, fun f r args h next v h' nx hc => by simp [run] at hc⟩
  | n + 1 => by
    have ih := run_ok hE n
    have pur : ∀ f as r, (run E (n + 1)).pureC f as = some r → Callable P f ∧ ∀ (w : World) (B : Nat → Prop) (vs : Array Value), (∀ b, B b → b < w.heap.size) → Vs w B (fun _ => none) as vs.toList →
        Calls P f vs w (fun en w' => ∃ v, en = .returned v ∧ Ext (fun _ => False) w w' ∧ ∃ Bc bs, (∀ b, B b → Bc b) ∧ (∀ b, Bc b → B b ∨ w.heap.size ≤ b) ∧ (∀ b, Bc b → b < w'.heap.size) ∧ (∀ b ∈ bs, ¬ Bc b) ∧ RR w' Bc w.heap.size r (E.resK f) v bs) := by
      intro f as r h
      simp only [run, level] at h
      split at h
      · rename_i p hp
        exact ⟨(hE.primP f p hp).callable as r h, (hE.primP f p hp).calls as r h⟩
      · split at h
        · rename_i v h' nx hb
          obtain ⟨h1, h2⟩ := body_ok hE ih hb
          refine ⟨h1, fun w B vs hB hv => ?_⟩
          have hs := sim_nil hB
          refine Calls.mono (h2 w B (fun _ => none) (look []) w B (fun _ => none) vs (.refl hs) (fun b _ => ⟨rfl, rfl⟩) hv) ?_
          rintro en w' ⟨u, B', β', rfl, st, _, hval⟩
          have hm0 : ∀ b, ¬ Mut (fun _ => none) (look []) b := by rintro b ⟨a, o, l, h, _⟩; simp [look] at h
          have hm : ∀ b, Mut β' (look h') b → w.heap.size ≤ b := fun b hb => (st.muts b hb).resolve_left (hm0 b)
          obtain ⟨Bc, bs, b1, b2, b3, hrr⟩ := exportR_ok st.sim hm h hval
          refine ⟨u, rfl, st.ext.mono fun b hb => hm0 b hb, Bc, bs, fun b hb => b1 b (st.bsub b hb), fun b hb => ?_, fun b hb => ?_, b3, hrr⟩
          · rcases b2 b hb with h3 | h3
            · rcases st.bnew b h3 with h4 | h4 | h4
              · exact .inl h4
              · exact absurd h4 (hm0 b)
              · exact .inr h4
            · exact .inr (hm b h3)
          · rcases b2 b hb with h3 | ⟨c, o, l, h4, _, h5, rfl⟩
            · exact st.sim.lt b h3
            · exact st.sim.block_lt h4 h5
        · simp at h
    have ref : ∀ f r args h next v h' nx, (run E (n + 1)).refC f r args h next = some (v, h', nx) → (Callable P f ∧ ∀ (w : World) (B : Nat → Prop) (β : Map) (vs : Array Value), Sim w B β (look h) → Vs w B β args vs.toList →
        (∀ b, next ≤ b → β b = none ∧ look h b = none) → r ≤ next →
        Calls P f vs w (fun en w' => ∃ u B' β', en = .returned u ∧ StepR r w B β (look h) w' B' β' (look h') ∧ V w' B' β' v u ∧ ∀ b, nx ≤ b → β' b = none ∧ look h' b = none)) ∧ (∀ x ∈ h', x.1 < nx) ∧ (h'.map (·.1)).Nodup := by
      intro f r args h next v h' nx hc
      simp only [run, level] at hc
      split at hc
      · rename_i p hp
        have hP := hE.primR f p hp
        exact ⟨⟨hP.callable _ _ _ _ _ _ hc, hP.calls r _ _ _ _ _ _ hc⟩, hP.ids _ _ _ _ _ _ hc⟩
      · rcases hna : normArgs h next args (E.norm f) with ⟨h1, nx1⟩
        rw [hna] at hc
        simp only at hc
        split at hc
        · rename_i v1 h2 nx2 hb
          split at hc
          · rename_i v' h3 nx3 hcan
            simp at hc; obtain ⟨rfl, rfl, rfl⟩ := hc
            obtain ⟨g1, g2⟩ := body_ok hE ih hb
            unfold canon at hcan
            simp only [Pm.rens, Prod.mk.injEq, List.cons.injEq, and_true] at hcan
            obtain ⟨rfl, rfl, rfl⟩ := hcan
            refine ⟨⟨g1, fun w B β vs hs hv hf hr => ?_⟩, fun x hx => ?_, picks_ids.2⟩
            · obtain ⟨q1, q2⟩ := normArgs_ok hs hf hna
              obtain ⟨o1, o2, o3, o4, o5⟩ := StepR.order q1.sim r []
              refine Calls.mono (g2 w B β (look h) w B _ vs ((q1.toR r).trans o1) o2 (o5 _ _ hv)) ?_
              rintro en w' ⟨u, B', β', rfl, st, _, hval⟩
              obtain ⟨p1, p2, p3, p4, p5⟩ := StepR.order st.sim r [v1]
              exact ⟨u, B', _, rfl, st.trans p1, p4 _ _ hval, p2⟩
            · have := picks_ids.1 x hx; omega
          · simp at hc
        · simp at hc
    exact ⟨⟨fun f as r h => (pur f as r h).1, fun f as r h => (pur f as r h).2⟩, ⟨fun f r args h next v h' nx hc => (ref f r args h next v h' nx hc).1.1, fun f r args h next v h' nx hc => (ref f r args h next v h' nx hc).1.2⟩,
      fun f r args h next v h' nx hc => (ref f r args h next v h' nx hc).2⟩
end
end Go.Pm
