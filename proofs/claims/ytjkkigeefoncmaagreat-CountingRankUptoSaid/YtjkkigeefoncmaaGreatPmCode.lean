/-
  Code does what the evaluator says.
-/
import Derived.Test.YtjkkigeefoncmaaGreatPmReg
set_option linter.unusedVariables false
set_option linter.unusedSimpArgs false
namespace Go.Pm
open Go

section
variable {P : Program} {w w' w0 : World} {B B' B0 : Nat → Prop} {β β' β0 : Map} {rd rd' rd0 : Rd} {tm tm' : List PV} {a : Act}

/-! ### behind a round -/
/-- A box whose cells are read otherwise. -/
theorem Step.rebox (hs : Sim w B β rd) {b : Nat} {cs cs' : List PV} (hb : rd b = some (.box cs)) (hc : ∀ vs, Vs w B β cs vs → Vs w B β cs' vs) : Step w B β rd w B β (setR rd b (some (.box cs'))) := by
  have hcase : ∀ d p, setR rd b (some (.box cs')) d = some p → (d = b ∧ p = .box cs') ∨ (d ≠ b ∧ rd d = some p) := fun d p h => by
    unfold setR at h
    split at h
    · rename_i hd; simp at h; exact .inl ⟨hd, h.symm⟩
    · rename_i hd; exact .inr ⟨hd, h⟩
  have hsome : ∀ d p, setR rd b (some (.box cs')) d = some p → ∃ q, rd d = some q := fun d p h => by
    rcases hcase d p h with ⟨rfl, _⟩ | ⟨_, h⟩
    · exact ⟨_, hb⟩
    · exact ⟨_, h⟩
  refine ⟨Sim.of (fun d p hd => ?_) (fun d p l hd hp hl => ?_) (fun d d' p q l m hd hd' hne hl hm => ?_) hs.lt (fun d k xs fl l hd hl => ?_), .refl _ _, fun _ h => h, fun _ h => .inl h, ?_, ?_, fun _ _ h => h⟩
  · rcases hcase d p hd with ⟨rfl, rfl⟩ | ⟨_, h⟩
    · obtain ⟨l, c, e, h1, h2, h3, h4, h5⟩ := hs.box d cs hb
      exact .inl ⟨l, h1, c, e, h3, h2, hc _ h4, h5⟩
    · exact hs.cases h
  · rcases hcase d p hd with ⟨rfl, rfl⟩ | ⟨_, h⟩
    · exact hs.excl d _ l hb (by simp) hl
    · exact hs.excl d p l h hp hl
  · obtain ⟨p', h1⟩ := hsome d p hd
    obtain ⟨q', h2⟩ := hsome d' q hd'
    exact hs.inj d d' p' q' l m h1 h2 hne hl hm
  · rcases hcase d _ hd with ⟨rfl, h⟩ | ⟨_, h⟩
    · simp at h
    · exact hs.frz d k xs fl l h hl
  · rintro bl ⟨d, p, l, h1, h2, h3, rfl⟩
    rcases hcase d p h1 with ⟨rfl, rfl⟩ | ⟨_, h⟩
    · exact .inl ⟨d, _, l, hb, by simp, h3, rfl⟩
    · exact .inl ⟨d, p, l, h, h2, h3, rfl⟩
  · rintro bl ⟨d, p, l, h1, h3, rfl⟩
    rcases hcase d p h1 with ⟨rfl, rfl⟩ | ⟨_, h⟩
    · exact .inl ⟨d, _, l, hb, h3, rfl⟩
    · exact .inl ⟨d, p, l, h, h3, rfl⟩

def Free (β : Map) (rd : Rd) (nx : Nat) : Prop := ∀ b, nx ≤ b → β b = none ∧ rd b = none

theorem normCell_ok {v : PV} {h : List (Nat × PObj)} {nx k : Nat} {flat : Bool} (hs : Sim w B β (look h)) (hf : Free β (look h) nx) {v' : PV} {h' : List (Nat × PObj)} {nx' : Nat} (he : normCell v h nx k flat = (v', h', nx')) :
    Step w B β (look h) w B β (look h') ∧ Free β (look h') nx' ∧ (∀ u, V w B β v u → V w B β v' u) ∧ (∀ a cs, look h a = some (.box cs) → look h' a = some (.box cs)) := by
  unfold normCell at he
  split at he
  · simp at he; obtain ⟨rfl, rfl, rfl⟩ := he
    have h0 := hf nx (Nat.le_refl _)
    refine ⟨?_, fun b hb => ?_, fun u hu => ?_, fun a cs ha => ?_⟩
    · rw [look_setObj]; exact Step.new0 hs h0.1 h0.2 k flat
    · rw [look_setObj]
      have := hf b (by omega)
      refine ⟨this.1, ?_⟩
      unfold setR
      rw [if_neg (by omega)]; exact this.2
    · cases hu; exact .own0 _ _ _ _
    · rw [look_setObj]
      unfold setR
      split
      · rename_i hx; subst hx; rw [h0.2] at ha; simp at ha
      · exact ha
  · simp at he; obtain ⟨rfl, rfl, rfl⟩ := he
    exact ⟨.refl hs, hf, fun u hu => hu, fun a cs h => h⟩

theorem normIn_ok : ∀ {ks : List (Nat × Nat × Bool)} {v : PV} {h : List (Nat × PObj)} {nx : Nat}, Sim w B β (look h) → Free β (look h) nx → ∀ {v' : PV} {h' : List (Nat × PObj)} {nx' : Nat}, normIn v h nx ks = (v', h', nx') →
    Step w B β (look h) w B β (look h') ∧ Free β (look h') nx' ∧ (∀ u, V w B β v u → V w B β v' u)
  | [], v, h, nx, hs, hf, v', h', nx', he => by
    simp [normIn] at he; obtain ⟨rfl, rfl, rfl⟩ := he
    exact ⟨.refl hs, hf, fun u hu => hu⟩
  | (c, k, flat) :: r, v, h, nx, hs, hf, v', h', nx', he => by
    unfold normIn at he
    split at he
    · rename_i a
      split at he
      · rename_i cs ha
        split at he
        rename_i x h1 nx1 hc
        obtain ⟨g1, g2, g3, g4⟩ := normCell_ok hs hf hc
        have hb := g4 a cs ha
        have st := Step.rebox g1.sim hb (cs' := put cs c x) fun vs hv => by
          refine ⟨by rw [put_length]; exact hv.1, fun i p u h1 h2 => ?_⟩
          have hi : i < cs.length := by
            rcases Nat.lt_or_ge i cs.length with h' | h'
            · exact h'
            · rw [List.getElem?_eq_none (by rw [put_length]; exact h')] at h1; simp at h1
          have hp : nth (put cs c x) i = p := nth_get h1
          rw [nth_put] at hp
          have ho := hv.2 i _ u (List.getElem?_eq_getElem hi) h2
          rw [← nth_get (List.getElem?_eq_getElem hi)] at ho
          split at hp
          · rename_i hic
            rw [hic.1] at ho
            rw [← hp]
            exact g3 u ho
          · rw [← hp]; exact ho
        rw [← look_setObj] at st
        have hf' : Free β (look (setObj h1 a (.box (put cs c x)))) nx1 := fun b hb' => by
          have := g2 b hb'
          rw [look_setObj]
          unfold setR
          split
          · rename_i hx; subst hx; rw [this.2] at hb; simp at hb
          · exact this
        obtain ⟨q1, q2, q3⟩ := normIn_ok st.sim hf' he
        exact ⟨(g1.trans st).trans q1, q2, q3⟩
      · exact normIn_ok hs hf he
    · split at he
      rename_i x h1 nx1 hc
      obtain ⟨g1, g2, g3, g4⟩ := normCell_ok hs hf hc
      obtain ⟨q1, q2, q3⟩ := normIn_ok g1.sim g2 he
      exact ⟨g1.trans q1, q2, fun u hu => q3 u (g3 u hu)⟩

theorem keepT_ok : ∀ {tm : List PV} {n : Nat} {ks : List (Nat × List (Nat × Nat × Bool))} {h : List (Nat × PObj)} {nx : Nat}, Sim w B β (look h) → Free β (look h) nx → ∀ {tm' : List PV} {h' : List (Nat × PObj)} {nx' : Nat}, keepT h nx tm n ks = (tm', h', nx') →
    Step w B β (look h) w B β (look h') ∧ Free β (look h') nx' ∧ (∀ us, Vs w B β tm us → Vs w B β tm' us)
  | [], n, ks, h, nx, hs, hf, tm', h', nx', he => by
    cases ks <;> simp [keepT] at he <;> obtain ⟨rfl, rfl, rfl⟩ := he <;> exact ⟨.refl hs, hf, fun u hu => hu⟩
  | v :: r, n, [], h, nx, hs, hf, tm', h', nx', he => by
    simp only [keepT] at he
    rcases hk : keepT h nx r (n + 1) [] with ⟨r', h1, nx1⟩
    rw [hk] at he
    simp at he; obtain ⟨rfl, rfl, rfl⟩ := he
    obtain ⟨g1, g2, g3⟩ := keepT_ok hs hf hk
    refine ⟨g1, g2, fun us hu => ?_⟩
    obtain ⟨u, us', rfl, h2, h3⟩ := hu.uncons
    exact .cons (.undef u) (g3 us' h3)
  | v :: r, n, (t, cs) :: ks, h, nx, hs, hf, tm', h', nx', he => by
    simp only [keepT] at he
    split at he
    · rcases hn : normIn v h nx cs with ⟨v', h1, nx1⟩
      rw [hn] at he
      rcases hk : keepT h1 nx1 r (n + 1) ks with ⟨r', h2, nx2⟩
      simp only [hk] at he
      simp at he; obtain ⟨rfl, rfl, rfl⟩ := he
      obtain ⟨g1, g2, g3⟩ := normIn_ok hs hf hn
      obtain ⟨q1, q2, q3⟩ := keepT_ok g1.sim g2 hk
      refine ⟨g1.trans q1, q2, fun us hu => ?_⟩
      obtain ⟨u, us', rfl, h3, h4⟩ := hu.uncons
      exact .cons (g3 u h3) (q3 us' h4)
    · rcases hk : keepT h nx r (n + 1) ((t, cs) :: ks) with ⟨r', h1, nx1⟩
      rw [hk] at he
      simp at he; obtain ⟨rfl, rfl, rfl⟩ := he
      obtain ⟨g1, g2, g3⟩ := keepT_ok hs hf hk
      refine ⟨g1, g2, fun us hu => ?_⟩
      obtain ⟨u, us', rfl, h2, h3⟩ := hu.uncons
      exact .cons (.undef u) (g3 us' h3)

theorem In.ren {g : Nat → Option Nat} (hr : ∀ j o', rd' j = some o' → ∃ a o, rd a = some o ∧ g a = some j ∧ o' = renObj g o ∧ β' j = β a) {b : Nat} (h : In β' rd' b) : In β rd b := by
  obtain ⟨j, o', l, h1, h3, h4⟩ := h
  obtain ⟨a, o, ha, hga, rfl, hβ⟩ := hr j o' h1
  exact ⟨a, o, l, ha, hβ.symm.trans h3, h4⟩

/-- Other numbers, but for the first ones. -/
theorem StepR.order (hs : Sim w B β rd) (r : Nat) (vals : List PV) :
    let L := order rd (upto r) vals
    StepR r w B β rd w B (renM L β) (look (Pm.picks rd (fun a => pos L a 0) L 0)) ∧ Free (renM L β) (look (Pm.picks rd (fun a => pos L a 0) L 0)) L.length ∧ r ≤ L.length ∧
      (∀ p u, V w B β p u → V w B (renM L β) (Pm.ren (fun a => pos L a 0) p) u) ∧ ∀ ps us, Vs w B β ps us → Vs w B (renM L β) (Pm.rens (fun a => pos L a 0) ps) us := by
  intro L
  obtain ⟨hn, hp⟩ := order_ok rd vals (upto_nodup r)
  have hget : ∀ i, i < r → L[i]? = some i := fun i hi => hp i i (upto_get hi)
  refine ⟨⟨hs.picks hn, .refl _ _, fun _ h => h, fun _ h => .inl h, fun b hb => .inl (Mut.ren (picks_hr hn rd β) hb), fun b hb => .inl (In.ren (picks_hr hn rd β) hb), fun b l hb hl => by simp [renM, hget b hb, hl]⟩,
    fun b hb => picks_free rd _ L β b hb, ?_, fun p u hv => hv.ren (renM_hg L β), fun ps us hv => hv.ren (renM_hg L β)⟩
  rcases Nat.eq_zero_or_pos r with h0 | h0
  · omega
  · have := hget (r - 1) (by omega)
    rcases Nat.lt_or_ge (r - 1) L.length with h1 | h1
    · omega
    · rw [List.getElem?_eq_none h1] at this; simp at this

/-- How things stand in a function's code. -/
structure Now (r : Nat) (w0 : World) (B0 : Nat → Prop) (β0 : Map) (rd0 : Rd) (w : World) (B : Nat → Prop) (β : Map) (st : St) (a : Act) : Prop where
  step : StepR r w0 B0 β0 rd0 w B β (look st.heap)
  tms : TmRel w B β st.tmps a
  free : Free β (look st.heap) st.next

theorem TmRel.vs (h : TmRel w B β tm a) : Vs w B β tm a.tmps.toList :=
  ⟨by simpa using h.len, fun i c v h1 h2 => by
    have := h.val i
    rw [nth_get h1] at this
    have h3 : a.tmps[i]? = some v := by simpa using h2
    simpa [h3] using this⟩
theorem TmRel.of_vs (h : Vs w B β tm a.tmps.toList) (hd : a.defers = []) : TmRel w B β tm a :=
  ⟨by simpa using h.1, fun t => by
    rcases Nat.lt_or_ge t tm.length with h1 | h1
    · obtain ⟨v, h2, h3⟩ := h.get (List.getElem?_eq_getElem h1)
      rw [nth_get (List.getElem?_eq_getElem h1)]
      have h4 : a.tmps[t]? = some v := by simpa using h2
      simpa [h4] using h3
    · rw [nth_none h1]; exact .undef _, hd⟩

theorem clean_ok {r : Nat} {ks : List (Nat × List (Nat × Nat × Bool))} {st : St} (h : Now r w0 B0 β0 rd0 w B β st a) : ∃ β', Now r w0 B0 β0 rd0 w B β' (clean r ks st) a := by
  unfold clean
  split
  rename_i tm h1 nx hk
  obtain ⟨g1, g2, g3⟩ := keepT_ok h.step.sim h.free hk
  have hv := g3 _ h.tms.vs
  unfold canon
  obtain ⟨q1, q2, q3, q4, q5⟩ := StepR.order g1.sim r tm
  exact ⟨_, (h.step.trans (g1.toR r)).trans q1, TmRel.of_vs (q5 _ _ hv) h.tms.def0, q2⟩

theorem cleanAt_ok {r : Nat} {ks : Option (List (Nat × List (Nat × Nat × Bool)))} {st : St} (h : Now r w0 B0 β0 rd0 w B β st a) : ∃ β', Now r w0 B0 β0 rd0 w B β' (cleanAt r ks st) a := by
  cases ks with
  | none => exact ⟨β, h⟩
  | some ks => exact clean_ok h

/-! ### code -/
def exitOf : Ex → Exit
  | .normal => .normal
  | .exit id => .exit id
  | .ret => .ret

theorem least (J : Nat → Prop) : ∀ n, J n → ∃ m, J m ∧ ∀ k, J k → m ≤ k := by
  intro n
  induction n using Nat.strongRecOn with
  | _ n ih =>
    intro h
    by_cases hk : ∃ k, k < n ∧ J k
    · obtain ⟨k, h1, h2⟩ := hk; exact ih k h1 h2
    · exact ⟨n, h, fun k hj => by
        rcases Nat.lt_or_ge k n with h1 | h1
        · exact absurd ⟨k, h1, hj⟩ hk
        · exact h1⟩

open Classical in
/-- A loop, with the rounds to come counted down. -/
theorem wp_rounds {c : Code} {Q : Exit → Act → World → Prop} (J : Nat → Act → World → Prop) {n : Nat} (h0 : J n a w)
    (round : ∀ n a w, J n a w → c.wp P (Exit.then (fun a' w' => ∃ m, m < n ∧ J m a' w') Q) a w) : (Code.loop c).wp P Q a w := by
  have hmin : ∀ a w, (∃ n, J n a w) → ∃ m, J m a w ∧ ∀ k, J k a w → m ≤ k := fun a w ⟨n, h⟩ => least (fun k => J k a w) n h
  let μ : Act → World → Nat := fun a w => if h : ∃ n, J n a w then Classical.choose (hmin a w h) else 0
  have hμ : ∀ a w, (∃ n, J n a w) → J (μ a w) a w ∧ ∀ k, J k a w → μ a w ≤ k := fun a w h => by
    simp only [μ, h, ↓reduceDIte]
    exact Classical.choose_spec (hmin a w h)
  refine wp_loop (fun a w => ∃ n, J n a w) μ ⟨n, h0⟩ fun a w hI => ?_
  refine wp_mono (round (μ a w) a w (hμ a w hI).1) fun e a' w' hq => ?_
  cases e with
  | normal =>
    obtain ⟨m, hm, hj⟩ := hq
    exact ⟨⟨m, hj⟩, Nat.lt_of_le_of_lt ((hμ a' w' ⟨m, hj⟩).2 m hj) hm⟩
  | _ => exact hq

theorem Now.region {E : Env} {C : Callee} (hT : TabOK P E.tab) (hC : CalleeOK P E.resK C) {pairs : Nat → List (Nat × Nat)} {r id : Nat} {ops : Array Oper} {draw : Bool} (hok : codeOK pairs (.region id ops draw) = true) {st st' : St} (h : evRegion E C ops draw (pairs id) st = some st')
    (hn : Now r w0 B0 β0 rd0 w B β st a) {Q : Exit → Act → World → Prop} (hQ : ∀ w' B' β' a', Now r w0 B0 β0 rd0 w' B' β' st' a' → Q .normal a' w') : (Code.region id ops draw).wp P Q a w :=
  region_ok hT hC hok h hn.step.sim hn.tms hn.free fun w' B' β' a' hs => hQ w' B' β' a' ⟨hn.step.trans (hs.step.toR r), hs.tms, hs.free⟩

theorem code_ok {E : Env} {C : Callee} (hT : TabOK P E.tab) (hC : CalleeOK P E.resK C) {r n f : Nat} : ∀ (c : Code) (blk : Nat) (st : St) (ex : Ex) (st' : St), codeOK (E.pairs f) c = true → evCode E C n f r blk c st = some (ex, st') →
    ∀ (w : World) (B : Nat → Prop) (β : Map) (a : Act) (Q : Exit → Act → World → Prop), Now r w0 B0 β0 rd0 w B β st a → (∀ w' B' β' a', Now r w0 B0 β0 rd0 w' B' β' st' a' → Q (exitOf ex) a' w') → c.wp P Q a w := by
  intro c
  induction c with
  | skip =>
    intro blk st ex st' hok h w B β a Q hn hQ
    simp [evCode] at h; obtain ⟨rfl, rfl⟩ := h
    exact wp_skip (hQ w B β a hn)
  | region id ops draw =>
    intro blk st ex st' hok h w B β a Q hn hQ
    simp only [evCode, Option.map_eq_some_iff] at h
    obtain ⟨st1, h1, h2⟩ := h
    simp at h2; obtain ⟨rfl, rfl⟩ := h2
    obtain ⟨β1, hn1⟩ := cleanAt_ok (ks := E.keepR f id) hn
    exact hn1.region hT hC hok h1 hQ
  | seq x y ihx ihy =>
    intro blk st ex st' hok h w B β a Q hn hQ
    simp only [codeOK, Bool.and_eq_true] at hok
    simp only [evCode] at h
    refine wp_seq ?_
    split at h
    · rename_i st1 h1
      exact ihx blk st .normal st1 hok.1 h1 w B β a _ hn fun w' B' β' a' hn' => ihy blk st1 ex st' hok.2 h w' B' β' a' Q hn' hQ
    · rename_i hne
      refine ihx blk st ex st' hok.1 h w B β a _ hn fun w' B' β' a' hn' => ?_
      cases ex with
      | normal => exact absurd h (hne st')
      | exit i => exact hQ w' B' β' a' hn'
      | ret => exact hQ w' B' β' a' hn'
  | cond c x y ihx ihy =>
    intro blk st ex st' hok h w B β a Q hn hQ
    simp only [codeOK, Bool.and_eq_true] at hok
    simp only [evCode] at h
    split at h
    · rename_i t ht
      have hv := (opnd_ok hn.tms ht).bool_inv
      refine wp_cond hv ?_
      cases t with
      | true => exact ihx blk st ex st' hok.1 (by simpa using h) w B β a Q hn hQ
      | false => exact ihy blk st ex st' hok.2 (by simpa using h) w B β a Q hn hQ
    · simp at h
  | block id x ih =>
    intro blk st ex st' hok h w B β a Q hn hQ
    simp only [codeOK] at hok
    simp only [evCode] at h
    refine wp_block ?_
    split at h
    · rename_i i st1 h1
      refine ih id st (.exit i) st1 hok h1 w B β a _ hn fun w' B' β' a' hn' => ?_
      simp only [exitOf, Exit.inBlock]
      split at h
      · rename_i hi
        simp at h; obtain ⟨rfl, rfl⟩ := h
        rw [if_pos hi]; exact hQ w' B' β' a' hn'
      · rename_i hi
        simp at h; obtain ⟨rfl, rfl⟩ := h
        rw [if_neg hi]; exact hQ w' B' β' a' hn'
    · rename_i hne
      refine ih id st ex st' hok h w B β a _ hn fun w' B' β' a' hn' => ?_
      cases ex with
      | normal => exact hQ w' B' β' a' hn'
      | exit i => exact absurd h (hne i st')
      | ret => exact hQ w' B' β' a' hn'
  | loop x ih =>
    intro blk st ex st' hok h w B β a Q hn hQ
    simp only [codeOK] at hok
    simp only [evCode] at h
    refine wp_rounds (n := n) (fun m a w => ∃ st B β, iter (clean r (E.keep f blk)) (evCode E C n f r blk x) m st = some (ex, st') ∧ Now r w0 B0 β0 rd0 w B β st a) ⟨st, B, β, h, hn⟩ ?_
    rintro m a w ⟨st, B, β, hit, hn⟩
    cases m with
    | zero => simp [iter] at hit
    | succ m =>
      simp only [iter] at hit
      obtain ⟨β', hn'⟩ := clean_ok (ks := E.keep f blk) hn
      split at hit
      · rename_i st1 h1
        exact ih blk _ .normal st1 hok h1 w B β' a _ hn' fun w' B' β'' a' hn'' => ⟨m, by omega, st1, B', β'', hit, hn''⟩
      · rename_i hne
        refine ih blk _ ex st' hok hit w B β' a _ hn' fun w' B' β'' a' hn'' => ?_
        cases ex with
        | normal => exact absurd hit (hne st')
        | exit i => exact hQ w' B' β'' a' hn''
        | ret => exact hQ w' B' β'' a' hn''
  | exit id =>
    intro blk st ex st' hok h w B β a Q hn hQ
    simp [evCode] at h; obtain ⟨rfl, rfl⟩ := h
    exact wp_exit (hQ w B β a hn)
  | ret =>
    intro blk st ex st' hok h w B β a Q hn hQ
    simp [evCode] at h; obtain ⟨rfl, rfl⟩ := h
    exact wp_ret (hQ w B β a hn)
  | _ =>
    intros
    rename_i h _ _ _ _ _ _ _
    simp [evCode] at h

/-! ### results -/
def resVal (a : Act) : ResultVar → Sem Value
  | .tmp t => pure (a.tmps.getD t Go.undef)
  | .cell c t => do loadVar t (← asAddr (a.tmps.getD c Go.undef))

theorem result_ok {E : Env} (hT : TabOK P E.tab) {st : St} (hs : Sim w B β (look st.heap)) (ha : TmRel w B β st.tmps a) : ∀ {rs : List ResultVar} {vs : List PV}, resultsOf E.tab st rs = some vs →
    ∃ us : List Value, (rs.mapM (resVal a)).run P w = .ok us w ∧ Vs w B β vs us
  | [], vs, h => by simp [resultsOf] at h; subst h; exact ⟨[], by simp, .nil⟩
  | r :: rs, vs, h => by
    simp only [resultsOf] at h
    split at h
    · rename_i v vs' hv hvs
      simp at h; subst h
      obtain ⟨us, h1, h2⟩ := result_ok hT hs ha hvs
      cases r with
      | tmp t =>
        simp [resultOf] at hv; subst hv
        exact ⟨a.tmps.getD t Go.undef :: us, by simp [List.mapM_cons, h1, resVal], .cons (ha.val t) h2⟩
      | cell c t =>
        simp only [resultOf] at hv
        split at hv
        · rename_i ti ht
          simp only [Option.map_eq_some_iff] at hv
          obtain ⟨e, he, rfl⟩ := hv
          have hvc := ha.val c
          obtain ⟨g1, u, g2, g3⟩ := load_ok hs (hT t ti ht) he hvc
          have hptr : ∃ ad, a.tmps.getD c Go.undef = .pointer (some ad) := by
            generalize nth st.tmps c = p at he hvc
            generalize a.tmps.getD c Go.undef = q at hvc
            unfold loadAt at he
            cases hvc <;> first | exact ⟨_, rfl⟩ | simp at he
          obtain ⟨ad, had⟩ := hptr
          refine ⟨u :: us, ?_, .cons g3 h2⟩
          rw [had] at g2
          have g2' : (loadVar t ad).run P w = .ok u w := by simpa [Instr.loadAt, Instr.sureAddr] using g2
          simp only [List.mapM_cons, resVal, Sem.run_bind, had, asAddr, Sem.run_pure, Result.andThen_ok, g2', h1]
        · simp at hv
    · simp at h

theorem results_ok {E : Env} (hT : TabOK P E.tab) {fn : Func} {st : St} (hs : Sim w B β (look st.heap)) (ha : TmRel w B β st.tmps a) {vs : List PV} (h : resultsOf E.tab st fn.results.toList = some vs) :
    ∃ u, (results fn a.tmps).run P w = .ok u w ∧ V w B β (pack vs) u := by
  obtain ⟨us, h1, h2⟩ := result_ok hT hs ha h
  have hfun : (results fn a.tmps) = (do let vs ← fn.results.mapM (resVal a); pure (if h : vs.size = 1 then vs[0] else .tuple vs)) := by
    unfold results
    have : ∀ f : ResultVar → Sem Value, f = resVal a → (do let vs ← fn.results.mapM f; pure (if h : vs.size = 1 then vs[0] else .tuple vs) : Sem Value) = (do let vs ← fn.results.mapM (resVal a); pure (if h : vs.size = 1 then vs[0] else .tuple vs)) := fun f hf => by rw [hf]
    exact this _ (funext fun r => by cases r <;> rfl)
  refine ⟨if h : us.toArray.size = 1 then us.toArray[0] else .tuple us.toArray, ?_, ?_⟩
  · rw [hfun, Array.mapM_eq_mapM_toList]
    simp [h1]
  · cases vs with
    | nil =>
      rw [h2.of_nil]
      exact .tup [] #[] rfl fun i c v h => by simp at h
    | cons v r =>
      cases r with
      | nil =>
        obtain ⟨u, us', rfl, h3, h4⟩ := h2.uncons
        rw [h4.of_nil]
        simpa [pack] using h3
      | cons v' r' =>
        obtain ⟨u, us', rfl, h3, h4⟩ := h2.uncons
        obtain ⟨u', us'', rfl, h5, h6⟩ := h4.uncons
        simp only [pack]
        rw [dif_neg (by simp)]
        exact .tup _ _ (by simpa using h2.1) fun i c v h7 h8 => h2.2 i c v h7 (by simpa using h8)
end
end Go.Pm
