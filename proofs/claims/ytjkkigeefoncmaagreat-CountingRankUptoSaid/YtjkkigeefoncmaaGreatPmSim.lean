/-
  The heap seen from elsewhere: other numbers for its objects, two heaps side by side, a later world.
-/
import Derived.Test.YtjkkigeefoncmaaGreatPmBasic
set_option linter.unusedVariables false
set_option linter.unusedSimpArgs false
namespace Go.Pm
open Go

section
variable {w w' w'' : World} {B B' B'' : Nat → Prop} {β β' β'' : Map} {rd rd' rd'' rd1 rd2 : Rd} {g : Nat → Option Nat}

/-- A turn of the heap after which only the first places keep their numbers. -/
structure StepR (r : Nat) (w : World) (B : Nat → Prop) (β : Map) (rd : Rd) (w' : World) (B' : Nat → Prop) (β' : Map) (rd' : Rd) : Prop where
  sim : Sim w' B' β' rd'
  ext : Ext (Mut β rd) w w'
  bsub : ∀ b, B b → B' b
  bnew : ∀ b, B' b → B b ∨ Mut β rd b ∨ w.heap.size ≤ b
  muts : ∀ b, Mut β' rd' b → Mut β rd b ∨ w.heap.size ≤ b
  ins : ∀ b, In β' rd' b → In β rd b ∨ w.heap.size ≤ b
  map : ∀ a l, a < r → β a = some l → β' a = some l

theorem Step.toR (h : Step w B β rd w' B' β' rd') (r : Nat) : StepR r w B β rd w' B' β' rd' :=
  ⟨h.sim, h.ext, h.bsub, h.bnew, h.muts, h.ins, fun a l _ => h.map a l⟩
theorem StepR.refl {r : Nat} (hs : Sim w B β rd) : StepR r w B β rd w B β rd := (Step.refl hs).toR r
theorem StepR.trans {r : Nat} (h : StepR r w B β rd w' B' β' rd') (k : StepR r w' B' β' rd' w'' B'' β'' rd'') : StepR r w B β rd w'' B'' β'' rd'' where
  sim := k.sim
  ext := h.ext.trans k.ext h.muts
  bsub := fun b hb => k.bsub b (h.bsub b hb)
  bnew := fun b hb => by
    rcases k.bnew b hb with h1 | h1 | h1
    · exact h.bnew b h1
    · exact .inr (h.muts b h1)
    · exact .inr (.inr (Nat.le_trans h.ext.size h1))
  muts := fun b hb => by
    rcases k.muts b hb with h1 | h1
    · exact h.muts b h1
    · exact .inr (Nat.le_trans h.ext.size h1)
  ins := fun b hb => by
    rcases k.ins b hb with h1 | h1
    · exact h.ins b h1
    · exact .inr (Nat.le_trans h.ext.size h1)
  map := fun a l hr hl => k.map a l hr (h.map a l hr hl)

theorem V.remap (hm : ∀ a l, β a = some l → β' a = some l) {p : PV} {v : Value} (h : V w B β p v) : V w B β' p v := h.keep (fun _ h => h) (fun _ _ => rfl) hm (fun _ _ h => h)
theorem Vs.remap (hm : ∀ a l, β a = some l → β' a = some l) {p : List PV} {v : List Value} (h : Vs w B β p v) : Vs w B β' p v := h.keep (fun _ h => h) (fun _ _ => rfl) hm (fun _ _ h => h)

theorem Sim.remap (h : Sim w B β rd) (hm : ∀ a l, β a = some l → β' a = some l) (hd : ∀ a o, rd a = some o → β' a = β a) : Sim w B β' rd := by
  refine Sim.of (fun a o ha => ?_) (fun a o l ha hn hl => h.excl a o l ha hn ((hd a o ha).symm.trans hl))
    (fun a b o p l m ha hb hne hl hm' => h.inj a b o p l m ha hb hne ((hd a o ha).symm.trans hl) ((hd b p hb).symm.trans hm')) h.lt
    (fun a k xs fl l ha hl => h.frz a k xs fl l ha ((hd _ _ ha).symm.trans hl))
  rcases h.cases ha with ⟨l, h1, c, e, h2, h3⟩ | ⟨h1, h2⟩
  · exact .inl ⟨l, hm a l h1, c, e, h2, h3.keep (fun _ h => h) (fun _ _ => rfl) hm (fun _ _ h => h)⟩
  · exact .inr ⟨(hd a o ha).trans h1, h2⟩

/-- Fewer objects. -/
theorem Sim.less (h : Sim w B β rd) (hr : ∀ a o, rd' a = some o → rd a = some o) : Sim w B β rd' :=
  Sim.of (fun a o ha => h.cases (hr a o ha)) (fun a o l ha => h.excl a o l (hr a o ha)) (fun a b o p l m ha hb => h.inj a b o p l m (hr a o ha) (hr b p hb)) h.lt (fun a k xs fl l ha => h.frz a k xs fl l (hr _ _ ha))

theorem Sim.union (h : Sim w B β rd) (k : Sim w B β rd1) (hr : ∀ a o, rd2 a = some o → rd a = some o ∨ rd1 a = some o)
    (hb : ∀ a b o p l m, rd a = some o → rd1 b = some p → β a = some l → β b = some m → l.block ≠ m.block) : Sim w B β rd2 :=
  Sim.of (fun a o ha => (hr a o ha).elim h.cases k.cases) (fun a o l ha => (hr a o ha).elim (h.excl a o l) (k.excl a o l))
    (fun a b o p l m ha hb' hne hl hm => by
      rcases hr a o ha with h1 | h1 <;> rcases hr b p hb' with h2 | h2
      · exact h.inj a b o p l m h1 h2 hne hl hm
      · exact hb a b o p l m h1 h2 hl hm
      · exact (hb b a p o m l h2 h1 hm hl).symm
      · exact k.inj a b o p l m h1 h2 hne hl hm)
    h.lt (fun a k' xs fl l ha hl => (hr _ _ ha).elim (fun q => h.frz a k' xs fl l q hl) (fun q => k.frz a k' xs fl l q hl))

theorem Sim.grow (hs : Sim w B β rd) (hB : ∀ b, B b → B' b) (hw : ∀ b, B b ∨ In β rd b → w'.heap[b]? = w.heap[b]?) (hr : ∀ b n, Room w b n → Room w' b n)
    (hB' : ∀ b, B' b → b < w'.heap.size) (hnew : ∀ b, B' b → B b ∨ ¬ In β rd b) : Sim w' B' β rd := by
  refine Sim.of (fun a o ha => ?_) (fun a o l ha hn hl hb => ?_) hs.inj hB' (fun a k xs fl l ha hl => hB _ (hs.frz a k xs fl l ha hl))
  · rcases hs.cases ha with ⟨l, h1, c, e, h2, h3⟩ | h1
    · exact .inl ⟨l, h1, c, e, by rw [hw _ (.inr ⟨a, o, l, ha, h1, rfl⟩)]; exact h2, h3.keep hB (fun b hb => hw b (.inl hb)) (fun _ _ h => h) hr⟩
    · exact .inr h1
  · rcases hnew _ hb with h1 | h1
    · exact hs.excl a o l ha hn hl h1
    · exact h1 ⟨a, o, l, ha, hl, rfl⟩

/-! ### other numbers -/
theorem rens_eq (g : Nat → Option Nat) : ∀ cs : List PV, rens g cs = cs.map (ren g)
  | [] => rfl
  | c :: cs => by simp [rens, rens_eq g cs]

theorem V.ren (hg : ∀ a j l, g a = some j → β a = some l → β' j = some l) {p : PV} {v : Value} (h : V w B β p v) : V w B β' (ren g p) v := by
  induction h with
  | undef v => exact .undef v
  | void => exact .void
  | bool b => exact .bool b
  | int k n => exact .int k n
  | str s => exact .str s
  | nilp => exact .nilp
  | nils => exact .nils
  | nilf => exact .nilf
  | ptr a o l h =>
    simp only [Pm.ren]
    split
    · rename_i j hj; exact .ptr j o l (hg a j l hj h)
    · exact .undef _
  | aptr a i o l h =>
    simp only [Pm.ren]
    split
    · rename_i j hj; exact .aptr j i o l (hg a j l hj h)
    · exact .undef _
  | own0 a k off b =>
    simp only [Pm.ren]
    split
    · exact .own0 _ _ _ _
    · exact .undef _
  | own a off len cap l h hc hr =>
    simp only [Pm.ren]
    split
    · rename_i j hj; exact .own j off len cap l (hg a j l hj h) hc hr
    · exact .undef _
  | lit0 fl b cap => exact .lit0 fl b cap
  | lit xs fl b o k cap val hb hn hf hk hcell ho hv ih => exact .lit xs fl b o k cap val hb hn hf hk hcell ho hv
  | eptr xs i o b off k val hb hk hcell ho hv ih => exact .eptr xs i o b off k val hb hk hcell ho hv
  | agg cs vs hl ho hv ih =>
    simp only [Pm.ren, rens_eq]
    refine .agg _ vs (by simpa using hl) ho fun i c v h1 h2 => ?_
    simp only [List.getElem?_map, Option.map_eq_some_iff] at h1
    obtain ⟨c', h1, rfl⟩ := h1
    exact ih i c' v h1 h2 hg
  | tup cs vs hl hv ih =>
    simp only [Pm.ren, rens_eq]
    refine .tup _ vs (by simpa using hl) fun i c v h1 h2 => ?_
    simp only [List.getElem?_map, Option.map_eq_some_iff] at h1
    obtain ⟨c', h1, rfl⟩ := h1
    exact ih i c' v h1 h2 hg
  | fn f cs vs hl hv ih =>
    simp only [Pm.ren, rens_eq]
    refine .fn f _ vs (by simpa using hl) fun i c v h1 h2 => ?_
    simp only [List.getElem?_map, Option.map_eq_some_iff] at h1
    obtain ⟨c', h1, rfl⟩ := h1
    exact ih i c' v h1 h2 hg

theorem Vs.ren (hg : ∀ a j l, g a = some j → β a = some l → β' j = some l) {p : List PV} {v : List Value} (h : Vs w B β p v) : Vs w B β' (rens g p) v := by
  rw [rens_eq]
  refine ⟨by simpa using h.1, fun i c v h1 h2 => ?_⟩
  simp only [List.getElem?_map, Option.map_eq_some_iff] at h1
  obtain ⟨c', h1, rfl⟩ := h1
  exact (h.2 i c' v h1 h2).ren hg

theorem Sim.ren (hs : Sim w B β rd) (hg : ∀ a j l, g a = some j → β a = some l → β' j = some l)
    (hr : ∀ j o', rd' j = some o' → ∃ a o, rd a = some o ∧ g a = some j ∧ o' = renObj g o ∧ β' j = β a) : Sim w B β' rd' := by
  have hmut : ∀ o : PObj, (∀ k xs fl, renObj g o ≠ .arr k xs fl true) → ∀ k xs fl, o ≠ .arr k xs fl true := fun o h k xs fl he => h k xs fl (by rw [he]; rfl)
  refine Sim.of (fun j o' hj => ?_) (fun j o' l hj hn hl => ?_) (fun j j' o' p' l m hj hj' hne hl hm => ?_) hs.lt (fun j k xs fl l hj hl => ?_)
  · obtain ⟨a, o, ha, hga, rfl, hβ⟩ := hr j o' hj
    rcases hs.cases ha with ⟨l, h1, c, e, h2, h3⟩ | ⟨h1, k, fl, fz, rfl⟩
    · refine .inl ⟨l, hβ.trans h1, c, e, h2, ?_⟩
      cases o with
      | box cs => exact ⟨h3.1, h3.2.1.ren hg, h3.2.2⟩
      | arr k xs fl fz => exact h3
    · exact .inr ⟨hβ.trans h1, k, fl, fz, rfl⟩
  · obtain ⟨a, o, ha, hga, rfl, hβ⟩ := hr j o' hj
    exact hs.excl a o l ha (hmut o hn) (hβ.symm.trans hl)
  · obtain ⟨a, o, ha, hga, rfl, hβ⟩ := hr j o' hj
    obtain ⟨b, p, hb, hgb, rfl, hβ'⟩ := hr j' p' hj'
    exact hs.inj a b o p l m ha hb (fun h => hne (by subst h; rw [hga] at hgb; exact Option.some.inj hgb)) (hβ.symm.trans hl) (hβ'.symm.trans hm)
  · obtain ⟨a, o, ha, hga, he, hβ⟩ := hr j _ hj
    cases o with
    | box cs => simp [renObj] at he
    | arr k' xs' fl' fz => simp [renObj] at he; obtain ⟨rfl, rfl, rfl, rfl⟩ := he; exact hs.frz a _ _ _ l ha (hβ.symm.trans hl)

theorem Mut.ren (hr : ∀ j o', rd' j = some o' → ∃ a o, rd a = some o ∧ g a = some j ∧ o' = renObj g o ∧ β' j = β a) {b : Nat} (h : Mut β' rd' b) : Mut β rd b := by
  obtain ⟨j, o', l, h1, h2, h3, h4⟩ := h
  obtain ⟨a, o, ha, hga, rfl, hβ⟩ := hr j o' h1
  exact ⟨a, o, l, ha, fun k xs fl he => h2 k xs fl (by rw [he]; rfl), hβ.symm.trans h3, h4⟩

/-! ### the places in order -/
theorem pos_spec : ∀ {L : List Nat} {a i j : Nat}, pos L a i = some j → i ≤ j ∧ L[j - i]? = some a
  | [], a, i, j, h => by simp [pos] at h
  | b :: r, a, i, j, h => by
    unfold pos at h
    split at h
    · rename_i hab
      simp at h hab; subst h; subst hab
      simp
    · have := pos_spec h
      refine ⟨by omega, ?_⟩
      have e : j - i = (j - (i + 1)) + 1 := by omega
      rw [e, List.getElem?_cons_succ]; exact this.2

theorem pos_of : ∀ {L : List Nat} {a i n : Nat}, L.Nodup → L[n]? = some a → pos L a i = some (i + n)
  | [], a, i, n, _, h => by simp at h
  | b :: r, a, i, n, hn, h => by
    unfold pos
    cases n with
    | zero => simp at h; subst h; simp
    | succ n =>
      simp at h
      have hne : (a == b) = false := by
        simp only [beq_eq_false_iff_ne]
        rintro rfl
        exact (List.nodup_cons.1 hn).1 (List.mem_of_getElem? h)
      rw [hne]
      simp only [Bool.false_eq_true, ↓reduceIte]
      rw [pos_of (List.nodup_cons.1 hn).2 h]
      congr 1; omega

theorem reach_ok (rd : Rd) : ∀ (n : Nat) (q seen : List Nat), seen.Nodup → (reach rd n q seen).Nodup ∧ ∃ t, reach rd n q seen = seen ++ t
  | 0, q, seen, h => ⟨h, [], by simp [reach]⟩
  | n + 1, [], seen, h => ⟨h, [], by simp [reach]⟩
  | n + 1, a :: r, seen, h => by
    unfold reach
    split
    · exact reach_ok rd n r seen h
    · rename_i hs
      have hna : a ∉ seen := fun hm => hs (has_iff.2 hm)
      have hnd : (seen ++ [a]).Nodup := by
        rw [List.nodup_append]
        refine ⟨h, by simp, fun x hx y hy => ?_⟩
        simp at hy; subst hy
        rintro rfl; exact hna hx
      split
      · obtain ⟨h1, t, h2⟩ := reach_ok rd n (r ++ idss _) (seen ++ [a]) hnd
        exact ⟨h1, a :: t, by rw [h2]; simp⟩
      · obtain ⟨h1, t, h2⟩ := reach_ok rd n r (seen ++ [a]) hnd
        exact ⟨h1, a :: t, by rw [h2]; simp⟩
      · obtain ⟨h1, t, h2⟩ := reach_ok rd n r (seen ++ [a]) hnd
        exact ⟨h1, a :: t, by rw [h2]; simp⟩

theorem order_ok (rd : Rd) {roots : List Nat} (vals : List PV) (h : roots.Nodup) : (order rd roots vals).Nodup ∧ ∀ (i a : Nat), roots[i]? = some a → (order rd roots vals)[i]? = some a := by
  obtain ⟨h1, t, h2⟩ := reach_ok rd reachFuel (kids rd roots ++ idss vals) roots h
  refine ⟨h1, fun i a hi => ?_⟩
  unfold order
  rw [h2, List.getElem?_append_left]
  · exact hi
  · rcases Nat.lt_or_ge i roots.length with h' | h'
    · exact h'
    · simp [List.getElem?_eq_none h'] at hi

theorem upto_eq : ∀ n, upto n = List.range n
  | 0 => rfl
  | n + 1 => by simp [upto, upto_eq n, List.range_succ]
theorem upto_nodup (n : Nat) : (upto n).Nodup := by rw [upto_eq]; exact List.nodup_range
theorem upto_get {n i : Nat} (h : i < n) : (upto n)[i]? = some i := by rw [upto_eq]; simp [h]

theorem look_picks (rd : Rd) (g : Nat → Option Nat) : ∀ (L : List Nat) (i j : Nat), look (picks rd g L i) j = if i ≤ j then ((L[j - i]?).bind rd).map (renObj g) else none
  | [], i, j => by simp [picks, look]
  | a :: r, i, j => by
    unfold picks
    split
    · rename_i o ho
      unfold look
      by_cases hj : j = i
      · subst hj; simp [ho]
      · have : (j == i) = false := by simpa using hj
        rw [this, look_picks rd g r (i + 1) j]
        simp only [Bool.false_eq_true, ↓reduceIte]
        by_cases hle : i + 1 ≤ j
        · have e : j - i = (j - (i + 1)) + 1 := by omega
          rw [if_pos hle, if_pos (by omega), e, List.getElem?_cons_succ]
        · rw [if_neg hle, if_neg (by omega)]
    · rename_i ho
      rw [look_picks rd g r (i + 1) j]
      by_cases hj : j = i
      · subst hj; rw [if_neg (by omega), if_pos (Nat.le_refl _)]; simp [ho]
      · by_cases hle : i + 1 ≤ j
        · have e : j - i = (j - (i + 1)) + 1 := by omega
          rw [if_pos hle, if_pos (by omega), e, List.getElem?_cons_succ]
        · rw [if_neg hle, if_neg (by omega)]

/-- The map behind a new numbering. -/
def renM (L : List Nat) (β : Map) : Map := fun j => (L[j]?).bind β

theorem renM_hg (L : List Nat) (β : Map) : ∀ a j l, pos L a 0 = some j → β a = some l → renM L β j = some l := fun a j l h hl => by
  have := (pos_spec h).2
  simp at this
  simp [renM, this, hl]

theorem picks_hr {L : List Nat} (hL : L.Nodup) (rd : Rd) (β : Map) : ∀ j o', look (picks rd (fun a => pos L a 0) L 0) j = some o' → ∃ a o, rd a = some o ∧ pos L a 0 = some j ∧ o' = renObj (fun a => pos L a 0) o ∧ renM L β j = β a := fun j o' h => by
  rw [look_picks] at h
  simp only [Nat.zero_le, ↓reduceIte, Nat.sub_zero, Option.map_eq_some_iff, Option.bind_eq_some_iff] at h
  obtain ⟨o, ⟨a, ha, ho⟩, rfl⟩ := h
  exact ⟨a, o, ho, by rw [pos_of hL ha]; simp, rfl, by simp [renM, ha]⟩

/-- The numbering that a list of places gives. -/
theorem Sim.picks (hs : Sim w B β rd) {L : List Nat} (hL : L.Nodup) : Sim w B (renM L β) (look (picks rd (fun a => pos L a 0) L 0)) :=
  hs.ren (renM_hg L β) (picks_hr hL rd β)

theorem picks_free (rd : Rd) (g : Nat → Option Nat) (L : List Nat) (β : Map) (j : Nat) (h : L.length ≤ j) : renM L β j = none ∧ look (Pm.picks rd g L 0) j = none := by
  rw [look_picks]
  simp [renM, List.getElem?_eq_none h]
end
end Go.Pm
