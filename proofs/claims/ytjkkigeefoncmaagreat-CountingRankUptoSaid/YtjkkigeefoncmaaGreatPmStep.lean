/-
  Steps of the heap: a new object, an object written, an object that is data from now on, an object forgotten.
-/
import Derived.Test.YtjkkigeefoncmaaGreatPmOps
set_option linter.unusedVariables false
set_option linter.unusedSimpArgs false
namespace Go.Pm
open Go

def setM (β : Map) (a : Nat) (l : Loc) : Map := fun b => if b = a then some l else β b
def setR (rd : Rd) (a : Nat) (o : Option PObj) : Rd := fun b => if b = a then o else rd b
def rdU (rd : Rd) : Upd → Rd
  | [] => rd
  | (a, o) :: r => rdU (setR rd a o) r

theorem rdU_append (rd : Rd) (u v : Upd) : rdU rd (u ++ v) = rdU (rdU rd u) v := by
  induction u generalizing rd with
  | nil => rfl
  | cons x u ih => obtain ⟨a, o⟩ := x; simp [rdU, ih]

/-- A turn of the heap. -/
structure Step (w : World) (B : Nat → Prop) (β : Map) (rd : Rd) (w' : World) (B' : Nat → Prop) (β' : Map) (rd' : Rd) : Prop where
  sim : Sim w' B' β' rd'
  ext : Ext (Mut β rd) w w'
  bsub : ∀ b, B b → B' b
  bnew : ∀ b, B' b → B b ∨ Mut β rd b ∨ w.heap.size ≤ b
  muts : ∀ b, Mut β' rd' b → Mut β rd b ∨ w.heap.size ≤ b
  ins : ∀ b, In β' rd' b → In β rd b ∨ w.heap.size ≤ b
  map : ∀ a l, β a = some l → β' a = some l

section
variable {w w' w'' : World} {B B' B'' : Nat → Prop} {β β' β'' : Map} {rd rd' rd'' : Rd}

theorem Step.refl (hs : Sim w B β rd) : Step w B β rd w B β rd :=
  ⟨hs, .refl _ _, fun _ h => h, fun _ h => .inl h, fun _ h => .inl h, fun _ h => .inl h, fun _ _ h => h⟩

theorem Step.trans (h : Step w B β rd w' B' β' rd') (k : Step w' B' β' rd' w'' B'' β'' rd'') : Step w B β rd w'' B'' β'' rd'' where
  sim := k.sim
  ext := h.ext.trans k.ext h.muts
  bsub := fun b hb => k.bsub b (h.bsub b hb)
  bnew := fun b hb => by
    rcases k.bnew b hb with h1 | h1 | h1
    · exact h.bnew b h1
    · exact .inr (h.muts b h1)
    · exact .inr (.inr (Nat.le_trans h.ext.size h1))
  muts := fun b hb => by
    rcases k.muts b hb with h1 | h1
    · exact h.muts b h1
    · exact .inr (Nat.le_trans h.ext.size h1)
  ins := fun b hb => by
    rcases k.ins b hb with h1 | h1
    · exact h.ins b h1
    · exact .inr (Nat.le_trans h.ext.size h1)
  map := fun a l ha => k.map a l (h.map a l ha)

theorem Sim.notMut (hs : Sim w B β rd) {b : Nat} (hb : B b) : ¬ Mut β rd b := by
  rintro ⟨a, o, l, h1, h2, h3, rfl⟩
  exact hs.excl a o l h1 h2 h3 hb

theorem Step.keep (hs : Sim w B β rd) (h : Step w B β rd w' B' β' rd') {p : PV} {v : Value} (hv : V w B β p v) : V w' B' β' p v :=
  hv.keep h.bsub (fun b hb => h.ext.block b (hs.lt b hb) (hs.notMut hb)) h.map h.ext.room
theorem Step.keep0 (hs : Sim w B β rd) (h : Step w B β rd w' B' β' rd') {p : PV} {v : Value} (hv : V w B (fun _ => none) p v) : V w' B' (fun _ => none) p v :=
  hv.keep h.bsub (fun b hb => h.ext.block b (hs.lt b hb) (hs.notMut hb)) (fun _ _ h => h) h.ext.room
theorem Step.keeps (hs : Sim w B β rd) (h : Step w B β rd w' B' β' rd') {p : List PV} {v : List Value} (hv : Vs w B β p v) : Vs w' B' β' p v :=
  hv.keep h.bsub (fun b hb => h.ext.block b (hs.lt b hb) (hs.notMut hb)) h.map h.ext.room

theorem Sim.block_lt (hs : Sim w B β rd) {a : Nat} {o : PObj} {l : Loc} (h : rd a = some o) (hl : β a = some l) : l.block < w.heap.size := by
  have : ∃ x, w.heap[l.block]? = some x := by
    cases o with
    | box cs =>
      obtain ⟨m, c, e, h1, h2, h3, _⟩ := hs.box a cs h
      rw [hl] at h1; obtain rfl := Option.some.inj h1
      exact ⟨_, h3⟩
    | arr k xs fl fz =>
      obtain ⟨_, _, h3⟩ := hs.arr a k xs fl fz h
      rcases h3 with ⟨_, h3⟩ | ⟨m, c, e, h1, h2, h4, _⟩
      · rw [hl] at h3; simp at h3
      · rw [hl] at h1; obtain rfl := Option.some.inj h1
        exact ⟨_, h4⟩
  obtain ⟨x, hx⟩ := this
  rcases Nat.lt_or_ge l.block w.heap.size with h' | h'
  · exact h'
  · simp [Array.getElem?_eq_none h'] at hx

/-- Only the blocks count. -/
theorem V.heap {p : PV} {v : Value} (hv : V w B β p v) (h : w'.heap = w.heap) : V w' B β p v :=
  hv.keep (fun _ h => h) (fun b _ => by rw [h]) (fun _ _ h => h) (fun b n ⟨c, e, h1, h2⟩ => ⟨c, e, by rw [h]; exact h1, h2⟩)
theorem Vs.heap {p : List PV} {v : List Value} (hv : Vs w B β p v) (h : w'.heap = w.heap) : Vs w' B β p v :=
  ⟨hv.1, fun i c u h1 h2 => (hv.2 i c u h1 h2).heap h⟩

theorem Sim.heap (hs : Sim w B β rd) (h : w'.heap = w.heap) : Sim w' B β rd where
  box := fun a cs ha => by
    obtain ⟨l, c, e, h1, h2, h3, h4, h5⟩ := hs.box a cs ha
    exact ⟨l, c, e, h1, h2, by rw [h]; exact h3, h4.heap h, h5⟩
  arr := fun a k xs fl fz ha => by
    obtain ⟨h1, h2, h3⟩ := hs.arr a k xs fl fz ha
    refine ⟨h1, h2, h3.imp id ?_⟩
    rintro ⟨l, c, e, g1, g2, g3, g4⟩
    exact ⟨l, c, e, g1, g2, by rw [h]; exact g3, fun i x j p q1 q2 => by obtain ⟨v, r1, r2, r3⟩ := g4 i x j p q1 q2; exact ⟨v, r1, r2, r3.heap h⟩⟩
  excl := hs.excl
  inj := hs.inj
  lt := fun b hb => by rw [h]; exact hs.lt b hb
  frz := hs.frz

theorem Step.draw (hs : Sim w B β rd) (n : Nat) : Step w B β rd { w with drawn := n } B β rd :=
  ⟨hs.heap rfl, ⟨rfl, rfl, rfl, Nat.le_refl _, fun _ _ _ => rfl, fun _ _ h => h⟩, fun _ h => h, fun _ h => .inl h, fun _ h => .inl h, fun _ h => .inl h, fun _ _ h => h⟩

/-- What an object's cells are to be. -/
def ObjOK (w : World) (B : Nat → Prop) (β : Map) (o : PObj) (l : Loc) (c : Array Value) : Prop :=
  match o with
  | .box cs => l.off = 0 ∧ Vs w B β cs c.toList ∧ (∀ v ∈ c.toList, v.oneCell' = true)
  | .arr k xs fl fz => (fl = true → AllPlain xs) ∧ (∀ x ∈ xs, x.length = k) ∧ l.k = k ∧ ArrAt w B l xs c

theorem ObjOK.keep {o : PObj} {l : Loc} {c : Array Value} (h : ObjOK w B β o l c) (hB : ∀ b, B b → B' b) (hw : ∀ b, B b → w'.heap[b]? = w.heap[b]?)
    (hβ : ∀ a l, β a = some l → β' a = some l) (hr : ∀ b n, Room w b n → Room w' b n) : ObjOK w' B' β' o l c := by
  cases o with
  | box cs => exact ⟨h.1, h.2.1.keep hB hw hβ hr, h.2.2⟩
  | arr k xs fl fz => exact ⟨h.1, h.2.1, h.2.2.1, fun i x j p h1 h2 => by obtain ⟨v, r1, r2, r3⟩ := h.2.2.2 i x j p h1 h2; exact ⟨v, r1, r2, r3.keep hB hw (fun _ _ h => h) hr⟩⟩

/-- What is known of an object. -/
theorem Sim.obj (hs : Sim w B β rd) {a : Nat} {o : PObj} {l : Loc} (h : rd a = some o) (hl : β a = some l) : ∃ c e, w.heap[l.block]? = some (.cells c e (0, 0)) ∧ ObjOK w B β o l c := by
  cases o with
  | box cs =>
    obtain ⟨m, c, e, h1, h2, h3, h4, h5⟩ := hs.box a cs h
    rw [hl] at h1; obtain rfl := Option.some.inj h1
    exact ⟨c, e, h3, h2, h4, h5⟩
  | arr k xs fl fz =>
    obtain ⟨h0, h1', h3⟩ := hs.arr a k xs fl fz h
    rcases h3 with ⟨_, h3⟩ | ⟨m, c, e, h1, h2, h4, h5⟩
    · rw [hl] at h3; simp at h3
    · rw [hl] at h1; obtain rfl := Option.some.inj h1
      exact ⟨c, e, h4, h0, h1', h2, h5⟩

/-- The heap out of its objects. -/
theorem Sim.of (hobj : ∀ a o, rd a = some o → (∃ l, β a = some l ∧ ∃ c e, w.heap[l.block]? = some (.cells c e (0, 0)) ∧ ObjOK w B β o l c) ∨ (β a = none ∧ ∃ k fl fz, o = .arr k [] fl fz))
    (excl : ∀ a o l, rd a = some o → (∀ k xs fl, o ≠ .arr k xs fl true) → β a = some l → ¬ B l.block)
    (inj : ∀ a b o p l m, rd a = some o → rd b = some p → a ≠ b → β a = some l → β b = some m → l.block ≠ m.block)
    (lt : ∀ b, B b → b < w.heap.size) (frz : ∀ a k xs fl l, rd a = some (.arr k xs fl true) → β a = some l → B l.block) : Sim w B β rd where
  box := fun a cs ha => by
    rcases hobj a _ ha with ⟨l, h1, c, e, h2, h3⟩ | ⟨_, k, fl, fz, h⟩
    · exact ⟨l, c, e, h1, h3.1, h2, h3.2.1, h3.2.2⟩
    · simp at h
  arr := fun a k xs fl fz ha => by
    rcases hobj a _ ha with ⟨l, h1, c, e, h2, h3⟩ | ⟨h0, k', fl', fz', h⟩
    · exact ⟨h3.1, h3.2.1, .inr ⟨l, c, e, h1, h3.2.2.1, h2, h3.2.2.2⟩⟩
    · simp at h; obtain ⟨rfl, rfl, rfl, rfl⟩ := h
      exact ⟨fun _ x hx => by simp at hx, by simp, .inl ⟨rfl, h0⟩⟩
  excl := excl
  inj := inj
  lt := lt
  frz := frz

theorem Sim.cases (hs : Sim w B β rd) {a : Nat} {o : PObj} (h : rd a = some o) : (∃ l, β a = some l ∧ ∃ c e, w.heap[l.block]? = some (.cells c e (0, 0)) ∧ ObjOK w B β o l c) ∨ (β a = none ∧ ∃ k fl fz, o = .arr k [] fl fz) := by
  cases hl : β a with
  | some l => exact .inl ⟨l, rfl, hs.obj h hl⟩
  | none =>
    refine .inr ⟨rfl, ?_⟩
    cases o with
    | box cs =>
      obtain ⟨m, c, e, h1, _⟩ := hs.box a cs h
      rw [hl] at h1; simp at h1
    | arr k xs fl fz =>
      obtain ⟨_, _, h3⟩ := hs.arr a k xs fl fz h
      rcases h3 with ⟨rfl, _⟩ | ⟨m, c, e, h1, _⟩
      · exact ⟨k, fl, fz, rfl⟩
      · rw [hl] at h1; simp at h1

/-- (1) A new object. -/
theorem Step.new (hs : Sim w B β rd) {a : Nat} (hβ : β a = none) (hr : rd a = none) (c : Array Value) (t k : Nat) (o : PObj)
    (ho : ObjOK w B β o ⟨w.heap.size, 0, k⟩ c) (hz : ∀ k xs fl, o ≠ .arr k xs fl true) :
    Step w B β rd (w.alloc (.cells c t)) B (setM β a ⟨w.heap.size, 0, k⟩) (setR rd a (some o)) := by
  have hmap : ∀ b l, β b = some l → setM β a ⟨w.heap.size, 0, k⟩ b = some l := fun b l hb => by
    unfold setM; split
    · subst_vars; rw [hβ] at hb; simp at hb
    · exact hb
  have hold : ∀ b, b < w.heap.size → (w.alloc (.cells c t)).heap[b]? = w.heap[b]? := fun b hb => Go.RowKit.Below.heap_alloc _ _ _ hb
  have hroom : ∀ b n, Room w b n → Room (w.alloc (.cells c t)) b n := (Ext.alloc (fun _ => False) w _).room
  have hkeep : ∀ p v, V w B β p v → V (w.alloc (.cells c t)) B (setM β a ⟨w.heap.size, 0, k⟩) p v := fun p v hv =>
    hv.keep (fun _ h => h) (fun b hb => hold b (hs.lt b hb)) hmap hroom
  have hko : ∀ o1 l1 c1, ObjOK w B β o1 l1 c1 → ObjOK (w.alloc (.cells c t)) B (setM β a ⟨w.heap.size, 0, k⟩) o1 l1 c1 := fun o1 l1 c1 hv =>
    hv.keep (fun _ h => h) (fun b hb => hold b (hs.lt b hb)) hmap hroom
  have hnew : (w.alloc (.cells c t)).heap[w.heap.size]? = some (.cells c t (0, 0)) := by unfold World.alloc; simp only [Array.getElem?_push, ↓reduceIte]
  refine ⟨Sim.of ?_ ?_ ?_ ?_ ?_, .alloc _ _ _, fun _ h => h, fun _ h => .inl h, ?_, ?_, hmap⟩
  · intro b p hb
    unfold setR at hb
    split at hb
    · rename_i hba; subst hba
      simp at hb; subst hb
      refine .inl ⟨_, by simp [setM], c, t, hnew, hko _ _ _ ho⟩
    · rename_i hba
      rcases hs.cases hb with ⟨l, h1, c', e, h2, h3⟩ | ⟨h1, h2⟩
      · exact .inl ⟨l, hmap b l h1, c', e, by rw [hold _ (hs.block_lt hb h1)]; exact h2, hko _ _ _ h3⟩
      · exact .inr ⟨by simp [setM, hba, h1], h2⟩
  · intro b p l hb hp hl
    unfold setR at hb; unfold setM at hl
    split at hb
    · rename_i hba
      rw [if_pos hba] at hl
      obtain rfl := Option.some.inj hl
      intro hB
      exact absurd (hs.lt _ hB) (Nat.lt_irrefl _)
    · rename_i hba
      rw [if_neg hba] at hl
      exact hs.excl b p l hb hp hl
  · intro b d p q l m hb hd hne hl hm
    unfold setR at hb hd; unfold setM at hl hm
    split at hb
    · rename_i hba
      rw [if_pos hba] at hl
      obtain rfl := Option.some.inj hl
      have hda : d ≠ a := fun h => hne (hba.trans h.symm)
      rw [if_neg hda] at hd hm
      exact Nat.ne_of_gt (hs.block_lt hd hm)
    · rename_i hba
      rw [if_neg hba] at hl
      split at hd
      · rename_i hda
        rw [if_pos hda] at hm
        obtain rfl := Option.some.inj hm
        exact Nat.ne_of_lt (hs.block_lt hb hl)
      · rename_i hda
        rw [if_neg hda] at hm
        exact hs.inj b d p q l m hb hd hne hl hm
  · intro b hb
    have := hs.lt b hb
    simp; omega
  · intro b k' xs fl l hb hl
    unfold setR at hb; unfold setM at hl
    split at hb
    · simp at hb; exact absurd hb (hz k' xs fl)
    · rename_i hba
      rw [if_neg hba] at hl
      exact hs.frz b k' xs fl l hb hl
  · rintro b ⟨d, p, l, h1, h2, h3, rfl⟩
    unfold setR at h1; unfold setM at h3
    split at h1
    · rename_i hda
      rw [if_pos hda] at h3
      obtain rfl := Option.some.inj h3
      exact .inr (Nat.le_refl _)
    · rename_i hda
      rw [if_neg hda] at h3
      exact .inl ⟨d, p, l, h1, h2, h3, rfl⟩
  · rintro b ⟨d, p, l, h1, h3, rfl⟩
    unfold setR at h1; unfold setM at h3
    split at h1
    · rename_i hda
      rw [if_pos hda] at h3
      obtain rfl := Option.some.inj h3
      exact .inr (Nat.le_refl _)
    · rename_i hda
      rw [if_neg hda] at h3
      exact .inl ⟨d, p, l, h1, h3, rfl⟩

/-- (1') A new object without elements and without a place. -/
theorem Step.new0 (hs : Sim w B β rd) {a : Nat} (hβ : β a = none) (hr : rd a = none) (k : Nat) (fl : Bool) :
    Step w B β rd w B β (setR rd a (some (.arr k [] fl false))) := by
  refine ⟨Sim.of ?_ ?_ ?_ hs.lt ?_, .refl _ _, fun _ h => h, fun _ h => .inl h, ?_, ?_, fun _ _ h => h⟩
  · intro b p hb
    unfold setR at hb
    split at hb
    · rename_i hba; subst hba; simp at hb; subst hb; exact .inr ⟨hβ, k, fl, false, rfl⟩
    · exact hs.cases hb
  · intro b p l hb hp hl
    unfold setR at hb
    split at hb
    · rename_i hba; subst hba; rw [hβ] at hl; simp at hl
    · exact hs.excl b p l hb hp hl
  · intro b d p q l m hb hd hne hl hm
    unfold setR at hb hd
    split at hb
    · rename_i hba; subst hba; rw [hβ] at hl; simp at hl
    · split at hd
      · rename_i hda; subst hda; rw [hβ] at hm; simp at hm
      · exact hs.inj b d p q l m hb hd hne hl hm
  · intro b k' xs fl' l hb hl
    unfold setR at hb
    split at hb
    · simp at hb
    · exact hs.frz b k' xs fl' l hb hl
  · rintro b ⟨d, p, l, h1, h2, h3, rfl⟩
    unfold setR at h1
    split at h1
    · rename_i hda; subst hda; rw [hβ] at h3; simp at h3
    · exact .inl ⟨d, p, l, h1, h2, h3, rfl⟩
  · rintro b ⟨d, p, l, h1, h3, rfl⟩
    unfold setR at h1
    split at h1
    · rename_i hda; subst hda; rw [hβ] at h3; simp at h3
    · exact .inl ⟨d, p, l, h1, h3, rfl⟩

/-- A world in which one row of cells is another one. -/
structure Rewr (w w' : World) (b : Nat) (c' : Array Value) (e : Nat) : Prop where
  os : w'.os = w.os
  tape : w'.tape = w.tape
  output : w'.output = w.output
  size : w'.heap.size = w.heap.size
  here : w'.heap[b]? = some (.cells c' e (0, 0))
  there : ∀ d, d ≠ b → w'.heap[d]? = w.heap[d]?

/-- (2) An object is written. -/
theorem Step.write (hs : Sim w B β rd) {a : Nat} {o : PObj} {l : Loc} (ha : rd a = some o) (hm : ∀ k xs fl, o ≠ .arr k xs fl true) (hl : β a = some l)
    {c c' : Array Value} {e : Nat} (hc : w.heap[l.block]? = some (.cells c e (0, 0))) (hsz : c'.size = c.size) {w' : World} (hw : Rewr w w' l.block c' e) (o' : PObj)
    (hm' : ∀ k xs fl, o' ≠ .arr k xs fl true) (ho : ObjOK w B β o' l c') :
    Step w B β rd w' B β (setR rd a (some o')) := by
  have hlt := hs.block_lt ha hl
  have hnew := hw.here
  have hold := hw.there
  have hroom : ∀ b n, Room w b n → Room w' b n := fun b n ⟨d, f, h1, h2⟩ => by
    by_cases hb : b = l.block
    · subst hb
      rw [hc] at h1
      simp at h1
      exact ⟨c', e, hnew, by rw [hsz, h1.1]; exact h2⟩
    · exact ⟨d, f, by rw [hold b hb]; exact h1, h2⟩
  have hext : Ext (fun b => b = l.block) w w' :=
    ⟨hw.os, hw.tape, hw.output, Nat.le_of_eq hw.size.symm, fun b _ hb => hold b hb, hroom⟩
  have hkeep : ∀ p v, V w B β p v → V w' B β p v := fun p v hv =>
    hv.keep (fun _ h => h) (fun b hb => hold b (fun h => hs.excl a o l ha hm hl (h ▸ hb))) (fun _ _ h => h) hroom
  have hko : ∀ o1 l1 c1, ObjOK w B β o1 l1 c1 → ObjOK w' B β o1 l1 c1 := fun o1 l1 c1 hv =>
    hv.keep (fun _ h => h) (fun b hb => hold b (fun h => hs.excl a o l ha hm hl (h ▸ hb))) (fun _ _ h => h) hroom
  refine ⟨Sim.of ?_ ?_ ?_ (fun b hb => by have := hs.lt b hb; rw [hw.size]; exact this) ?_, hext.mono (fun b hb => ⟨a, o, l, ha, hm, hl, hb.symm⟩), fun _ h => h, fun _ h => .inl h, ?_, ?_, fun _ _ h => h⟩
  · intro b p hb
    unfold setR at hb
    split at hb
    · rename_i hba; subst hba; simp at hb; subst hb
      exact .inl ⟨l, hl, c', e, hnew, hko _ _ _ ho⟩
    · rename_i hba
      rcases hs.cases hb with ⟨m, h1, d, f, h2, h3⟩ | h
      · exact .inl ⟨m, h1, d, f, by rw [hold _ (hs.inj b a p o m l hb ha hba h1 hl)]; exact h2, hko _ _ _ h3⟩
      · exact .inr h
  · intro b p m hb hp hm''
    unfold setR at hb
    split at hb
    · rename_i hba; subst hba
      rw [hl] at hm''; obtain rfl := Option.some.inj hm''
      exact hs.excl b o l ha hm hl
    · exact hs.excl b p m hb hp hm''
  · intro b d p q m n hb hd hne h1 h2
    unfold setR at hb hd
    split at hb
    · rename_i hba; subst hba
      rw [if_neg (Ne.symm hne)] at hd
      exact hs.inj b d o q m n ha hd hne h1 h2
    · split at hd
      · rename_i hda; subst hda
        exact hs.inj b d p o m n hb ha hne h1 h2
      · exact hs.inj b d p q m n hb hd hne h1 h2
  · intro b k' xs fl' m hb hl'
    unfold setR at hb
    split at hb
    · simp at hb; exact absurd hb (hm' k' xs fl')
    · exact hs.frz b k' xs fl' m hb hl'
  · rintro b ⟨d, p, m, h1, h2, h3, rfl⟩
    unfold setR at h1
    split at h1
    · rename_i hda; subst hda
      exact .inl ⟨d, o, m, ha, hm, h3, rfl⟩
    · exact .inl ⟨d, p, m, h1, h2, h3, rfl⟩
  · rintro b ⟨d, p, m, h1, h3, rfl⟩
    unfold setR at h1
    split at h1
    · rename_i hda; subst hda
      exact .inl ⟨d, o, m, ha, h3, rfl⟩
    · exact .inl ⟨d, p, m, h1, h3, rfl⟩

/-- (3) A row is data from now on. -/
theorem Step.freeze (hs : Sim w B β rd) {a k : Nat} {xs : List (List PV)} {fl fz : Bool} (ha : rd a = some (.arr k xs fl fz)) :
    Step w B β rd w (fun b => B b ∨ ∃ l, β a = some l ∧ l.block = b) β (setR rd a (some (.arr k xs fl true))) := by
  have hkeep : ∀ p v, V w B β p v → V w (fun b => B b ∨ ∃ l, β a = some l ∧ l.block = b) β p v := fun p v hv =>
    hv.keep (fun _ h => .inl h) (fun b _ => rfl) (fun _ _ h => h) (fun _ _ h => h)
  have hko : ∀ o1 l1 c1, ObjOK w B β o1 l1 c1 → ObjOK w (fun b => B b ∨ ∃ l, β a = some l ∧ l.block = b) β o1 l1 c1 := fun o1 l1 c1 hv =>
    hv.keep (fun _ h => .inl h) (fun b _ => rfl) (fun _ _ h => h) (fun _ _ h => h)
  refine ⟨Sim.of ?_ ?_ ?_ ?_ ?_, .refl _ _, fun _ h => .inl h, ?_, ?_, ?_, fun _ _ h => h⟩
  · intro b p hb
    unfold setR at hb
    split at hb
    · rename_i hba; subst hba; simp at hb; subst hb
      rcases hs.cases ha with ⟨l, h1, c, e, h2, h3⟩ | ⟨h1, k', fl', fz', h2⟩
      · exact .inl ⟨l, h1, c, e, h2, hko _ _ _ h3⟩
      · simp at h2; obtain ⟨rfl, rfl, rfl, rfl⟩ := h2
        exact .inr ⟨h1, _, _, _, rfl⟩
    · rcases hs.cases hb with ⟨l, h1, c, e, h2, h3⟩ | h
      · exact .inl ⟨l, h1, c, e, h2, hko _ _ _ h3⟩
      · exact .inr h
  · intro b p l hb hp hl
    unfold setR at hb
    split at hb
    · simp at hb; exact absurd hb.symm (hp k xs fl)
    · rename_i hba
      rintro (h | ⟨m, h1, h2⟩)
      · exact hs.excl b p l hb hp hl h
      · exact hs.inj a b _ p m l ha hb (Ne.symm hba) h1 hl h2
  · intro b d p q l m hb hd hne hl hm
    unfold setR at hb hd
    split at hb
    · rename_i hba; subst hba
      rw [if_neg (Ne.symm hne)] at hd
      exact hs.inj b d _ q l m ha hd hne hl hm
    · split at hd
      · rename_i hda; subst hda
        exact hs.inj b d p _ l m hb ha hne hl hm
      · exact hs.inj b d p q l m hb hd hne hl hm
  · rintro b (h | ⟨l, h1, rfl⟩)
    · exact hs.lt b h
    · exact hs.block_lt ha h1
  · intro b k' xs' fl' l hb hl
    unfold setR at hb
    split at hb
    · rename_i hba; subst hba; exact .inr ⟨l, hl, rfl⟩
    · exact .inl (hs.frz b k' xs' fl' l hb hl)
  · rintro b (h | ⟨l, h1, rfl⟩)
    · exact .inl h
    · cases fz with
      | true => exact .inl (hs.frz a k xs fl l ha h1)
      | false => exact .inr (.inl ⟨a, _, l, ha, by simp, h1, rfl⟩)
  · rintro b ⟨d, p, l, h1, h2, h3, rfl⟩
    unfold setR at h1
    split at h1
    · simp at h1; exact absurd h1.symm (h2 k xs fl)
    · exact .inl ⟨d, p, l, h1, h2, h3, rfl⟩
  · rintro b ⟨d, p, l, h1, h3, rfl⟩
    unfold setR at h1
    split at h1
    · rename_i hda; subst hda; exact .inl ⟨d, _, l, ha, h3, rfl⟩
    · exact .inl ⟨d, p, l, h1, h3, rfl⟩

/-- (4) An object is forgotten. -/
theorem Step.kill (hs : Sim w B β rd) (a : Nat) : Step w B β rd w B β (setR rd a none) := by
  refine ⟨Sim.of ?_ ?_ ?_ hs.lt ?_, .refl _ _, fun _ h => h, fun _ h => .inl h, ?_, ?_, fun _ _ h => h⟩
  · intro b p hb
    unfold setR at hb
    split at hb
    · simp at hb
    · exact hs.cases hb
  · intro b p l hb hp hl
    unfold setR at hb
    split at hb
    · simp at hb
    · exact hs.excl b p l hb hp hl
  · intro b d p q l m hb hd hne hl hm
    unfold setR at hb hd
    split at hb
    · simp at hb
    · split at hd
      · simp at hd
      · exact hs.inj b d p q l m hb hd hne hl hm
  · intro b k' xs fl' l hb hl
    unfold setR at hb
    split at hb
    · simp at hb
    · exact hs.frz b k' xs fl' l hb hl
  · rintro b ⟨d, p, l, h1, h2, h3, rfl⟩
    unfold setR at h1
    split at h1
    · simp at h1
    · exact .inl ⟨d, p, l, h1, h2, h3, rfl⟩
  · rintro b ⟨d, p, l, h1, h3, rfl⟩
    unfold setR at h1
    split at h1
    · simp at h1
    · exact .inl ⟨d, p, l, h1, h3, rfl⟩

/-- (5) An object is written on, under a new number; the old one is forgotten. -/
theorem Step.move (hs : Sim w B β rd) {a n : Nat} {o : PObj} {l : Loc} (ha : rd a = some o) (hm : ∀ k xs fl, o ≠ .arr k xs fl true) (hl : β a = some l) (hn : β n = none) (hrn : rd n = none)
    {c c' : Array Value} {e : Nat} (hc : w.heap[l.block]? = some (.cells c e (0, 0))) (hsz : c'.size = c.size) {w' : World} (hw : Rewr w w' l.block c' e) (o' : PObj) (l' : Loc) (hb : l'.block = l.block)
    (hm' : ∀ k xs fl, o' ≠ .arr k xs fl true) (ho : ObjOK w B β o' l' c') :
    Step w B β rd w' B (setM β n l') (setR (setR rd a none) n (some o')) := by
  have hlt := hs.block_lt ha hl
  have hnew := hw.here
  have hold := hw.there
  have hmap : ∀ b m, β b = some m → setM β n l' b = some m := fun b m hbm => by
    unfold setM; split
    · subst_vars; rw [hn] at hbm; simp at hbm
    · exact hbm
  have hroom : ∀ b n, Room w b n → Room w' b n := fun b n ⟨d, f, h1, h2⟩ => by
    by_cases hb : b = l.block
    · subst hb
      rw [hc] at h1
      simp at h1
      exact ⟨c', e, hnew, by rw [hsz, h1.1]; exact h2⟩
    · exact ⟨d, f, by rw [hold b hb]; exact h1, h2⟩
  have hext : Ext (fun b => b = l.block) w w' :=
    ⟨hw.os, hw.tape, hw.output, Nat.le_of_eq hw.size.symm, fun b _ hb => hold b hb, hroom⟩
  have hkeep : ∀ p v, V w B β p v → V w' B (setM β n l') p v := fun p v hv =>
    hv.keep (fun _ h => h) (fun b hb => hold b (fun h => hs.excl a o l ha hm hl (h ▸ hb))) hmap hroom
  have hko : ∀ o1 l1 c1, ObjOK w B β o1 l1 c1 → ObjOK w' B (setM β n l') o1 l1 c1 := fun o1 l1 c1 hv =>
    hv.keep (fun _ h => h) (fun b hb => hold b (fun h => hs.excl a o l ha hm hl (h ▸ hb))) hmap hroom
  have hcase : ∀ b p, setR (setR rd a none) n (some o') b = some p → (b = n ∧ p = o') ∨ (b ≠ n ∧ b ≠ a ∧ rd b = some p) := fun b p h => by
    unfold setR at h
    split at h
    · rename_i hbn; simp at h; exact .inl ⟨hbn, h.symm⟩
    · split at h
      · simp at h
      · exact .inr ⟨‹_›, ‹_›, h⟩
  refine ⟨Sim.of ?_ ?_ ?_ (fun b hb => by have := hs.lt b hb; rw [hw.size]; exact this) ?_, hext.mono (fun b hb => ⟨a, o, l, ha, hm, hl, hb.symm⟩), fun _ h => h, fun _ h => .inl h, ?_, ?_, hmap⟩
  · intro b p h
    rcases hcase b p h with ⟨rfl, rfl⟩ | ⟨h1, h2, h3⟩
    · exact .inl ⟨l', by simp [setM], c', e, by rw [hb]; exact hnew, hko _ _ _ ho⟩
    · rcases hs.cases h3 with ⟨m, g1, d, f, g2, g3⟩ | ⟨g1, g2⟩
      · exact .inl ⟨m, hmap b m g1, d, f, by rw [hold _ (hs.inj b a p o m l h3 ha h2 g1 hl)]; exact g2, hko _ _ _ g3⟩
      · exact .inr ⟨by simp [setM, h1, g1], g2⟩
  · intro b p m h hp hm''
    rcases hcase b p h with ⟨rfl, rfl⟩ | ⟨h1, h2, h3⟩
    · simp [setM] at hm''; subst hm''
      rw [hb]; exact hs.excl a o l ha hm hl
    · rw [show setM β n l' b = β b from by simp [setM, h1]] at hm''
      exact hs.excl b p m h3 hp hm''
  · intro b d p q m k h1 h2 hne g1 g2
    rcases hcase b p h1 with ⟨rfl, rfl⟩ | ⟨e1, e2, e3⟩
    · rcases hcase d q h2 with ⟨rfl, rfl⟩ | ⟨f1, f2, f3⟩
      · exact absurd rfl hne
      · simp [setM] at g1; subst g1
        rw [show setM β b l' d = β d from by simp [setM, f1]] at g2
        rw [hb]; exact hs.inj a d o q l k ha f3 (Ne.symm f2) hl g2
    · rw [show setM β n l' b = β b from by simp [setM, e1]] at g1
      rcases hcase d q h2 with ⟨rfl, rfl⟩ | ⟨f1, f2, f3⟩
      · simp [setM] at g2; subst g2
        rw [hb]; exact hs.inj b a p o m l e3 ha e2 g1 hl
      · rw [show setM β n l' d = β d from by simp [setM, f1]] at g2
        exact hs.inj b d p q m k e3 f3 hne g1 g2
  · intro b k' xs fl' m h hm''
    rcases hcase b _ h with ⟨rfl, h2⟩ | ⟨h1, h2, h3⟩
    · exact absurd h2.symm (hm' k' xs fl')
    · rw [show setM β n l' b = β b from by simp [setM, h1]] at hm''
      exact hs.frz b k' xs fl' m h3 hm''
  · rintro b ⟨d, p, m, h1, h2, h3, rfl⟩
    rcases hcase d p h1 with ⟨rfl, rfl⟩ | ⟨e1, e2, e3⟩
    · simp [setM] at h3; subst h3
      exact .inl ⟨a, o, l, ha, hm, hl, hb.symm⟩
    · rw [show setM β n l' d = β d from by simp [setM, e1]] at h3
      exact .inl ⟨d, p, m, e3, h2, h3, rfl⟩
  · rintro b ⟨d, p, m, h1, h3, rfl⟩
    rcases hcase d p h1 with ⟨rfl, rfl⟩ | ⟨e1, e2, e3⟩
    · simp [setM] at h3; subst h3
      exact .inl ⟨a, o, l, ha, hl, hb.symm⟩
    · rw [show setM β n l' d = β d from by simp [setM, e1]] at h3
      exact .inl ⟨d, p, m, e3, h3, rfl⟩

theorem Rewr.self {b : Nat} {c : Array Value} {e : Nat} (h : w.heap[b]? = some (.cells c e (0, 0))) : Rewr w w b c e := ⟨rfl, rfl, rfl, rfl, h, fun _ _ => rfl⟩
end
end Go.Pm
