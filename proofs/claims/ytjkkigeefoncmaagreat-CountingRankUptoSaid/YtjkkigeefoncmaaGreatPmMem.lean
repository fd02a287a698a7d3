/-
  The operations that make memory or write it.
-/
import Derived.Test.YtjkkigeefoncmaaGreatPmStep
import Derived.Great.FillDense
import Derived.Laws.Append
import Derived.IntWalk
set_option linter.unusedVariables false
set_option linter.unusedSimpArgs false
namespace Go.Pm
open Go

/-- What an operation comes to. -/
def Turn (P : Program) (w : World) (B : Nat → Prop) (β : Map) (rd : Rd) (a : Act) (o : Oper) (nid : Nat) (e : Eff) : Prop :=
  ∃ nx v w' B' β', (execOp a.eval o).run P w = .ok nx w' ∧ (nx = .value v ∨ nx = .skip ∧ v = Go.undef) ∧
    Step w B β rd w' B' β' (rdU rd e.upd) ∧ V w' B' β' e.val v ∧ (∀ b, b ≠ nid → β' b = β b)

section
variable {P : Program} {w : World} {B : Nat → Prop} {β : Map} {rd : Rd} {tm : List PV} {a : Act} {tab : Nat → Option TI}

theorem Turn.quiet (hs : Sim w B β rd) {o : Oper} {nid : Nat} {e : Eff} (h : Quiet P w B β a o e) : Turn P w B β rd a o nid e := by
  obtain ⟨h1, v, h2, h3⟩ := h
  exact ⟨_, v, w, B, β, h2, .inl rfl, by rw [h1]; exact .refl hs, h3, fun _ _ => rfl⟩

theorem zero_ok {t : Nat} {ti : TI} (hi : TIok P t ti) : ∃ z : Value, (∀ w, (zeroValue t).run P w = .ok z w) ∧ (∀ w B β, Vs w B β ti.zero z.cells.toList) ∧ (∀ v ∈ z.cells.toList, v.oneCell' = true) ∧ z.cells.size = ti.size := by
  obtain ⟨i, z, g1, g2, g3, g4, h2, h3⟩ := hi.info
  have h1 : ∀ w, (zeroValue t).run P w = .ok z w := fun w => by simp [zeroValue, typeInfo, g1, g4]
  have hlen : ti.zero.length = z.cells.toList.length := by have := congrArg List.length h2; simpa using this.symm
  have hget : ∀ (i : Nat) (p : PV) (v : Value), ti.zero[i]? = some p → z.cells.toList[i]? = some v → constPV v = some p := fun i p v hp hv => by
    have h5 : (z.cells.toList.map constPV)[i]? = (ti.zero.map some)[i]? := by rw [h2]
    rw [List.getElem?_map, List.getElem?_map, hp, hv] at h5
    simpa using h5
  refine ⟨z, h1, fun w B β => ⟨hlen, fun i p v hp hv => (const_ok (hget i p v hp hv)).1⟩, fun v hv => ?_, ?_⟩
  · obtain ⟨i, hi, hv'⟩ := List.mem_iff_getElem.1 hv
    have hi' : i < ti.zero.length := hlen ▸ hi
    exact (const_ok (w := default) (B := fun _ => False) (β := fun _ => none) (hget i _ v (List.getElem?_eq_getElem hi') (by rw [← hv']; exact List.getElem?_eq_getElem hi))).2.1
  · rw [← h3, hlen]; simp

theorem box_turn (hs : Sim w B β rd) {nid t : Nat} {x : Operand} {cs : List PV} (hβ : β nid = none) (hr : rd nid = none) {u : Value} (hu : Vs w B β cs u.cells.toList) (ho : ∀ v ∈ u.cells.toList, v.oneCell' = true) :
    Step w B β rd (w.alloc (.cells u.cells t)) B (setM β nid ⟨w.heap.size, 0, 0⟩) (rdU rd [(nid, some (.box cs))]) ∧
    V (w.alloc (.cells u.cells t)) B (setM β nid ⟨w.heap.size, 0, 0⟩) (.ptr nid 0) (.pointer (some ⟨w.heap.size, 0, none⟩)) :=
  ⟨Step.new hs hβ hr u.cells t 0 (.box cs) ⟨rfl, hu, ho⟩ (by simp), .ptr nid 0 ⟨w.heap.size, 0, 0⟩ (by simp [setM])⟩

theorem alloc_ok (hT : TabOK P tab) (hs : Sim w B β rd) {nid t : Nat} {ti : TI} (ht : tab t = some ti) (hβ : β nid = none) (hr : rd nid = none) {o : Oper} (ho : o.op = .alloc t) :
    Turn P w B β rd a o nid ⟨.ptr nid 0, [(nid, some (.box ti.zero))], []⟩ := by
  obtain ⟨z, h1, h2, h3, h4⟩ := zero_ok (hT t ti ht)
  obtain ⟨g1, g2⟩ := box_turn (t := t) (x := .tmp 0) hs hβ hr (h2 w B β) h3
  refine ⟨_, _, _, B, _, ?_, .inl rfl, g1, g2, fun b hb => by simp [setM, hb]⟩
  simp [execOp, ho, Instr.alloc, h1, newVar, newRow]

theorem box_ok (hs : Sim w B β rd) {nid t : Nat} {x : Operand} {p : PV} {cs : List PV} (hx : V w B β p (a.eval x)) (hc : cellsOf p = some cs) (hβ : β nid = none) (hr : rd nid = none) {o : Oper} (ho : o.op = .box t x) :
    Turn P w B β rd a o nid ⟨.ptr nid 0, [(nid, some (.box cs))], []⟩ := by
  obtain ⟨h2, h3⟩ := cellsOf_ok hx hc
  obtain ⟨g1, g2⟩ := box_turn (t := t) (x := x) hs hβ hr h2 h3
  refine ⟨_, _, _, B, _, ?_, .inl rfl, g1, g2, fun b hb => by simp [setM, hb]⟩
  simp [execOp, ho, Instr.box, newVar, newRow]

/-! ### writing -/
theorem rewr_setRow {b : Nat} {c c' : Array Value} {e : Nat} (h : w.heap[b]? = some (.cells c e (0, 0))) : Rewr w (w.setRow b c') b c' e :=
  ⟨rfl, rfl, rfl, by simp, setRow_heap w b c c' e (0, 0) h, fun d hd => setRow_other w b d c' hd⟩

/-- What a run of stores leaves. -/
def splc (c : Array Value) (o : Nat) (vs : List Value) : Array Value := (c.toList.take o ++ vs ++ c.toList.drop (o + vs.length)).toArray

theorem splc_size {c : Array Value} {o : Nat} {vs : List Value} (h : o + vs.length ≤ c.size) : (splc c o vs).size = c.size := by
  simp [splc]; omega

theorem splc_get {c : Array Value} {o : Nat} {vs : List Value} (h : o + vs.length ≤ c.size) (j : Nat) : (splc c o vs)[j]? = if o ≤ j ∧ j < o + vs.length then vs[j - o]? else c[j]? := by
  have ho : min o c.toList.length = o := by simp; omega
  simp only [splc, List.getElem?_toArray, List.getElem?_append, List.length_take, List.length_append, ho, List.getElem?_take, List.getElem?_drop]
  split
  · split
    · rw [if_neg (by omega)]; simp
    · rename_i h1 h2
      rw [if_pos (by omega)]
  · rename_i h1
    rw [if_neg (by omega)]
    have : o + vs.length + (j - (o + vs.length)) = j := by omega
    rw [this]; simp

theorem splice_get {cs : List PV} {o : Nat} {vs : List PV} (h : o + vs.length ≤ cs.length) (j : Nat) : (splice cs o vs)[j]? = if o ≤ j ∧ j < o + vs.length then vs[j - o]? else cs[j]? := by
  have ho : min o cs.length = o := by omega
  simp only [splice, List.getElem?_append, List.length_take, List.length_append, ho, List.getElem?_take, List.getElem?_drop]
  split
  · split
    · rw [if_neg (by omega)]
    · rw [if_pos (by omega)]
  · rw [if_neg (by omega)]
    have : o + vs.length + (j - (o + vs.length)) = j := by omega
    rw [this]

theorem splice_length {cs : List PV} {o : Nat} {vs : List PV} (h : o + vs.length ≤ cs.length) : (splice cs o vs).length = cs.length := by
  simp [splice]; omega

theorem Vs.splice {cs ps : List PV} {c : Array Value} {vs : List Value} {o : Nat} (h : Vs w B β cs c.toList) (hp : Vs w B β ps vs) (hle : o + ps.length ≤ cs.length) : Vs w B β (splice cs o ps) (splc c o vs).toList := by
  have hlen := h.1
  have hpl := hp.1
  have hle' : o + vs.length ≤ c.size := by rw [← hpl]; simpa [hlen] using hle
  refine ⟨by rw [splice_length hle]; simp [splc_size hle', hlen], fun i p v h1 h2 => ?_⟩
  rw [splice_get hle] at h1
  rw [Array.getElem?_toList, splc_get hle'] at h2
  rw [← hpl] at h2
  split at h1
  · rename_i hc; rw [if_pos hc] at h2; exact hp.2 _ p v h1 h2
  · rename_i hc; rw [if_neg hc] at h2; exact h.2 i p v h1 (by simpa using h2)

theorem mem_splc {c : Array Value} {o : Nat} {vs : List Value} {v : Value} (h : v ∈ (splc c o vs).toList) : v ∈ c.toList ∨ v ∈ vs := by
  simp only [splc, List.mem_append] at h
  rcases h with (h | h) | h
  · exact .inl (List.mem_of_mem_take h)
  · exact .inr h
  · exact .inl (List.mem_of_mem_drop h)

theorem run_stores {b o : Nat} {c : Array Value} {e : Nat} {vs : List Value} (hc : w.heap[b]? = some (.cells c e (0, 0))) (hle : o + vs.length ≤ c.size) (h1 : ∀ v ∈ vs, v.oneCell' = true) :
    (storeCells ⟨b, o, none⟩ vs 0).run P w = .ok () (w.setRow b (splc c o vs)) := by
  have := run_storeCells_at P b o e vs 0 c w hc (by simpa using hle) h1
  simpa [splc] using this


/-! ### a row becomes data -/
/-- A slice of a row, as data. -/
theorem own_lit (hs : Sim w B β rd) {aa k off len : Nat} {xs : List (List PV)} {fl fz : Bool} (ha : rd aa = some (.arr k xs fl fz)) (hle : off + len ≤ xs.length) {u : Value} (hu : V w B β (.own aa k off len) u)
    {B' : Nat → Prop} (hB : ∀ b, B b → B' b) (hb : ∀ l, β aa = some l → B' l.block) (g : Bool) {γ : Map} : V w B' γ (.lit ((xs.drop off).take len) ⟨g, fl⟩) u := by
  obtain ⟨h1, h2, h3⟩ := hs.arr aa k xs fl fz ha
  have hlen : ((xs.drop off).take len).length = len := by simp; omega
  cases hu with
  | own0 aa k off b =>
    have : (xs.drop off).take 0 = [] := by simp
    rw [this]; exact .lit0 _ _ _
  | own aa off len cap l hl hc hr =>
    rcases h3 with ⟨rfl, hn⟩ | ⟨m, c, e, g1, g2, g3, g4⟩
    · rw [hl] at hn; simp at hn
    · rw [hl] at g1; obtain rfl := Option.some.inj g1
      have hget : ∀ (i : Nat) (x : List PV), ((xs.drop off).take len)[i]? = some x → xs[off + i]? = some x := fun i x hx => by
        rw [List.getElem?_take] at hx
        split at hx
        · simpa using hx
        · simp at hx
      have hmem : ∀ x ∈ (xs.drop off).take len, x ∈ xs := fun x hx => List.mem_of_mem_drop (List.mem_of_mem_take hx)
      have hc' : ∀ (i : Nat) (x : List PV) (j : Nat) (p : PV), ((xs.drop off).take len)[i]? = some x → x[j]? = some p → ∃ v, c[l.off + off * l.k + i * l.k + j]? = some v ∧ v.oneCell' = true ∧ V w B (fun _ => none) p v := fun i x j p q1 q2 => by
        have := g4 (off + i) x j p (hget i x q1) q2
        rw [Nat.add_mul, ← Nat.add_assoc] at this
        exact this
      have := V.lit (w := w) (B := B') (β := γ) ((xs.drop off).take len) ⟨g, fl⟩ l.block (l.off + off * l.k) l.k cap (fun i j => (c[l.off + off * l.k + i * l.k + j]?).getD default) (hb l hl) (by rw [hlen]; exact hc)
        (fun hfl x hx => h1 hfl x (hmem x hx)) (fun x hx => h2 x (hmem x hx))
        (fun i x j p q1 q2 => by obtain ⟨v, r1, r2, r3⟩ := hc' i x j p q1 q2; simp [World.cell?, g3, r1])
        (fun i x j p q1 q2 => by obtain ⟨v, r1, r2, r3⟩ := hc' i x j p q1 q2; simp [r1, r2])
        (fun i x j p q1 q2 => by
          obtain ⟨v, r1, r2, r3⟩ := hc' i x j p q1 q2
          simp only [r1, Option.getD_some]
          exact r3.keep hB (fun _ _ => rfl) (fun _ _ h => h) (fun _ _ h => h))
      rw [hlen] at this
      exact this

theorem V.more {B' : Nat → Prop} {p : PV} {v : Value} (h : V w B β p v) (hB : ∀ b, B b → B' b) : V w B' β p v :=
  h.keep hB (fun _ _ => rfl) (fun _ _ h => h) (fun _ _ h => h)
theorem Vs.more {B' : Nat → Prop} {p : List PV} {v : List Value} (h : Vs w B β p v) (hB : ∀ b, B b → B' b) : Vs w B' β p v :=
  h.keep hB (fun _ _ => rfl) (fun _ _ h => h) (fun _ _ h => h)

theorem V.lit_fl {xs : List (List PV)} {fl : Fl} {v : Value} (h : V w B β (.lit xs fl) v) (g : Bool) {γ : Map} : V w B γ (.lit xs ⟨g, fl.flat⟩) v := by
  cases h with
  | lit0 fl b cap => exact .lit0 _ _ _
  | lit xs fl b o k cap val hb hn hf hk hcell ho hv => exact .lit xs _ b o k cap val hb hn hf hk hcell ho hv

theorem settle_ok (hs : Sim w B β rd) : ∀ {ps : List PV} {us : List Value} {qs : List PV} {fz : List Nat}, settle rd ps = some (qs, fz) → Vs w B β ps us →
    (∀ b ∈ fz, ∃ k xs fl z, rd b = some (.arr k xs fl z)) ∧ ps.length = qs.length ∧ ∀ B' : Nat → Prop, (∀ b, B b → B' b) → (∀ b ∈ fz, ∀ l, β b = some l → B' l.block) → Vs w B' (fun _ => none) qs us
  | [], us, qs, fz, h, hu => by
    simp [settle] at h; obtain ⟨rfl, rfl⟩ := h
    rw [hu.of_nil]
    exact ⟨by simp, rfl, fun _ _ _ => .nil⟩
  | p :: r, us, qs, fz, h, hu => by
    obtain ⟨u, us', rfl, h1, h2⟩ := hu.uncons
    unfold settle at h
    split at h
    · simp at *
    · rename_i aa k off len r' heq
      simp at heq; obtain ⟨rfl, rfl⟩ := heq
      split at h
      · rename_i k' xs flat z r2 l ha hr
        split at h <;> simp at h
        obtain ⟨rfl, rfl⟩ := h
        rename_i hc
        simp only [Bool.and_eq_true, beq_iff_eq, decide_eq_true_eq] at hc
        obtain ⟨rfl, hle⟩ := hc
        obtain ⟨g1, g2, g3⟩ := settle_ok hs hr h2
        refine ⟨fun b hb => ?_, by simp [g2], fun B' hB hB2 => ?_⟩
        · rcases List.mem_cons.1 hb with rfl | hb
          · exact ⟨_, _, _, _, ha⟩
          · exact g1 b hb
        · exact .cons (own_lit hs ha hle h1 hB (fun l hl => hB2 aa (by simp) l hl) false) (g3 B' hB fun b hb => hB2 b (by simp [hb]))
      · simp at h
    · rename_i r' heq
      simp at heq; obtain ⟨rfl, rfl⟩ := heq
      split at h
      · rename_i r2 l hr
        simp at h; obtain ⟨rfl, rfl⟩ := h
        obtain ⟨g1, g2, g3⟩ := settle_ok hs hr h2
        cases h1
        exact ⟨g1, by simp [g2], fun B' hB hB2 => .cons (.lit0 _ _ _) (g3 B' hB hB2)⟩
      · simp at h
    · rename_i xs fl r' heq
      simp at heq; obtain ⟨rfl, rfl⟩ := heq
      split at h
      · rename_i r2 l hr
        simp at h; obtain ⟨rfl, rfl⟩ := h
        obtain ⟨g1, g2, g3⟩ := settle_ok hs hr h2
        exact ⟨g1, by simp [g2], fun B' hB hB2 => .cons ((h1.lit_fl false).more hB) (g3 B' hB hB2)⟩
      · simp at h
    · rename_i v r' _ _ _ heq
      simp at heq; obtain ⟨rfl, rfl⟩ := heq
      split at h
      · rename_i r2 l hr
        split at h <;> simp at h
        rename_i hp
        obtain ⟨rfl, rfl⟩ := h
        obtain ⟨g1, g2, g3⟩ := settle_ok hs hr h2
        exact ⟨g1, by simp [g2], fun B' hB hB2 => .cons (h1.plain hp) (g3 B' hB hB2)⟩
      · simp at h

/-- Rows that are data from now on. -/
theorem freezes_set (rd : Rd) (b k : Nat) (xs : List (List PV)) (fl z : Bool) (hb : rd b = some (.arr k xs fl z)) : ∀ l : List Nat, freezes (setR rd b (some (.arr k xs fl true))) l = freezes rd l
  | [] => rfl
  | c :: l => by
    unfold freezes
    rw [freezes_set rd b k xs fl z hb l]
    by_cases hc : c = b
    · subst hc; simp [setR, hb]
    · simp [setR, hc]

theorem freezes_ok : ∀ (fz : List Nat) {B : Nat → Prop} {rd : Rd}, Sim w B β rd → (∀ b ∈ fz, ∃ k xs fl z, rd b = some (.arr k xs fl z)) →
    ∃ B', Step w B β rd w B' β (rdU rd (freezes rd fz)) ∧ (∀ b ∈ fz, ∀ l, β b = some l → B' l.block)
  | [], B, rd, hs, _ => ⟨B, .refl hs, by simp⟩
  | b :: r, B, rd, hs, h => by
    obtain ⟨k, xs, fl, z, hb⟩ := h b (by simp)
    have st := Step.freeze hs hb
    have hr : ∀ c ∈ r, ∃ k' xs' fl' z', setR rd b (some (.arr k xs fl true)) c = some (.arr k' xs' fl' z') := fun c hc => by
      unfold setR; split
      · exact ⟨_, _, _, _, rfl⟩
      · exact h c (by simp [hc])
    obtain ⟨B', st', hB'⟩ := freezes_ok r st.sim hr
    refine ⟨B', ?_, fun c hc l hl => ?_⟩
    · have : rdU rd (freezes rd (b :: r)) = rdU (setR rd b (some (.arr k xs fl true))) (freezes (setR rd b (some (.arr k xs fl true))) r) := by
        rw [freezes_set rd b k xs fl z hb]
        simp [freezes, hb, rdU]
      rw [this]; exact st.trans st'
    · rcases List.mem_cons.1 hc with rfl | hc
      · exact st'.bsub _ (.inr ⟨l, hl, rfl⟩)
      · exact hB' c hc l hl

theorem freezes_mut : ∀ (fz : List Nat) {rd : Rd} {b : Nat} {k : Nat} {xs : List (List PV)} {fl : Bool}, b ∉ fz → rdU rd (freezes rd fz) b = rd b
  | [], rd, b, k, xs, fl, _ => rfl
  | c :: r, rd, b, k, xs, fl, h => by
    simp only [List.mem_cons, not_or] at h
    unfold freezes
    split
    · rename_i k' xs' fl' z' hc
      have : rdU rd ((c, some (.arr k' xs' fl' true)) :: freezes rd r) = rdU (setR rd c (some (.arr k' xs' fl' true))) (freezes (setR rd c (some (.arr k' xs' fl' true))) r) := by
        rw [freezes_set rd c k' xs' fl' z' hc]; rfl
      rw [this, freezes_mut r (k := k) (xs := xs) (fl := fl) h.2]
      simp [setR, h.1]
    · exact freezes_mut r (k := k) (xs := xs) (fl := fl) h.2

theorem has_iff : ∀ {l : List Nat} {a : Nat}, has l a = true ↔ a ∈ l
  | [], a => by simp [has]
  | b :: r, a => by simp [has, has_iff (l := r)]

theorem splice_plain {cs ws : List PV} {o : Nat} (h : ∀ c ∈ cs, plainCell c = true) (hw : allPlain ws = true) : ∀ c ∈ splice cs o ws, plainCell c = true := by
  have hw' : ∀ c ∈ ws, plainCell c = true := by
    intro c hc
    induction ws with
    | nil => simp at hc
    | cons x r ih =>
      simp [allPlain] at hw
      rcases List.mem_cons.1 hc with rfl | hc
      · exact hw.1
      · exact ih hw.2 hc
  intro c hc
  simp only [splice, List.mem_append] at hc
  rcases hc with (hc | hc) | hc
  · exact h c (List.mem_of_mem_take hc)
  · exact hw' c hc
  · exact h c (List.mem_of_mem_drop hc)

theorem setNth_get {α : Type} : ∀ (l : List α) (i : Nat) (v : α) (j : Nat), (setNth l i v)[j]? = if j = i ∧ i < l.length then some v else l[j]?
  | [], i, v, j => by simp [setNth]
  | x :: r, 0, v, j => by cases j <;> simp [setNth]
  | x :: r, i + 1, v, 0 => by simp [setNth]
  | x :: r, i + 1, v, j + 1 => by simp [setNth, setNth_get r i v j]

theorem setNth_mem {α : Type} {l : List α} {i : Nat} {v x : α} (h : x ∈ setNth l i v) : x = v ∨ x ∈ l := by
  obtain ⟨j, hj⟩ := List.mem_iff_getElem?.1 h
  rw [setNth_get] at hj
  split at hj
  · simp at hj; exact .inl hj.symm
  · exact .inr (List.mem_of_getElem? hj)

theorem store_ok (hT : TabOK P tab) (hs : Sim w B β rd) {t : Nat} {ti : TI} (ht : tab t = some ti) {p v : PV} {u x : Value} {e : Eff} (h : storeAt rd ti p v = some e) (hp : V w B β p u) (hv : V w B β v x) :
    ∃ w' B', (Instr.storeAt t u x).run P w = .ok () w' ∧ Step w B β rd w' B' β (rdU rd e.upd) ∧ e.val = .void := by
  have hi := hT t ti ht
  unfold storeAt at h
  split at h
  · simp at h
  · rename_i vs hvs
    obtain ⟨h1, h2⟩ := cellsOf_ok hv hvs
    split at h
    · rename_i hlen
      simp only [beq_iff_eq] at hlen
      have hsz : x.cells.size = ti.size := by rw [← hlen, h1.1]; simp
      have run : ∀ (b o : Nat) (c : Array Value) (e : Nat), u = .pointer (some ⟨b, o, none⟩) → w.heap[b]? = some (.cells c e (0, 0)) → o + x.cells.toList.length ≤ c.size →
          (Instr.storeAt t u x).run P w = .ok () (w.setRow b (splc c o x.cells.toList)) := fun b o c e hu hc hle => by
        subst hu
        simp [Instr.storeAt, Instr.sureAddr, storeVar, hi.size w, hsz, run_stores hc hle h2]
      have hxl : x.cells.toList.length = vs.length := h1.1.symm
      split at h
      · rename_i aa o
        split at h
        · rename_i cs hb
          split at h <;> simp at h
          subst h
          rename_i hle
          cases hp with
          | ptr aa o l hl =>
            obtain ⟨c, e, hc, hl0, h3, h4⟩ := hs.obj hb hl
            have hcl : cs.length = c.size := by rw [h3.1]; simp
            have hle' : l.off + o + x.cells.toList.length ≤ c.size := by rw [hl0, hxl]; omega
            refine ⟨_, B, run _ _ c e rfl hc hle', Step.write hs hb (by simp) hl hc (splc_size hle') (rewr_setRow hc) _ (by simp) ⟨hl0, ?_, fun v hv => ?_⟩, rfl⟩
            · rw [hl0, Nat.zero_add]; exact h3.splice h1 (by omega)
            · rcases mem_splc hv with h | h
              · exact h4 v h
              · exact h2 v h
        · simp at h
      · rename_i aa i o
        split at h
        · rename_i k xs flat hb
          split at h
          · rename_i cs ws fz hx hset
            split at h <;> simp at h
            subst h
            rename_i hc
            simp only [Bool.and_eq_true, decide_eq_true_eq, Bool.not_eq_true', Bool.eq_false_iff, ne_eq, has_iff] at hc
            obtain ⟨⟨hle, hnf⟩, hne⟩ := hc
            have hpos : 0 < ws.length := by cases ws with | nil => simp at hne | cons _ _ => simp
            obtain ⟨s1, s2, s3⟩ := settle_ok hs hset h1
            cases hp with
            | aptr aa i o l hl =>
              obtain ⟨B', st, hB'⟩ := freezes_ok fz hs s1
              have hb' : rdU rd (freezes rd fz) aa = some (.arr k xs flat false) := by rw [freezes_mut fz (k := k) (xs := xs) (fl := flat) hnf]; exact hb
              obtain ⟨c, e, hc, hfl, hxk, hlk, harr⟩ := st.sim.obj hb' hl
              have hcell := harr i cs
              have hcs : cs.length = k := hxk cs (List.mem_of_getElem? hx)
              have hiw : i < xs.length := by rcases Nat.lt_or_ge i xs.length with h' | h'; exact h'; simp [List.getElem?_eq_none h'] at hx
              have hwsl : ws.length = x.cells.toList.length := by rw [← s2, hxl]
              have hle' : l.off + i * l.k + o + x.cells.toList.length ≤ c.size := by
                rw [← hwsl]
                obtain ⟨v, q1, _⟩ := hcell (o + ws.length - 1) _ hx (List.getElem?_eq_getElem (by omega))
                have : l.off + i * l.k + (o + ws.length - 1) < c.size := by rcases Nat.lt_or_ge (l.off + i * l.k + (o + ws.length - 1)) c.size with h' | h'; exact h'; simp [Array.getElem?_eq_none h'] at q1
                omega
              have hws := s3 B' st.bsub hB'
              refine ⟨_, B', run _ _ c e rfl hc hle', ?_, rfl⟩
              rw [rdU_append]
              refine st.trans (Step.write st.sim hb' (by simp) hl hc (splc_size hle') (rewr_setRow hc) _ (by simp) ⟨fun hf => ?_, fun y hy => ?_, hlk, ?_⟩)
              · simp only [Bool.and_eq_true] at hf
                intro y hy
                rcases setNth_mem hy with rfl | hy
                · exact splice_plain (fun c hc => hfl hf.1 cs (List.mem_of_getElem? hx) c hc) hf.2
                · exact hfl hf.1 y hy
              · rcases setNth_mem hy with rfl | hy
                · rw [splice_length (by rw [hcs] at hle ⊢; exact hle)]; exact hcs
                · exact hxk y hy
              · intro i' y j q hy hq
                rw [splc_get hle']
                rw [setNth_get] at hy
                have hcsl : o + ws.length ≤ l.k := by rw [hlk, ← hcs]; exact hle
                split at hy
                · rename_i hii
                  obtain ⟨rfl, _⟩ := hii
                  simp at hy; subst hy
                  rw [splice_get hle] at hq
                  split at hq
                  · rename_i hj
                    rw [if_pos (by omega)]
                    have hj' : l.off + i' * l.k + j - (l.off + i' * l.k + o) = j - o := by omega
                    rw [hj']
                    obtain ⟨v, q1, q2⟩ := hws.get hq
                    exact ⟨v, q1, h2 v (List.mem_of_getElem? q1), q2⟩
                  · rename_i hj
                    rw [if_neg (by omega)]
                    exact harr i' cs j q hx hq
                · rename_i hii
                  have hne' : i' ≠ i := fun h => hii ⟨h, hiw⟩
                  have hjk : j < l.k := by
                    have : y.length = k := hxk y (List.mem_of_getElem? hy)
                    rcases Nat.lt_or_ge j y.length with h' | h'
                    · omega
                    · simp [List.getElem?_eq_none h'] at hq
                  rw [if_neg ?_]
                  · exact harr i' y j q hy hq
                  · rcases Nat.lt_or_gt_of_ne hne' with hlt | hlt
                    · have := Nat.mul_le_mul_right l.k (Nat.succ_le_of_lt hlt)
                      rw [Nat.succ_mul] at this
                      omega
                    · have := Nat.mul_le_mul_right l.k (Nat.succ_le_of_lt hlt)
                      rw [Nat.succ_mul] at this
                      omega
          · simp at h
        · simp at h
      · simp at h
    · simp at h

/-- The cells of many values side by side. -/
theorem flat_get {α : Type} (f : α → List Value) (s : Nat) : ∀ (l : List α) (i j : Nat) (x : α), (∀ y ∈ l, (f y).length = s) → l[i]? = some x → j < s → (l.flatMap f)[i * s + j]? = (f x)[j]?
  | [], i, j, x, _, h, _ => by simp at h
  | y :: l, 0, j, x, hs, h, hj => by
    simp at h; subst h
    have := hs y (by simp)
    rw [List.flatMap_cons, List.getElem?_append_left (by omega)]
    simp
  | y :: l, i + 1, j, x, hs, h, hj => by
    have hy := hs y (by simp)
    rw [List.flatMap_cons, List.getElem?_append_right (by rw [hy, Nat.succ_mul]; omega), hy]
    have : (i + 1) * s + j - s = i * s + j := by rw [Nat.succ_mul]; omega
    rw [this]
    exact flat_get f s l i j x (fun z hz => hs z (by simp [hz])) (by simpa using h) hj
theorem flat_length {α : Type} (f : α → List Value) (s : Nat) : ∀ (l : List α), (∀ y ∈ l, (f y).length = s) → (l.flatMap f).length = l.length * s
  | [], _ => by simp
  | y :: l, h => by
    rw [List.flatMap_cons, List.length_append, h y (by simp), flat_length f s l (fun z hz => h z (by simp [hz])), List.length_cons, Nat.succ_mul, Nat.add_comm]

theorem allPlain_iff : ∀ {l : List PV}, allPlain l = true ↔ ∀ c ∈ l, plainCell c = true
  | [] => by simp [allPlain]
  | x :: r => by simp [allPlain, allPlain_iff (l := r)]

theorem settleAll_ok (hs : Sim w B β rd) {size : Nat} : ∀ {ps : List PV} {us : List Value} {rows : List (List PV)} {fz : List Nat} {fl : Bool}, settleAll rd size ps = some (rows, fz, fl) → Vs w B β ps us →
    (∀ b ∈ fz, ∃ k xs fl z, rd b = some (.arr k xs fl z)) ∧ rows.length = us.length ∧ (∀ u ∈ us, u.cells.toList.length = size ∧ ∀ v ∈ u.cells.toList, v.oneCell' = true) ∧ (∀ r ∈ rows, r.length = size) ∧ (fl = true → AllPlain rows) ∧
    ∀ B' : Nat → Prop, (∀ b, B b → B' b) → (∀ b ∈ fz, ∀ l, β b = some l → B' l.block) → ∀ (i : Nat) (r : List PV) (u : Value), rows[i]? = some r → us[i]? = some u → Vs w B' (fun _ => none) r u.cells.toList
  | [], us, rows, fz, fl, h, hu => by
    simp [settleAll] at h; obtain ⟨rfl, rfl, rfl⟩ := h
    rw [hu.of_nil]
    exact ⟨by simp, rfl, by simp, by simp, fun _ x hx => by simp at hx, fun B' _ _ i r u h => by simp at h⟩
  | p :: r, us, rows, fz, fl, h, hu => by
    obtain ⟨u, us', rfl, h1, h2⟩ := hu.uncons
    unfold settleAll at h
    split at h
    · rename_i cs l r' l' fl' hc hr
      split at h <;> simp at h
      rename_i hsz
      simp only [beq_iff_eq] at hsz
      obtain ⟨rfl, rfl, rfl⟩ := h
      cases hcc : cellsOf p with
      | none => rw [hcc] at hc; simp at hc
      | some ps =>
        rw [hcc] at hc; simp only [Option.bind_some] at hc
        obtain ⟨c1, c2⟩ := cellsOf_ok h1 hcc
        obtain ⟨s1, s2, s3⟩ := settle_ok hs hc c1
        obtain ⟨g1, g2, g3, g4, g5, g6⟩ := settleAll_ok hs hr h2
        refine ⟨fun b hb => ?_, by simp [g2], fun v hv => ?_, fun y hy => ?_, fun hf y hy => ?_, fun B' hB hB2 i y v hy hv => ?_⟩
        · rcases List.mem_append.1 hb with hb | hb
          · exact s1 b hb
          · exact g1 b hb
        · rcases List.mem_cons.1 hv with rfl | hv
          · exact ⟨by rw [← c1.1, s2]; exact hsz, c2⟩
          · exact g3 v hv
        · rcases List.mem_cons.1 hy with rfl | hy
          · exact hsz
          · exact g4 y hy
        · exact absurd hf (by simp)
        · cases i with
          | zero =>
            simp at hy hv; subst hy; subst hv
            exact s3 B' hB fun b hb => hB2 b (List.mem_append_left _ hb)
          | succ i => exact g6 B' hB (fun b hb => hB2 b (List.mem_append_right _ hb)) i y v (by simpa using hy) (by simpa using hv)
    · simp at h

theorem inOrder_ok (ev : Operand → Value) : ∀ {i : Nat} {parts : List (Nat × Operand)}, inOrder i parts = true → parts.map (fun x => (x.1, ev x.2)) = ((parts.map fun x => ev x.2).zipIdx i).map fun x => (x.2, x.1)
  | i, [], _ => rfl
  | i, (j, x) :: r, h => by
    simp only [inOrder, Bool.and_eq_true, beq_iff_eq] at h
    obtain ⟨rfl, h⟩ := h
    simp [inOrder_ok ev h]

theorem buildSlice_ok (hT : TabOK P tab) (hs : Sim w B β rd) (ha : TmRel w B β tm a) {nid t n : Nat} {parts : Array (Nat × Operand)} {o : Oper} (ho : o.op = .buildSlice t n parts) {e : Eff} (h : evBasic tab rd nid tm o = some e) (hβ : β nid = none) (hr : rd nid = none) :
    Turn P w B β rd a o nid e := by
  unfold evBasic at h
  rw [ho] at h
  simp only at h
  split at h
  · rename_i el _ _ _ _ vs ht hvs
    have hk := (hT t _ ht).kind
    simp only at hk
    split at h
    · rename_i ti hti
      split at h
      · rename_i hc
        simp only [Bool.and_eq_true, beq_iff_eq, decide_eq_true_eq] at hc
        obtain ⟨⟨⟨hin, hvn⟩, hbig⟩, hpos⟩ := hc
        split at h
        · rename_i rows fz flat hset
          simp at h; subst h
          have hV := opnds_ok ha hvs
          obtain ⟨g1, g2, g3, g4, g5, g6⟩ := settleAll_ok hs hset hV
          obtain ⟨B', st, hB'⟩ := freezes_ok fz hs g1
          have hg6 := g6 B' st.bsub hB'
          have hsz := (hT el ti hti).size
          obtain ⟨z, hz, _, _, _⟩ := zero_ok (hT el ti hti)
          have hlen : (parts.toList.map fun x => a.eval x.2).length = n := by rw [← hV.1, hvn]
          have hrn : rows.length = n := by rw [g2, hlen]
          have hfill := Go.Great.fill_whole hpos (parts.toList.map fun x => a.eval x.2) ((Array.range (n * ti.size)).map (z.cells[· % z.cells.size]!)) (fun v hv => by have := (g3 v hv).1; simpa using this) (by rw [hlen]; simp)
          have hparts : (parts.map fun x => (x.1, a.eval x.2)).toList = ((parts.toList.map fun x => a.eval x.2).zipIdx 0).map fun x => (x.2, x.1) := by
            rw [Array.toList_map]; exact inOrder_ok a.eval hin
          have hnid : ¬ nid ∈ fz := fun hm => by obtain ⟨k, xs, fl, q, hq⟩ := g1 nid hm; rw [hr] at hq; simp at hq
          have hr' : rdU rd (freezes rd fz) nid = none := by rw [freezes_mut fz (k := 0) (xs := []) (fl := true) hnid]; exact hr
          have hlenf := flat_length (fun v : Value => v.cells.toList) ti.size (parts.toList.map fun x => a.eval x.2) (fun v hv => (g3 v hv).1)
          have st2 := Step.new (w := w) (B := B') (β := β) st.sim hβ hr' ((parts.toList.map fun x => a.eval x.2).flatMap fun v => v.cells.toList).toArray el ti.size (.arr ti.size rows flat false) ⟨g5, g4, rfl, fun i x j p hx hj => by
            have hi : i < rows.length := by rcases Nat.lt_or_ge i rows.length with h' | h'; exact h'; simp [List.getElem?_eq_none h'] at hx
            have hi' : i < (parts.toList.map fun x => a.eval x.2).length := by rw [← g2]; exact hi
            have hj' : j < ti.size := by
              rw [← g4 x (List.mem_of_getElem? hx)]
              rcases Nat.lt_or_ge j x.length with h' | h'; exact h'; simp [List.getElem?_eq_none h'] at hj
            have hvs' := hg6 i x _ hx (List.getElem?_eq_getElem hi')
            obtain ⟨v, q1, q2⟩ := hvs'.get hj
            refine ⟨v, ?_, (g3 _ (List.getElem_mem hi')).2 v (List.mem_of_getElem? q1), q2⟩
            have hf := flat_get (fun v : Value => v.cells.toList) ti.size (parts.toList.map fun x => a.eval x.2) i j _ (fun v hv => (g3 v hv).1) (List.getElem?_eq_getElem hi') hj'
            rw [q1] at hf
            simpa using hf⟩ (by simp)
          refine ⟨_, .slice (some ⟨w.heap.size, 0, none⟩) n n, _, B', _, ?_, .inl rfl, by rw [rdU_append]; exact st.trans st2, ?_, fun b hb => by simp [setM, hb]⟩
          · have hn0 : ¬ (16777216 < n * ti.size) := by omega
            have hbs : (Instr.buildSlice t n (parts.map fun x => (x.1, a.eval x.2))).run P w = .ok (.slice (some ⟨w.heap.size, 0, none⟩) n n) (w.alloc (.cells ((parts.toList.map fun x => a.eval x.2).flatMap fun v => v.cells.toList).toArray el)) := by
              unfold Instr.buildSlice
              simp only [Sem.run_bind, underlying, run_program, hk, Sem.run_pure, Result.andThen_ok, hsz w, gt_iff_lt, Nat.reducePow, hn0, ↓reduceIte]
              by_cases h0 : n * ti.size = 0
              · simp only [h0, ↓reduceIte, Sem.run_pure, Result.andThen_ok]
                rw [hparts]
                have hfill0 := hfill
                rw [h0] at hfill0
                have e0 : ∀ f : Nat → Value, Array.map f (Array.range 0) = #[] := fun f => by simp
                rw [e0] at hfill0
                rw [Sem.run_bind, Sem.run_pure, Result.andThen_ok]
                simp only [e0, hfill0]
                simp [newRow]
              · simp only [h0, ↓reduceIte, Sem.run_pure, Result.andThen_ok, Sem.run_bind, hz]
                rw [hparts, hfill]
                simp [newRow]
            simp only [execOp, ho, Sem.run_bind]
            rw [hbs]
            rfl
          · have := V.own (w := w.alloc (.cells ((parts.toList.map fun x => a.eval x.2).flatMap fun v => v.cells.toList).toArray el)) (B := B') (β := setM β nid ⟨w.heap.size, 0, ti.size⟩) nid 0 n n ⟨w.heap.size, 0, ti.size⟩ (by simp [setM]) (Nat.le_refl _) ⟨_, el, by unfold World.alloc; simp only [Array.getElem?_push, ↓reduceIte]; rfl, by simp [hlenf, hlen]⟩
            simpa using this
        · simp at h
      · simp at h
    · simp at h
  · simp at h

/-- Rows of elements, and their cells side by side. -/
structure Flat (w : World) (B : Nat → Prop) (β : Map) (sz : Nat) (new : List (List PV)) (cells : List Value) : Prop where
  len : cells.length = new.length * sz
  one : ∀ v ∈ cells, v.oneCell' = true
  row : ∀ x ∈ new, x.length = sz
  get : ∀ (i : Nat) (x : List PV) (j : Nat) (p : PV), new[i]? = some x → x[j]? = some p → ∃ v, cells[i * sz + j]? = some v ∧ V w B β p v

theorem Flat.keep {w' : World} {B' : Nat → Prop} {β' : Map} {sz : Nat} {new : List (List PV)} {cells : List Value} (h : Flat w B β sz new cells) (hk : ∀ p v, V w B β p v → V w' B' β' p v) : Flat w' B' β' sz new cells :=
  ⟨h.len, h.one, h.row, fun i x j p h1 h2 => by obtain ⟨v, g1, g2⟩ := h.get i x j p h1 h2; exact ⟨v, g1, hk p v g2⟩⟩

theorem Flat.nil (sz : Nat) : Flat w B β sz [] [] := ⟨by simp, by simp, by simp, fun i x j p h => by simp at h⟩

theorem idx_lt {i j sz n : Nat} (hi : i < n) (hj : j < sz) : i * sz + j < n * sz := by
  have := Nat.mul_le_mul_right sz (Nat.succ_le_of_lt hi)
  rw [Nat.succ_mul] at this; omega

theorem len_of_get {α : Type} {l : List α} {i : Nat} {x : α} (h : l[i]? = some x) : i < l.length := by
  rcases Nat.lt_or_ge i l.length with h' | h'
  · exact h'
  · simp [List.getElem?_eq_none h'] at h

theorem Flat.append {sz : Nat} {xs ys : List (List PV)} {cs ds : List Value} (h : Flat w B β sz xs cs) (k : Flat w B β sz ys ds) : Flat w B β sz (xs ++ ys) (cs ++ ds) where
  len := by simp [h.len, k.len, Nat.add_mul]
  one := fun v hv => by rcases List.mem_append.1 hv with h1 | h1; exact h.one v h1; exact k.one v h1
  row := fun v hv => by rcases List.mem_append.1 hv with h1 | h1; exact h.row v h1; exact k.row v h1
  get := fun i x j p h1 h2 => by
    have hj : j < sz := by
      have : x.length = sz := by rcases List.mem_append.1 (List.mem_of_getElem? h1) with h3 | h3; exact h.row x h3; exact k.row x h3
      rw [← this]; exact len_of_get h2
    by_cases hi : i < xs.length
    · rw [List.getElem?_append_left hi] at h1
      obtain ⟨v, g1, g2⟩ := h.get i x j p h1 h2
      exact ⟨v, by rw [List.getElem?_append_left (by rw [h.len]; exact idx_lt hi hj)]; exact g1, g2⟩
    · rw [List.getElem?_append_right (by omega)] at h1
      obtain ⟨v, g1, g2⟩ := k.get _ x j p h1 h2
      refine ⟨v, ?_, g2⟩
      have : i * sz + j = xs.length * sz + ((i - xs.length) * sz + j) := by
        have : i * sz = xs.length * sz + (i - xs.length) * sz := by rw [← Nat.add_mul]; congr 1; omega
        omega
      rw [this, List.getElem?_append_right (by rw [h.len]; omega), h.len]
      have e : xs.length * sz + ((i - xs.length) * sz + j) - xs.length * sz = (i - xs.length) * sz + j := by omega
      rw [e]; exact g1

/-- The cells of a slice that is read. -/
theorem src_ok (hs : Sim w B β rd) {sz : Nat} {x : PV} {u : Value} {new : List (List PV)} {nf : Bool} {foot : List Nat} (h : srcOf rd sz x = some (new, nf, foot)) (hu : V w B β x u) :
    ∃ (base : Option Addr) (cap : Nat) (cells : List Value), u = .slice base new.length cap ∧ (nf = true → AllPlain new) ∧ Flat w B (fun _ => none) sz new cells ∧
      (new = [] ∨ ∃ b o, base = some ⟨b, o, none⟩ ∧ ∀ j v, cells[j]? = some v → w.cell? ⟨b, o + j, none⟩ = some v) ∧
      (∀ aa o, rd aa = some o → aa ∉ foot → (∀ k xs fl, o ≠ .arr k xs fl true) → ∀ l b p, β aa = some l → base = some ⟨b, p, none⟩ → new = [] ∨ b ≠ l.block) := by
  unfold srcOf at h
  split at h
  · simp at h; obtain ⟨rfl, rfl, rfl⟩ := h
    cases hu
    exact ⟨none, 0, [], rfl, fun _ x hx => by simp at hx, .nil sz, .inl rfl, fun _ _ _ _ _ _ _ _ _ _ => .inl rfl⟩
  · rename_i xs fl
    split at h <;> simp at h
    rename_i hall
    obtain ⟨rfl, rfl, rfl⟩ := h
    cases hu with
    | lit0 fl b cap => exact ⟨b, cap, [], rfl, fun _ x hx => by simp at hx, .nil sz, .inl rfl, fun _ _ _ _ _ _ _ _ _ _ => .inl rfl⟩
    | lit xs fl b o k cap val hb hn hf hk hcell ho hv =>
      have hall' : ∀ x ∈ xs, x.length = sz := by simpa using hall
      rcases xs.eq_nil_or_concat with rfl | hne
      · exact ⟨_, cap, [], rfl, hf, .nil sz, .inl rfl, fun _ _ _ _ _ _ _ _ _ _ => .inl rfl⟩
      · have hne' : xs ≠ [] := by obtain ⟨a, b, rfl⟩ := hne; simp
        obtain ⟨x0, r0, hxs⟩ := List.exists_cons_of_ne_nil hne'
        have hksz : k = sz := by rw [← hk x0 (by rw [hxs]; simp), hall' x0 (by rw [hxs]; simp)]
        subst hksz
        have hcellget : ∀ q, q < xs.length * k → ∃ v, w.cell? ⟨b, o + q, none⟩ = some v ∧ v = val (q / k) (q % k) ∧ v.oneCell' = true := fun q hq => by
          have hkpos : 0 < k := by rcases Nat.eq_zero_or_pos k with h0 | h0; rw [h0] at hq; simp at hq; exact h0
          have hqi : q / k < xs.length := Nat.div_lt_of_lt_mul (by rw [Nat.mul_comm]; exact hq)
          have hqj : q % k < k := Nat.mod_lt _ hkpos
          have hx := List.getElem?_eq_getElem hqi
          have hxl := hk _ (List.getElem_mem hqi)
          have hj := List.getElem?_eq_getElem (l := xs[q / k]) (i := q % k) (by rw [hxl]; exact hqj)
          have h1 := hcell (q / k) _ (q % k) _ hx hj
          have e : o + q / k * k + q % k = o + q := by have := Nat.div_add_mod q k; rw [Nat.mul_comm] at this; omega
          rw [e] at h1
          exact ⟨_, h1, rfl, ho _ _ _ _ hx hj⟩
        refine ⟨some ⟨b, o, none⟩, cap, (List.range (xs.length * k)).map fun q => val (q / k) (q % k), rfl, hf, ⟨by simp, fun v hv => ?_, hall', fun i x j p h1 h2 => ?_⟩, .inr ⟨b, o, rfl, fun j v hj => ?_⟩, ?_⟩
        · simp only [List.mem_map, List.mem_range] at hv
          obtain ⟨q, hq, rfl⟩ := hv
          obtain ⟨v, _, rfl, h3⟩ := hcellget q hq
          exact h3
        · have hi := len_of_get h1
          have hj : j < k := by rw [← hk x (List.mem_of_getElem? h1)]; exact len_of_get h2
          have hq := idx_lt hi hj
          refine ⟨val i j, ?_, hv i x j p h1 h2⟩
          have hkpos : 0 < k := by omega
          have e1 : (i * k + j) / k = i := by rw [Nat.add_comm, Nat.add_mul_div_right _ _ hkpos, Nat.div_eq_of_lt hj, Nat.zero_add]
          have e2 : (i * k + j) % k = j := by rw [Nat.add_comm, Nat.add_mul_mod_self_right, Nat.mod_eq_of_lt hj]
          simp [hq, e1, e2]
        · have hq : j < xs.length * k := by have := len_of_get hj; simpa using this
          simp [hq] at hj; subst hj
          obtain ⟨v, h1, rfl, _⟩ := hcellget j hq
          exact h1
        · intro aa oo hr hnf hmu l b' p hl hb'
          simp at hb'; obtain ⟨rfl, rfl⟩ := hb'
          exact .inr fun h => hs.excl aa oo l hr hmu hl (h ▸ hb)
  · rename_i aa k off len
    split at h
    · rename_i k' xs flat z hb
      split at h <;> simp at h
      rename_i hc
      simp only [Bool.and_eq_true, beq_iff_eq, decide_eq_true_eq] at hc
      obtain ⟨⟨rfl, rfl⟩, hle⟩ := hc
      obtain ⟨rfl, rfl, rfl⟩ := h
      obtain ⟨h1, h2, h3⟩ := hs.arr aa k' xs flat z hb
      have hlen : ((xs.drop off).take len).length = len := by simp; omega
      cases hu with
      | own0 aa k off b =>
        refine ⟨b, 0, [], by simp, fun _ x hx => by simp at hx, by simpa using Flat.nil (w := w) (B := B) (β := fun _ => none) k', .inl (by simp), fun _ _ _ _ _ _ _ _ _ _ => .inl (by simp)⟩
      | own aa off len cap l hl hcap hroom =>
        rcases h3 with ⟨rfl, hn⟩ | ⟨m, c, e, g1, g2, g3, g4⟩
        · rw [hl] at hn; simp at hn
        · rw [hl] at g1; obtain rfl := Option.some.inj g1
          have hget : ∀ (i : Nat) (x : List PV), ((xs.drop off).take len)[i]? = some x → xs[off + i]? = some x := fun i x hx => by
            rw [List.getElem?_take] at hx
            split at hx
            · simpa using hx
            · simp at hx
          have hmem : ∀ x ∈ (xs.drop off).take len, x ∈ xs := fun x hx => List.mem_of_mem_drop (List.mem_of_mem_take hx)
          have hq : ∀ q, q < len * l.k → ∃ v, c[l.off + off * l.k + q]? = some v ∧ v.oneCell' = true := fun q hq => by
            have hkpos : 0 < l.k := by rcases Nat.eq_zero_or_pos l.k with h0 | h0; rw [h0] at hq; simp at hq; exact h0
            have hqi : q / l.k < len := Nat.div_lt_of_lt_mul (by rw [Nat.mul_comm]; exact hq)
            have hqj : q % l.k < l.k := Nat.mod_lt _ hkpos
            have hi' : off + q / l.k < xs.length := by omega
            have hx := List.getElem?_eq_getElem hi'
            have hxl : (xs[off + q / l.k]).length = l.k := h2 _ (List.getElem_mem hi')
            obtain ⟨v, r1, r2, _⟩ := g4 _ _ (q % l.k) _ hx (List.getElem?_eq_getElem (by rw [hxl]; exact hqj))
            refine ⟨v, ?_, r2⟩
            have e : l.off + (off + q / l.k) * l.k + q % l.k = l.off + off * l.k + q := by
              have := Nat.div_add_mod q l.k
              rw [Nat.mul_comm] at this
              rw [Nat.add_mul]; omega
            rw [e] at r1; exact r1
          refine ⟨some ⟨l.block, l.off + off * l.k, none⟩, cap, (List.range (len * l.k)).map fun q => (c[l.off + off * l.k + q]?).getD default, by rw [hlen], fun hf x hx => h1 hf x (hmem x hx),
            ⟨by simp [hlen], fun v hv => ?_, fun x hx => h2 x (hmem x hx), fun i x j p q1 q2 => ?_⟩, .inr ⟨_, _, rfl, fun j v hj => ?_⟩, ?_⟩
          · simp only [List.mem_map, List.mem_range] at hv
            obtain ⟨q, hq', rfl⟩ := hv
            obtain ⟨v, r1, r2⟩ := hq q hq'
            simpa [r1] using r2
          · have hi := len_of_get q1
            rw [hlen] at hi
            have hj : j < l.k := by rw [← h2 x (hmem x (List.mem_of_getElem? q1))]; exact len_of_get q2
            have hqq := idx_lt hi hj
            obtain ⟨v, r1, r2, r3⟩ := g4 (off + i) x j p (hget i x q1) q2
            refine ⟨v, ?_, r3⟩
            have e : l.off + (off + i) * l.k + j = l.off + off * l.k + (i * l.k + j) := by rw [Nat.add_mul]; omega
            rw [e] at r1
            simp [hqq, r1]
          · have hqq : j < len * l.k := by have := len_of_get hj; simpa using this
            simp [hqq] at hj; subst hj
            obtain ⟨v, r1, r2⟩ := hq j hqq
            simp [World.cell?, g3, r1]
          · intro bb oo hr hnf hmu m b' p hm hb'
            simp at hb'; obtain ⟨rfl, rfl⟩ := hb'
            simp at hnf
            exact .inr (hs.inj aa bb _ oo l m hb hr (Ne.symm hnf) hl hm)
    · simp at h
  · simp at h

theorem first_ok {sz n : Nat} {base : Option Addr} {cap : Nat} {cells : List Value} (hl : cells.length = n * sz) (h : n = 0 ∨ ∃ b o, base = some ⟨b, o, none⟩ ∧ ∀ j v, cells[j]? = some v → w.cell? ⟨b, o + j, none⟩ = some v) :
    (Builtin.firstCells sz n (.slice base n cap)).run P w = .ok cells.toArray w := by
  rcases h with rfl | ⟨b, o, rfl, h⟩
  · simp at hl; subst hl
    cases base with
    | none => simp [Builtin.firstCells]
    | some a => simp [Builtin.firstCells, loadCells, loadCellsFrom]
  · exact run_firstCells_some (P := P) w sz n _ n cap cells hl fun j v hj => by rw [add_none]; exact h j v hj

/-- An append that fits. -/
theorem app_in {t t' e e' ty : TypeId} {sz : Nat} (ht : P.underlying t = some (.slice e)) (ht' : P.underlying t' = some (.slice e')) (hsz : ∀ w, (sizeOf e).run P w = .ok sz w)
    {base xb : Option Addr} {sLen sCap n xc : Nat} {cells : List Value} (hx : (Builtin.firstCells sz n (.slice xb n xc)).run P w = .ok cells.toArray w) (hfit : sLen + n ≤ sCap) {w' : World}
    (hst : match base with | none => w' = w | some a => (storeCells (a.add (sLen * sz)) cells 0).run P w = .ok () w') :
    (Builtin.append_ #[t, t'] ty #[.slice base sLen sCap, .slice xb n xc]).run P w = .ok (.slice base (sLen + n) sCap) w' := by
  cases base with
  | none =>
    subst hst
    simp [Builtin.append_, underlying, ht, ht', hsz, Builtin.lenOf, hfit, hx]
  | some a =>
    simp [Builtin.append_, underlying, ht, ht', hsz, Builtin.lenOf, hfit, hx, hst]

/-- An append that must grow. -/
theorem app_grow {t t' e e' ty : TypeId} {i : TypeInfo} {z : Value} (ht : P.underlying t = some (.slice e)) (ht' : P.underlying t' = some (.slice e')) (hi : P.info? e = some i) (hz : i.zero = some z)
    {base xb : Option Addr} {sLen sCap n xc : Nat} {olds cells : List Value} (ho : ∀ w1 : World, w1.heap = w.heap → (Builtin.firstCells i.size sLen (.slice base sLen sCap)).run P w1 = .ok olds.toArray w1)
    (hx : ∀ w1 : World, w1.heap = w.heap → (Builtin.firstCells i.size n (.slice xb n xc)).run P w1 = .ok cells.toArray w1) (hg : sCap < sLen + n) (hb : (sLen + n) ≤ bound) (hby : i.bytes ≤ 4096) :
    (Builtin.append_ #[t, t'] ty #[.slice base sLen sCap, .slice xb n xc]).run P w =
      .ok (.slice (some ⟨w.heap.size, 0, none⟩) (sLen + n) (grownCap w (sLen + n) sCap e))
        (w.drew.alloc (.cells (olds.toArray ++ cells.toArray ++ Builtin.zeroCells z.cells (grownCap w (sLen + n) sCap e - (sLen + n))) e)) := by
  have hn : ¬ (sLen + n ≤ sCap) := by omega
  have h63' : ¬ (9223372036854775807 < ((sLen : Int) + (n : Int))) := by unfold bound at hb; omega
  have hmul : (sLen + n) * i.bytes ≤ 140737488355328 := by
    have := Nat.mul_le_mul hb hby
    unfold bound at this
    omega
  have h48' : ¬ (281474976710656 < Builtin.nextslicecap (sLen + n) sCap * i.bytes) := by have := growslice_fits hg hmul; omega
  have ho' := ho w.drew rfl
  have hx' := hx w.drew rfl
  simp [Builtin.append_, underlying, ht, ht', sizeOf, typeInfo, zeroValue, hi, hz, Builtin.lenOf, hn, h63', h48', Question.forced, ho', hx', newRow, grownCap, Array.append_assoc, -List.append_toArray]

theorem grownCap_le (w : World) (need old : Nat) (e : TypeId) : need ≤ grownCap w need old e := by
  unfold grownCap
  simp [Question.cut]

/-- The row that an append has made. -/
theorem arr_new {sz : Nat} {new : List (List PV)} {cells : List Value} {nf : Bool} (hf : Flat w B (fun _ => none) sz new cells) (hp : nf = true → AllPlain new) (blk : Nat) (rest : Array Value) :
    ObjOK w B β (.arr sz new nf false) ⟨blk, 0, sz⟩ (cells.toArray ++ rest) :=
  ⟨hp, hf.row, rfl, fun i x j p h1 h2 => by
    obtain ⟨v, g1, g2⟩ := hf.get i x j p h1 h2
    have hlt := len_of_get g1
    refine ⟨v, ?_, hf.one v (List.mem_of_getElem? g1), g2⟩
    simp only [Nat.zero_add]
    rw [Array.getElem?_append_left (by simpa using hlt)]
    simpa using g1⟩

theorem allPlain_append {xs ys : List (List PV)} (h : AllPlain xs) (k : AllPlain ys) : AllPlain (xs ++ ys) := fun x hx => by
  rcases List.mem_append.1 hx with h1 | h1
  · exact h x h1
  · exact k x h1

theorem grown_room {z : Value} {olds cells : List Value} {n cap sz : Nat} (hl : olds.length + cells.length = n * sz) (hz : z.cells.size = sz) (hc : n ≤ cap) :
    0 + (0 + cap) * sz ≤ (olds.toArray ++ cells.toArray ++ Builtin.zeroCells z.cells (cap - n)).size := by
  have : cap * sz = n * sz + (cap - n) * sz := by rw [← Nat.add_mul]; congr 1; omega
  simp [Builtin.zeroCells, hz]
  omega

theorem append_ok (hT : TabOK P tab) (hs : Sim w B β rd) {nid t t' e' : Nat} {s x : PV} {u v : Value} {e : Eff} {ti' : TI} (h : appendAt tab rd nid t s x = some e) (ht' : tab t' = some ti') (hk' : ti'.kind = .slice e')
    (hu : V w B β s u) (hv : V w B β x v) (hβ : β nid = none) (hr : rd nid = none) (ty : TypeId) :
    ∃ q w' B' β', (Builtin.append_ #[t, t'] ty #[u, v]).run P w = .ok q w' ∧ Step w B β rd w' B' β' (rdU rd e.upd) ∧ V w' B' β' e.val q ∧ (∀ b, b ≠ nid → β' b = β b) := by
  have hu' := (hT t' ti' ht').kind
  rw [hk'] at hu'; simp only at hu'
  unfold appendAt at h
  split at h
  · rename_i el _ _ _ _ ht
    have hk := (hT t _ ht).kind
    simp only at hk
    split at h
    · simp at h
    · rename_i ti hti
      have hi := hT el ti hti
      obtain ⟨info, z, i1, i2, i3, i4, i5, i6⟩ := hi.info
      split at h
      · simp at h
      · rename_i new nf foot hsrc
        obtain ⟨xb, xc, cells, rfl, hnf, hflat, hplace, hother⟩ := src_ok hs hsrc hv
        have hzs : z.cells.size = ti.size := by
          have := congrArg List.length i5
          simp at this; rw [this, i6]
        have hfx : ∀ w1 : World, w1.heap = w.heap → (Builtin.firstCells info.size new.length (.slice xb new.length xc)).run P w1 = .ok cells.toArray w1 := fun w1 hw1 => by
          refine first_ok (by rw [i2]; exact hflat.len) ?_
          rcases hplace with rfl | ⟨b, o, hb, hc⟩
          · exact .inl rfl
          · exact .inr ⟨b, o, hb, fun j v hj => by have := hc j v hj; unfold World.cell? at this ⊢; rw [hw1]; exact this⟩
        split at h
        · rename_i hby
          split at h
          · cases hu
            split at h
            · simp at h; subst h
              refine ⟨.slice none 0 0, w, B, β, ?_, Step.new0 hs hβ hr ti.size nf, .own0 _ _ _ _, fun _ _ => rfl⟩
              have := app_in (P := P) (w := w) (w' := w) (ty := ty) (base := none) (sLen := 0) (sCap := 0) hk hu' hi.size (xb := xb) (n := 0) (xc := xc) (cells := cells) (by have := hfx w rfl; rw [i2] at this; exact this) (by simp) rfl
              simpa using this
            · rename_i y ys
              split at h <;> simp at h
              subst h
              rename_i hbd
              have hrun := app_grow (P := P) (w := w) (ty := ty) (base := none) (sLen := 0) (sCap := 0) (olds := []) hk hu' i1 i4 (fun w1 _ => by simp [Builtin.firstCells]) hfx (by simp) (by simpa using hbd) (by rw [i3]; exact hby)
              have st1 := Step.draw hs (w.drawn + 1)
              have st2 := Step.new (w := w.drew) (a := nid) st1.sim hβ hr ([].toArray ++ cells.toArray ++ Builtin.zeroCells z.cells (grownCap w (0 + (y :: ys).length) 0 el - (0 + (y :: ys).length))) el ti.size (.arr ti.size (y :: ys) nf false)
                (by
                  have := arr_new (β := β) (hflat.keep (w' := w.drew) (B' := B) (β' := fun _ => none) fun p v hpv => hpv.heap rfl) hnf w.drew.heap.size (Builtin.zeroCells z.cells (grownCap w (0 + (y :: ys).length) 0 el - (0 + (y :: ys).length)))
                  rw [show ([].toArray : Array Value) ++ cells.toArray = cells.toArray from by simp]
                  exact this) (by simp)
              refine ⟨_, _, B, setM β nid ⟨w.drew.heap.size, 0, ti.size⟩, hrun, ?_, ?_, fun b hb => by simp [setM, hb]⟩
              · exact st1.trans st2
              · have hcap := grownCap_le w (0 + (y :: ys).length) 0 el
                have := V.own (w := w.drew.alloc (.cells ([].toArray ++ cells.toArray ++ Builtin.zeroCells z.cells (grownCap w (0 + (y :: ys).length) 0 el - (0 + (y :: ys).length))) el)) (B := B) (β := setM β nid ⟨w.drew.heap.size, 0, ti.size⟩) nid 0 (0 + (y :: ys).length) (grownCap w (0 + (y :: ys).length) 0 el)
                  ⟨w.heap.size, 0, ti.size⟩ (by simp [setM]) hcap ⟨_, el, by unfold World.alloc World.drew; simp only [Array.getElem?_push, ↓reduceIte]; rfl, grown_room (by have := hflat.len; simpa using this) hzs hcap⟩
                simpa using this
          · rename_i aa k off len
            split at h
            · rename_i k' xs flat hb
              split at h <;> simp at h
              subst h
              rename_i hc
              simp only [Bool.and_eq_true, beq_iff_eq, decide_eq_true_eq, Bool.not_eq_true', Bool.eq_false_iff, ne_eq, has_iff] at hc
              obtain ⟨⟨⟨⟨hk1, hk2⟩, hle⟩, hbd⟩, hnfoot⟩ := hc
              subst hk2
              have hxsk := (hs.arr aa k' xs flat false hb).2.1
              have hplain := (hs.arr aa k' xs flat false hb).1
              have hmem : ∀ x ∈ (xs.drop off).take len, x ∈ xs := fun x hx => List.mem_of_mem_drop (List.mem_of_mem_take hx)
              have hslen : ((xs.drop off).take len).length = len := by simp; omega
              have hssrc : srcOf rd ti.size (.own aa k' off len) = some ((xs.drop off).take len, flat, [aa]) := by simp [srcOf, hb, hk1, hle]
              obtain ⟨sb, sc, olds, hueq, hsf, hsflat, hsplace, _⟩ := src_ok hs hssrc hu
              rw [hslen] at hueq
              subst hueq
              have hflat2 := hsflat.append hflat
              have hp2 : (flat && nf) = true → AllPlain ((xs.drop off).take len ++ new) := fun h => by
                simp only [Bool.and_eq_true] at h
                exact allPlain_append (hsf h.1) (hnf h.2)
              by_cases hfit : len + new.length ≤ sc
              · cases hu with
                | own0 _ _ _ _ =>
                  have hn0 : new = [] := List.length_eq_zero_iff.1 (by omega)
                  subst hn0
                  have hc0 : cells = [] := List.length_eq_zero_iff.1 (by simpa using hflat.len)
                  subst hc0
                  refine ⟨.slice sb 0 0, w, B, β, ?_, ?_, ?_, fun _ _ => rfl⟩
                  · have := app_in (P := P) (w := w) (w' := w) (ty := ty) (base := sb) (sLen := 0) (sCap := 0) hk hu' hi.size (xb := xb) (n := 0) (xc := xc) (cells := []) (by have := hfx w rfl; rw [i2] at this; exact this) (by simp) (by cases sb <;> simp [storeCells])
                    simpa using this
                  · have st1 := Step.kill hs aa
                    have := st1.trans (Step.new0 st1.sim hβ (by unfold setR; split; rfl; exact hr) k' (flat && nf))
                    simpa [rdU] using this
                  · simpa using V.own0 nid k' 0 sb
                | own _ _ _ _ l hl hcap hroom =>
                  obtain ⟨c, e, hc, hfl, hxk, hlk, harr⟩ := hs.obj hb hl
                  obtain ⟨c2, e2, hc2, hsize⟩ := hroom
                  rw [hc] at hc2; simp at hc2; obtain ⟨rfl, rfl⟩ := hc2
                  have hcl : cells.length = new.length * l.k := by rw [hflat.len, ← hk1, hlk]
                  have hoff : l.off + off * l.k + len * l.k + cells.length ≤ c.size := by
                    rw [hcl]
                    have h1 : (off + (len + new.length)) * l.k ≤ (off + sc) * l.k := Nat.mul_le_mul_right _ (by omega)
                    rw [Nat.add_mul, Nat.add_mul] at h1
                    omega
                  have hrun := run_stores (P := P) hc hoff hflat.one
                  refine ⟨.slice (some ⟨l.block, l.off + off * l.k, none⟩) (len + new.length) sc, w.setRow l.block (splc c (l.off + off * l.k + len * l.k) cells), B, setM β nid ⟨l.block, l.off + off * l.k, l.k⟩, ?_, ?_, ?_, fun b hb => by simp [setM, hb]⟩
                  · exact app_in (P := P) (w := w) (ty := ty) (base := some ⟨l.block, l.off + off * l.k, none⟩) hk hu' hi.size (by have := hfx w rfl; rw [i2] at this; exact this) hfit (by simp only [add_none]; rw [← hk1, ← hlk]; exact hrun)
                  · have := Step.move hs hb (by simp) hl hβ hr hc (splc_size hoff) (rewr_setRow hc) (.arr l.k ((xs.drop off).take len ++ new) (flat && nf) false) ⟨l.block, l.off + off * l.k, l.k⟩ rfl (by simp) ⟨hp2, fun x hx => ?_, hlk, fun i x j p h1 h2 => ?_⟩
                    · simpa [rdU] using this
                    · rcases List.mem_append.1 hx with h | h
                      · exact hxsk x (hmem x h)
                      · rw [hflat.row x h, hk1]
                    · rw [splc_get hoff]
                      by_cases hi : i < len
                      · rw [List.getElem?_append_left (by rw [hslen]; exact hi)] at h1
                        have hxm := hxsk x (hmem x (List.mem_of_getElem? h1))
                        have hj : j < l.k := by rw [hlk, ← hxm]; exact len_of_get h2
                        rw [List.getElem?_take] at h1
                        rw [if_pos hi, List.getElem?_drop] at h1
                        obtain ⟨v, q1, q2, q3⟩ := harr (off + i) x j p h1 h2
                        have hlt := idx_lt hi hj
                        have e1 : l.off + (off + i) * l.k + j = l.off + off * l.k + i * l.k + j := by rw [Nat.add_mul]; omega
                        rw [e1] at q1
                        rw [if_neg (by simp only; omega)]
                        exact ⟨v, q1, q2, q3⟩
                      · rw [List.getElem?_append_right (by rw [hslen]; omega), hslen] at h1
                        obtain ⟨v, q1, q3⟩ := hflat.get (i - len) x j p h1 h2
                        have hj : j < l.k := by rw [hlk, hk1, ← hflat.row x (List.mem_of_getElem? h1)]; exact len_of_get h2
                        have hlt := idx_lt (len_of_get h1) hj
                        have e2 : i * l.k = len * l.k + (i - len) * l.k := by rw [← Nat.add_mul]; congr 1; omega
                        rw [if_pos (by simp only; omega)]
                        refine ⟨v, ?_, hflat.one v (List.mem_of_getElem? q1), q3⟩
                        rw [← q1]
                        congr 1
                        rw [← hk1, ← hlk]
                        simp only
                        omega
                  · have := V.own (w := w.setRow l.block (splc c (l.off + off * l.k + len * l.k) cells)) (B := B) (β := setM β nid ⟨l.block, l.off + off * l.k, l.k⟩) nid 0 (len + new.length) sc ⟨l.block, l.off + off * l.k, l.k⟩ (by simp [setM]) hfit
                      ⟨_, e, setRow_heap w l.block c _ e (0, 0) hc, by rw [splc_size hoff]; rw [Nat.add_mul] at hsize; simp; omega⟩
                    simp only [Nat.zero_mul, Nat.add_zero] at this
                    exact this
              · have hfs : ∀ w1 : World, w1.heap = w.heap → (Builtin.firstCells info.size len (.slice sb len sc)).run P w1 = .ok olds.toArray w1 := fun w1 hw1 => by
                  refine first_ok (by rw [i2]; have := hsflat.len; rw [hslen] at this; exact this) ?_
                  rcases hsplace with h0 | ⟨b, o, hb, hc⟩
                  · left; rw [← hslen, h0]; rfl
                  · exact .inr ⟨b, o, hb, fun j v hj => by have := hc j v hj; unfold World.cell? at this ⊢; rw [hw1]; exact this⟩
                have hrun := app_grow (P := P) (w := w) (ty := ty) (base := sb) (sLen := len) (sCap := sc) (olds := olds) hk hu' i1 i4 hfs hfx (by omega) hbd (by rw [i3]; exact hby)
                have st0 := Step.kill hs aa
                have st1 := Step.draw st0.sim (w.drawn + 1)
                have hr' : setR rd aa none nid = none := by unfold setR; split; rfl; exact hr
                have st2 := Step.new (w := w.drew) (a := nid) st1.sim hβ hr' (olds.toArray ++ cells.toArray ++ Builtin.zeroCells z.cells (grownCap w (len + new.length) sc el - (len + new.length))) el ti.size (.arr ti.size ((xs.drop off).take len ++ new) (flat && nf) false)
                  (by
                    have := arr_new (β := β) (hflat2.keep (w' := w.drew) (B' := B) (β' := fun _ => none) fun p v hpv => hpv.heap (w' := w.drew) rfl) hp2 w.drew.heap.size (Builtin.zeroCells z.cells (grownCap w (len + new.length) sc el - (len + new.length)))
                    rw [show (olds ++ cells).toArray = olds.toArray ++ cells.toArray from by simp] at this
                    exact this) (by simp)
                refine ⟨_, _, B, setM β nid ⟨w.drew.heap.size, 0, ti.size⟩, hrun, ?_, ?_, fun b hb => by simp [setM, hb]⟩
                · have := (st0.trans st1).trans st2
                  rw [hk1]
                  simpa [rdU] using this
                · have hcap := grownCap_le w (len + new.length) sc el
                  have hl1 := hsflat.len
                  rw [hslen] at hl1
                  have := V.own (w := w.drew.alloc (.cells (olds.toArray ++ cells.toArray ++ Builtin.zeroCells z.cells (grownCap w (len + new.length) sc el - (len + new.length))) el)) (B := B) (β := setM β nid ⟨w.drew.heap.size, 0, ti.size⟩) nid 0 (len + new.length) (grownCap w (len + new.length) sc el)
                    ⟨w.heap.size, 0, ti.size⟩ (by simp [setM]) hcap ⟨_, el, by unfold World.alloc World.drew; simp only [Array.getElem?_push, ↓reduceIte]; rfl, grown_room (by rw [hl1, hflat.len, Nat.add_mul]) hzs hcap⟩
                  rw [hk1]
                  simpa using this
            · simp at h
          · simp at h
        · simp at h
  · simp at h

/-- (6) Less is said of a row. -/
theorem Step.reflat (hs : Sim w B β rd) {aa k : Nat} {xs : List (List PV)} {fl fl' : Bool} (ha : rd aa = some (.arr k xs fl false)) (hf : fl' = true → fl = true) :
    Step w B β rd w B β (setR rd aa (some (.arr k xs fl' false))) := by
  have hcase : ∀ b p, setR rd aa (some (.arr k xs fl' false)) b = some p → (b = aa ∧ p = .arr k xs fl' false) ∨ (b ≠ aa ∧ rd b = some p) := fun b p h => by
    unfold setR at h
    split at h
    · rename_i hb; simp at h; exact .inl ⟨hb, h.symm⟩
    · exact .inr ⟨‹_›, h⟩
  refine ⟨Sim.of ?_ ?_ ?_ hs.lt ?_, .refl _ _, fun _ h => h, fun _ h => .inl h, ?_, ?_, fun _ _ h => h⟩
  · intro b p hb
    rcases hcase b p hb with ⟨rfl, rfl⟩ | ⟨_, h⟩
    · rcases hs.cases ha with ⟨l, h1, c, e, h2, h3⟩ | ⟨h1, k', fl0, fz, h2⟩
      · exact .inl ⟨l, h1, c, e, h2, fun h => h3.1 (hf h), h3.2⟩
      · simp at h2; obtain ⟨rfl, rfl, rfl, rfl⟩ := h2
        exact .inr ⟨h1, _, _, _, rfl⟩
    · exact hs.cases h
  · intro b p l hb hp hl
    rcases hcase b p hb with ⟨rfl, rfl⟩ | ⟨_, h⟩
    · exact hs.excl b _ l ha (by simp) hl
    · exact hs.excl b p l h hp hl
  · intro b d p q l m hb hd hne hl hm
    have h1 : ∃ p', rd b = some p' := by rcases hcase b p hb with ⟨rfl, _⟩ | ⟨_, h⟩; exact ⟨_, ha⟩; exact ⟨_, h⟩
    have h2 : ∃ p', rd d = some p' := by rcases hcase d q hd with ⟨rfl, _⟩ | ⟨_, h⟩; exact ⟨_, ha⟩; exact ⟨_, h⟩
    obtain ⟨p', h1⟩ := h1
    obtain ⟨q', h2⟩ := h2
    exact hs.inj b d p' q' l m h1 h2 hne hl hm
  · intro b k' xs' fl0 l hb hl
    rcases hcase b _ hb with ⟨rfl, h⟩ | ⟨_, h⟩
    · simp at h
    · exact hs.frz b k' xs' fl0 l h hl
  · rintro b ⟨d, p, l, h1, h2, h3, rfl⟩
    rcases hcase d p h1 with ⟨rfl, rfl⟩ | ⟨_, h⟩
    · exact .inl ⟨d, _, l, ha, by simp, h3, rfl⟩
    · exact .inl ⟨d, p, l, h, h2, h3, rfl⟩
  · rintro b ⟨d, p, l, h1, h3, rfl⟩
    rcases hcase d p h1 with ⟨rfl, rfl⟩ | ⟨_, h⟩
    · exact .inl ⟨d, _, l, ha, h3, rfl⟩
    · exact .inl ⟨d, p, l, h, h3, rfl⟩

/-- Some elements of a row are written over. -/
theorem Step.over (hs : Sim w B β rd) {aa k off : Nat} {xs ys : List (List PV)} {cells : List Value} {fl nf : Bool} (ha : rd aa = some (.arr k xs fl false)) {l : Loc} (hl : β aa = some l) {c : Array Value} {e : Nat} (hc : w.heap[l.block]? = some (.cells c e (0, 0)))
    (hy : Flat w B (fun _ => none) k ys cells) (hp : nf = true → AllPlain ys) (hle : off + ys.length ≤ xs.length) (hfit : l.off + off * l.k + cells.length ≤ c.size) :
    Step w B β rd (w.setRow l.block (splc c (l.off + off * l.k) cells)) B β (setR rd aa (some (.arr k (xs.take off ++ ys ++ xs.drop (off + ys.length)) (fl && nf) false))) := by
  obtain ⟨c', e', hc', hfl, hxk, hlk, harr⟩ := hs.obj ha hl
  rw [hc] at hc'; simp at hc'; obtain ⟨rfl, rfl⟩ := hc'
  have hto : (xs.take off).length = off := by simp; omega
  refine Step.write hs ha (by simp) hl hc (splc_size hfit) (rewr_setRow hc) _ (by simp) ⟨fun h => ?_, fun x hx => ?_, hlk, fun i x j p h1 h2 => ?_⟩
  · simp only [Bool.and_eq_true] at h
    intro x hx
    simp only [List.mem_append] at hx
    rcases hx with (hx | hx) | hx
    · exact hfl h.1 x (List.mem_of_mem_take hx)
    · exact hp h.2 x hx
    · exact hfl h.1 x (List.mem_of_mem_drop hx)
  · simp only [List.mem_append] at hx
    rcases hx with (hx | hx) | hx
    · exact hxk x (List.mem_of_mem_take hx)
    · exact hy.row x hx
    · exact hxk x (List.mem_of_mem_drop hx)
  · rw [splc_get hfit]
    have hcl : cells.length = ys.length * l.k := by rw [hy.len, hlk]
    by_cases hi : off ≤ i ∧ i < off + ys.length
    · have h3 : ys[i - off]? = some x := by
        rw [List.append_assoc, List.getElem?_append_right (by rw [hto]; omega), hto, List.getElem?_append_left (by omega)] at h1
        exact h1
      obtain ⟨v, q1, q2⟩ := hy.get (i - off) x j p h3 h2
      have hj : j < l.k := by rw [hlk, ← hy.row x (List.mem_of_getElem? h3)]; exact len_of_get h2
      have hlt := idx_lt (len_of_get h3) hj
      have e2 : i * l.k = off * l.k + (i - off) * l.k := by rw [← Nat.add_mul]; congr 1; omega
      rw [if_pos (by omega)]
      refine ⟨v, ?_, hy.one v (List.mem_of_getElem? q1), q2⟩
      rw [← q1, ← hlk]
      congr 1
      omega
    · have h3 : xs[i]? = some x := by
        by_cases hlo : i < off
        · rw [List.append_assoc, List.getElem?_append_left (by rw [hto]; exact hlo), List.getElem?_take, if_pos hlo] at h1
          exact h1
        · rw [List.getElem?_append_right (by simp [hto]; omega), List.getElem?_drop] at h1
          rw [← h1]
          congr 1
          simp [hto]; omega
      obtain ⟨v, q1, q2⟩ := harr i x j p h3 h2
      have hj : j < l.k := by rw [hlk, ← hxk x (List.mem_of_getElem? h3)]; exact len_of_get h2
      refine ⟨v, ?_, q2⟩
      rw [if_neg ?_]
      · exact q1
      · by_cases hlo : i < off
        · have := Nat.mul_le_mul_right l.k (Nat.succ_le_of_lt hlo)
          rw [Nat.succ_mul] at this
          omega
        · have h4 : off + ys.length ≤ i := by omega
          have := Nat.mul_le_mul_right l.k h4
          rw [Nat.add_mul] at this
          omega

theorem Flat.take {sz : Nat} {new : List (List PV)} {cells : List Value} (h : Flat w B β sz new cells) (n : Nat) : Flat w B β sz (new.take n) (cells.take (n * sz)) where
  len := by
    rw [List.length_take, List.length_take, h.len]
    rcases Nat.le_total n new.length with h1 | h1
    · rw [Nat.min_eq_left h1, Nat.min_eq_left (Nat.mul_le_mul_right sz h1)]
    · rw [Nat.min_eq_right h1, Nat.min_eq_right (Nat.mul_le_mul_right sz h1)]
  one := fun v hv => h.one v (List.mem_of_mem_take hv)
  row := fun x hx => h.row x (List.mem_of_mem_take hx)
  get := fun i x j p h1 h2 => by
    rw [List.getElem?_take] at h1
    split at h1
    · rename_i hi
      obtain ⟨v, g1, g2⟩ := h.get i x j p h1 h2
      have hj : j < sz := by rw [← h.row x (List.mem_of_getElem? h1)]; exact len_of_get h2
      exact ⟨v, by rw [List.getElem?_take, if_pos (idx_lt hi hj)]; exact g1, g2⟩
    · simp at h1

/-- The room of a row that holds elements. -/
theorem own_room {aa k off len cap : Nat} {l : Loc} {c : Array Value} {e : Nat} (hc : w.heap[l.block]? = some (.cells c e (0, 0))) (hr : Room w l.block (l.off + (off + cap) * l.k)) (hcap : len ≤ cap) : l.off + off * l.k + len * l.k ≤ c.size := by
  obtain ⟨c2, e2, hc2, hsize⟩ := hr
  rw [hc] at hc2; simp at hc2; obtain ⟨rfl, rfl⟩ := hc2
  have := Nat.mul_le_mul_right l.k (show off + len ≤ off + cap by omega)
  rw [Nat.add_mul] at this
  omega

theorem copy_ok (hT : TabOK P tab) (hs : Sim w B β rd) {t t' : Nat} {d x : PV} {u v : Value} {e : Eff} (h : copyAt tab rd t d x = some e) (hu : V w B β d u) (hv : V w B β x v) (ty : TypeId) :
    ∃ q w' B', (Builtin.copy_ #[t, t'] ty #[u, v]).run P w = .ok q w' ∧ Step w B β rd w' B' β (rdU rd e.upd) ∧ V w' B' β e.val q := by
  unfold copyAt at h
  split at h
  · rename_i el _ _ _ _ ht
    have hk := (hT t _ ht).kind
    simp only at hk
    split at h
    · simp at h
    · rename_i ti hti
      have hi := hT el ti hti
      split at h
      · simp at h
      · rename_i new nf foot hsrc
        obtain ⟨xb, xc, cells, rfl, hnf, hflat, hplace, hother⟩ := src_ok hs hsrc hv
        split at h
        · simp [ok] at h; subst h
          cases hu
          refine ⟨.int .i64 0, w, B, ?_, .refl hs, .int ..⟩
          have hf := first_ok (P := P) (w := w) (sz := ti.size) (n := 0) (base := xb) (cap := xc) (cells := []) (by simp) (.inl rfl)
          have hm : new.length.min 0 = 0 := by simp
          cases xb with
          | none => simp [Builtin.copy_, underlying, hk, Builtin.lenOf, hi.size, Builtin.firstCells, goInt]
          | some a => simp [Builtin.copy_, underlying, hk, Builtin.lenOf, hi.size, Builtin.firstCells, loadCells, loadCellsFrom, goInt]
        · rename_i aa k off len
          split at h
          · rename_i k' xs flat hb
            split at h <;> simp at h
            subst h
            rename_i hc
            simp only [Bool.and_eq_true, beq_iff_eq, decide_eq_true_eq] at hc
            obtain ⟨⟨hk1, hk2⟩, hle⟩ := hc
            subst hk2
            have hmin : new.length.min len = (new.take len).length := by simp [Nat.min_comm]
            have hft := hflat.take len
            have hff : (Builtin.firstCells ti.size (new.take len).length (.slice xb new.length xc)).run P w = .ok (cells.take (len * ti.size)).toArray w := by
              have : (Builtin.firstCells ti.size (new.take len).length (.slice xb (new.take len).length xc)).run P w = .ok (cells.take (len * ti.size)).toArray w := by
                refine first_ok hft.len ?_
                rcases hplace with rfl | ⟨b, o, hb', hc'⟩
                · exact .inl (by simp)
                · refine .inr ⟨b, o, hb', fun j v hj => hc' j v ?_⟩
                  rw [List.getElem?_take] at hj
                  split at hj
                  · exact hj
                  · simp at hj
              cases xb <;> simpa [Builtin.firstCells] using this
            have hntl : (new.take len).length ≤ len := by simp; omega
            cases hu with
            | own0 _ _ _ b =>
              have hnew0 : new.take 0 = [] := by simp
              refine ⟨.int .i64 0, w, B, ?_, ?_, by simpa using V.int .i64 0⟩
              · have hf0 : (cells.take (0 * ti.size)).toArray = #[] := by simp
                rw [hf0] at hff
                simp only [hnew0, List.length_nil] at hff
                cases b <;> simp [Builtin.copy_, underlying, hk, Builtin.lenOf, hi.size, hff, goInt, storeCells]
              · have := Step.reflat hs hb (fl' := flat && nf) (by simp; intro h _; exact h)
                simpa [rdU] using this
            | own _ _ _ cap l hl hcap hroom =>
              obtain ⟨c, e', hc, hfl, hxk, hlk, harr⟩ := hs.obj hb hl
              have hrm := own_room (aa := aa) (k := l.k) (len := len) hc hroom hcap
              have hlen2 : (cells.take (len * ti.size)).length ≤ len * l.k := by rw [hk1]; simp; omega
              have hfit : l.off + off * l.k + (cells.take (len * ti.size)).length ≤ c.size := by omega
              have hrun := run_stores (P := P) hc hfit hft.one
              refine ⟨.int .i64 (new.take len).length, w.setRow l.block (splc c (l.off + off * l.k) (cells.take (len * ti.size))), B, ?_, ?_, by rw [List.length_take]; exact .int ..⟩
              · simp only [Builtin.copy_]
                simp [underlying, hk, Builtin.lenOf, hi.size]
                rw [hmin, hff]
                simp [hrun, goInt]
              · have := Step.over hs hb hl hc (by rw [hk1]; exact hft) (nf := nf) (fun h x hx => hnf h x (List.mem_of_mem_take hx)) (by omega) hfit
                simpa [rdU] using this
          · simp at h
        · simp at h
  · simp at h

theorem zeroRow_flat {z : Value} {zs : List PV} {sz : Nat} (h : ∀ w B β, Vs w B β zs z.cells.toList) (h1 : ∀ v ∈ z.cells.toList, v.oneCell' = true) (hz : z.cells.size = sz) (n : Nat) (f : Nat → Value) (hf : ∀ q, q < n * sz → f q = z.cells[q % z.cells.size]!) :
    Flat w B β sz (List.replicate n zs) ((List.range (n * sz)).map f) := by
  have hl : zs.length = sz := by rw [(h w B β).1]; simpa using hz
  have hget : ∀ q, q < n * sz → ∃ v, f q = v ∧ z.cells.toList[q % sz]? = some v := fun q hq => by
    have hpos : 0 < sz := by rcases Nat.eq_zero_or_pos sz with h0 | h0; rw [h0] at hq; simp at hq; exact h0
    have hlt : q % sz < z.cells.size := by rw [hz]; exact Nat.mod_lt _ hpos
    refine ⟨_, rfl, ?_⟩
    rw [hf q hq, hz]
    simp [hlt]
  refine ⟨by simp, fun v hv => ?_, fun x hx => by rw [List.eq_of_mem_replicate hx]; exact hl, fun i x j p h2 h3 => ?_⟩
  · simp only [List.mem_map, List.mem_range] at hv
    obtain ⟨q, hq, rfl⟩ := hv
    obtain ⟨v, rfl, hv⟩ := hget q hq
    exact h1 _ (List.mem_of_getElem? hv)
  · have hi := len_of_get h2
    simp at hi
    have hx := List.eq_of_mem_replicate (List.mem_of_getElem? h2)
    subst hx
    have hj : j < sz := by rw [← hl]; exact len_of_get h3
    have hq := idx_lt hi hj
    obtain ⟨v, q1, q2⟩ := hget _ hq
    have e : (i * sz + j) % sz = j := by rw [Nat.add_comm, Nat.add_mul_mod_self_right, Nat.mod_eq_of_lt hj]
    rw [e] at q2
    exact ⟨v, by simp [hq, q1], (h w B β).2 j p v h3 q2⟩

theorem zeroRow_plain {zs : List PV} {n : Nat} (h : allPlain zs = true) : AllPlain (List.replicate n zs) := fun x hx => by
  rw [List.eq_of_mem_replicate hx]
  exact allPlain_iff.1 h

theorem clear_ok (hT : TabOK P tab) (hs : Sim w B β rd) {t : Nat} {ts : List Nat} {d : PV} {u : Value} {e : Eff} (h : clearAt tab rd t d = some e) (hu : V w B β d u) (ty : TypeId) :
    ∃ q w' B', (Builtin.clear_ (t :: ts).toArray ty #[u]).run P w = .ok q w' ∧ Step w B β rd w' B' β (rdU rd e.upd) ∧ V w' B' β e.val q := by
  unfold clearAt at h
  split at h
  · rename_i el _ _ _ _ ht
    have hk := (hT t _ ht).kind
    simp only at hk
    split at h
    · rename_i ti hti
      have hi := hT el ti hti
      obtain ⟨z, hz, hzv, hzo, hzs⟩ := zero_ok hi
      split at h
      · simp [ok] at h; subst h
        cases hu
        exact ⟨Go.undef, w, B, by simp [Builtin.clear_, underlying, hk, Go.undef], .refl hs, .void⟩
      · rename_i aa k off len
        split at h
        · rename_i k' xs flat hb
          split at h <;> simp at h
          subst h
          rename_i hc
          simp only [Bool.and_eq_true, beq_iff_eq, decide_eq_true_eq] at hc
          obtain ⟨⟨hk1, hk2⟩, hle⟩ := hc
          subst hk2
          cases hu with
          | own0 _ _ _ b =>
            refine ⟨Go.undef, w, B, ?_, ?_, .void⟩
            · cases b <;> simp [Builtin.clear_, underlying, hk, Go.undef]
            · have := Step.reflat hs hb (fl' := flat && allPlain ti.zero) (by simp; intro h _; exact h)
              simpa [rdU] using this
          | own _ _ _ cap l hl hcap hroom =>
            obtain ⟨c, e', hc, hfl, hxk, hlk, harr⟩ := hs.obj hb hl
            have hrm := own_room (aa := aa) (k := l.k) (len := len) hc hroom hcap
            have hflat := zeroRow_flat (w := w) (B := B) (β := fun _ => none) hzv hzo hzs len (fun i => z.cells[i % z.cells.size]!) (fun q _ => rfl)
            have hcl : ((List.range (len * ti.size)).map fun i => z.cells[i % z.cells.size]!).length = len * l.k := by rw [hk1]; simp
            have hfit : l.off + off * l.k + ((List.range (len * ti.size)).map fun i => z.cells[i % z.cells.size]!).length ≤ c.size := by rw [hcl]; exact hrm
            have hrun := run_stores (P := P) hc hfit hflat.one
            rcases Nat.eq_zero_or_pos len with rfl | hpos
            · refine ⟨Go.undef, w, B, by simp [Builtin.clear_, underlying, hk, Go.undef], ?_, .void⟩
              have := Step.reflat hs hb (fl' := flat && allPlain ti.zero) (by simp; intro h _; exact h)
              simpa [rdU] using this
            · obtain ⟨m, rfl⟩ : ∃ m, len = m + 1 := ⟨len - 1, by omega⟩
              refine ⟨Go.undef, w.setRow l.block (splc c (l.off + off * l.k) ((List.range ((m + 1) * ti.size)).map fun i => z.cells[i % z.cells.size]!)), B, ?_, ?_, .void⟩
              · have hzc : (Builtin.zeroCells z.cells (m + 1)).toList = (List.range ((m + 1) * ti.size)).map fun i => z.cells[i % z.cells.size]! := by
                  simp [Builtin.zeroCells, hzs]
                simp only [Builtin.clear_]
                simp [underlying, hk, hz, hzc, hrun, Go.undef]
              · have := Step.over hs hb hl hc (by rw [hk1]; exact hflat) (nf := allPlain ti.zero) zeroRow_plain (by simpa using hle) hfit
                simpa [rdU] using this
        · simp at h
      · simp at h
    · simp at h
  · simp at h

theorem wrap_small {n : Int} (h : -9223372036854775808 ≤ n) (h' : n < 9223372036854775808) : IntKind.i64.wrap n = n :=
  Go.IntWalk.i64_in n ⟨h, by omega⟩

theorem makeSlice_ok (hT : TabOK P tab) (hs : Sim w B β rd) {nid t el : Nat} {ti ti' : TI} (ht : tab t = some ti') (hk' : ti'.kind = .slice el) (hti : tab el = some ti) {l c : Int} (hc : 0 ≤ l ∧ l ≤ c ∧ c ≤ bound ∧ ti.bytes ≤ 4096) (hβ : β nid = none) (hr : rd nid = none) :
    ∃ q w' β', (Instr.makeSlice t (.int .i64 l) (.int .i64 c)).run P w = .ok q w' ∧ Step w B β rd w' B β' (rdU rd [(nid, some (.arr ti.size (zeroRow ti l.toNat) false false))]) ∧ V w' B β' (.own nid ti.size 0 l.toNat) q ∧ (∀ b, b ≠ nid → β' b = β b) := by
  have hk := (hT t ti' ht).kind
  rw [hk'] at hk
  simp only at hk
  have hi := hT el ti hti
  obtain ⟨info, z0, i1, i2, i3, i4, i5, i6⟩ := hi.info
  obtain ⟨z, hz, hzv, hzo, hzs⟩ := zero_ok hi
  obtain ⟨h1, h2, h3, h4⟩ := hc
  unfold bound at h3
  have hwl : IntKind.i64.wrap l = l := wrap_small (by omega) (by omega)
  have hwc : IntKind.i64.wrap c = c := wrap_small (by omega) (by omega)
  have hb : (info.bytes : Int) * c ≤ 281474976710656 := by
    have h5 : info.bytes * c.toNat ≤ 4096 * 1073741824 := Nat.mul_le_mul (by rw [i3]; exact h4) (by omega)
    have h6 : (info.bytes : Int) * c = ((info.bytes * c.toNat : Nat) : Int) := by rw [Int.natCast_mul, Int.toNat_of_nonneg (by omega)]
    rw [h6]; omega
  have hlc : l.toNat ≤ c.toNat := by omega
  refine ⟨.slice (some ⟨w.heap.size, 0, none⟩) l.toNat c.toNat, w.alloc (.cells ((Array.range (c.toNat * ti.size)).map (z.cells[· % z.cells.size]!)) el), setM β nid ⟨w.heap.size, 0, ti.size⟩, ?_, ?_, ?_, fun b hb => by simp [setM, hb]⟩
  · unfold Instr.makeSlice
    have hti' : ∀ w, (typeInfo el).run P w = .ok info w := fun w => by simp [typeInfo, i1]
    simp only [Sem.run_bind, underlying, run_program, hk, Sem.run_pure, Result.andThen_ok, asInt, asIntOf, hti', hwl, hwc]
    have hcond : (decide (c < 0) || decide ((info.bytes : Int) * c > 2 ^ 48) || decide (l < 0) || decide (l > c)) = false := by
      simp; omega
    rw [hcond]
    simp only [Bool.false_eq_true, ↓reduceIte, Sem.run_bind, run_askRoom, Result.andThen_ok, hi.size w, Sem.run_pure]
    by_cases h0 : c.toNat * ti.size = 0
    · simp only [h0, ↓reduceIte, Sem.run_bind, Sem.run_pure, Result.andThen_ok]
      have e0 : ∀ f : Nat → Value, Array.map f (Array.range 0) = #[] := fun f => by simp
      simp [newRow, h0, e0]
    · simp only [h0, ↓reduceIte, Sem.run_bind, hz, Sem.run_pure, Result.andThen_ok]
      simp [newRow]
  · have hflat := zeroRow_flat (w := w) (B := B) (β := fun _ => none) hzv hzo hzs l.toNat (fun i => z.cells[i % z.cells.size]!) (fun q _ => rfl)
    have := Step.new hs hβ hr ((Array.range (c.toNat * ti.size)).map (z.cells[· % z.cells.size]!)) el ti.size (.arr ti.size (zeroRow ti l.toNat) false false)
      ⟨(fun h => by simp at h), hflat.row, rfl, fun i x j p q1 q2 => by
        obtain ⟨v, g1, g2⟩ := hflat.get i x j p q1 q2
        have hq := len_of_get g1
        simp at hq
        have hq2 : i * ti.size + j < c.toNat * ti.size := Nat.lt_of_lt_of_le hq (Nat.mul_le_mul_right _ hlc)
        simp [hq] at g1
        refine ⟨v, by simp [hq2, g1], hflat.one v (by subst g1; simp; exact ⟨_, hq, rfl⟩), g2⟩⟩ (by simp)
    simpa [rdU] using this
  · have := V.own (w := w.alloc (.cells ((Array.range (c.toNat * ti.size)).map (z.cells[· % z.cells.size]!)) el)) (B := B) (β := setM β nid ⟨w.heap.size, 0, ti.size⟩) nid 0 l.toNat c.toNat ⟨w.heap.size, 0, ti.size⟩ (by simp [setM]) hlc
      ⟨_, el, by unfold World.alloc; simp only [Array.getElem?_push, ↓reduceIte]; rfl, by simp⟩
    simpa using this
end
end Go.Pm
