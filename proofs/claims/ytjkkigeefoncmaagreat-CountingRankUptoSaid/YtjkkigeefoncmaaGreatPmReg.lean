/-
  A region does what the evaluator says.
-/
import Derived.Test.YtjkkigeefoncmaaGreatPmDraw
set_option linter.unusedVariables false
set_option linter.unusedSimpArgs false
namespace Go.Pm
open Go

theorem nthL_eq : ∀ (l : List (List Nat)) (k : Nat), nthL l k = (l[k]?).getD []
  | [], k => by simp [nthL]
  | x :: r, 0 => by simp [nthL]
  | x :: r, k + 1 => by simp [nthL, nthL_eq r k]

theorem befOf_spec {acc : List (List Nat)} : ∀ {es : List Edge} {i : Nat}, i ∈ befOf acc es → ∃ e ∈ es, Region.binds .any e = true ∧ (i = e.on ∨ i ∈ nthL acc e.on)
  | [], i, h => by simp [befOf] at h
  | e :: r, i, h => by
    unfold befOf at h
    split at h
    · rename_i hb
      rcases List.mem_cons.1 h with rfl | h
      · exact ⟨e, by simp, hb, .inl rfl⟩
      · rcases List.mem_append.1 h with h | h
        · exact ⟨e, by simp, hb, .inr h⟩
        · obtain ⟨e', h1, h2⟩ := befOf_spec h; exact ⟨e', by simp [h1], h2⟩
    · obtain ⟨e', h1, h2⟩ := befOf_spec h; exact ⟨e', by simp [h1], h2⟩

theorem befs_prefix : ∀ (os : List Oper) (acc : List (List Nat)), ∃ t, befs os acc = acc ++ t ∧ t.length = os.length
  | [], acc => ⟨[], by simp [befs], rfl⟩
  | o :: r, acc => by
    obtain ⟨t, h1, h2⟩ := befs_prefix r (acc ++ [befOf acc o.after.toList])
    exact ⟨befOf acc o.after.toList :: t, by simp [befs, h1], by simp [h2]⟩

theorem befs_spec : ∀ (os : List Oper) (acc : List (List Nat)) (m : Nat) (o : Oper) (i : Nat), os[m]? = some o → i ∈ nthL (befs os acc) (acc.length + m) → ∃ e ∈ o.after.toList, Region.binds .any e = true ∧ (i = e.on ∨ i ∈ nthL (befs os acc) e.on)
  | [], acc, m, o, i, ho, _ => by simp at ho
  | x :: r, acc, 0, o, i, ho, hi => by
    simp at ho; subst ho
    obtain ⟨t, h1, h2⟩ := befs_prefix r (acc ++ [befOf acc x.after.toList])
    simp only [befs] at hi ⊢
    rw [h1] at hi ⊢
    have e1 : nthL (acc ++ [befOf acc x.after.toList] ++ t) (acc.length + 0) = befOf acc x.after.toList := by
      rw [nthL_eq]; simp
    rw [e1] at hi
    obtain ⟨e, g1, g2, g3⟩ := befOf_spec hi
    refine ⟨e, g1, g2, g3.imp id fun h => ?_⟩
    rw [nthL_eq] at h ⊢
    rcases Nat.lt_or_ge e.on acc.length with h' | h'
    · rw [List.append_assoc, List.getElem?_append_left h']; exact h
    · rw [List.getElem?_eq_none h'] at h; simp at h
  | x :: r, acc, m + 1, o, i, ho, hi => by
    simp only [befs] at hi ⊢
    have := befs_spec r (acc ++ [befOf acc x.after.toList]) m o i (by simpa using ho) (by
      have : (acc ++ [befOf acc x.after.toList]).length + m = acc.length + (m + 1) := by simp; omega
      rw [this]; exact hi)
    exact this

theorem indepRow_spec {ops : Array Oper} {ps : List (Nat × Nat)} {y : Oper} {bj : List Nat} : ∀ {xs : List Oper} {i j : Nat}, indepRow ops ps y bj i xs j = true → ∀ (m : Nat) (x : Oper), xs[m]? = some x → i + m < j →
    i + m ∈ bj ∨ pairOK ops ps (i + m) j x y = true
  | [], i, j, _, m, x, hx, _ => by simp at hx
  | x0 :: xs, i, j, h, m, x, hx, hm => by
    have hji : ¬ j ≤ i := by omega
    simp only [indepRow, hji, decide_false, Bool.false_or, Bool.and_eq_true, Bool.or_eq_true] at h
    cases m with
    | zero =>
      simp at hx; subst hx
      exact h.1.imp (fun q => has_iff.1 q) id
    | succ m =>
      have := indepRow_spec h.2 m x (by simpa using hx) (by omega)
      have e : i + 1 + m = i + (m + 1) := by omega
      rw [e] at this; exact this

theorem indepAll_spec {ops : Array Oper} {ps : List (Nat × Nat)} {xs : List Oper} : ∀ {ys : List Oper} {rs : List (List Nat)} {j : Nat}, indepAll ops ps xs j ys rs = true → ∀ (m : Nat) (y : Oper) (bj : List Nat), ys[m]? = some y → rs[m]? = some bj →
    indepRow ops ps y bj 0 xs (j + m) = true
  | [], rs, j, _, m, y, bj, hy, _ => by simp at hy
  | y0 :: ys, [], j, _, m, y, bj, _, hr => by simp at hr
  | y0 :: ys, r0 :: rs, j, h, m, y, bj, hy, hr => by
    simp only [indepAll, Bool.and_eq_true] at h
    cases m with
    | zero => simp at hy hr; subst hy; subst hr; exact h.1
    | succ m =>
      have := indepAll_spec h.2 m y bj (by simpa using hy) (by simpa using hr)
      have e : j + 1 + m = j + (m + 1) := by omega
      rw [e] at this; exact this

theorem nthE_eq : ∀ (es : List Eff) (i : Nat), nthE es i = effAt es i
  | [], i => by simp [nthE, effAt]
  | e :: r, 0 => by simp [nthE, effAt]
  | e :: r, i + 1 => by have := nthE_eq r i; simp [nthE, effAt] at this ⊢; exact this

theorem pairs_spec {es : List Eff} : ∀ {ps : List (Nat × Nat)} {i j : Nat}, pairsApart es ps = true → hasP ps i j = true → apartE (effAt es i) (effAt es j) = true
  | [], i, j, _, h => by simp [hasP] at h
  | (a, b) :: r, i, j, h, hp => by
    simp only [pairsApart, Bool.and_eq_true] at h
    simp only [hasP, Bool.or_eq_true, Bool.and_eq_true, beq_iff_eq] at hp
    rcases hp with ⟨rfl, rfl⟩ | hp
    · rw [nthE_eq, nthE_eq] at h; exact h.1
    · exact pairs_spec h.2 hp

theorem step_noMem {E : Env} {C : Callee} {os : List Oper} {rd : Rd} {tm : List PV} {nid : Nat} {o : Oper} {e : Eff} (h : stepOp E C os rd nid tm o = some e) (hq : noMem o.op = true) : e.upd = [] ∧ e.foot = [] := by
  unfold stepOp at h
  split at h
  · unfold evOp at h
    split at h
    · rename_i f args ats ho; rw [ho] at hq; simp [noMem] at hq
    · exact noMem_ok h hq
  · simp at h; subst h; exact ⟨rfl, rfl⟩
  · simp at h
theorem step_isLoad {E : Env} {C : Callee} {os : List Oper} {rd : Rd} {tm : List PV} {nid : Nat} {o : Oper} {e : Eff} (h : stepOp E C os rd nid tm o = some e) (hq : isLoad o.op = true) : e.upd = [] := by
  unfold stepOp at h
  split at h
  · unfold evOp at h
    split at h
    · rename_i f args ats ho; rw [ho] at hq; simp [isLoad] at hq
    · exact isLoad_ok h hq
  · simp at h; subst h; rfl
  · simp at h

theorem disj_spec {xs ys : List Nat} (h : disj xs ys = true) {a : Nat} (ha : a ∈ xs) : a ∉ ys := fun hm => by
  simp only [disj, List.all_eq_true, Bool.not_eq_true'] at h
  have := h a ha
  rw [has_iff.2 hm] at this; simp at this

theorem apart_nil {a b : Eff} (h : (a.upd = [] ∧ a.foot = []) ∨ (b.upd = [] ∧ b.foot = []) ∨ (a.upd = [] ∧ b.upd = [])) : apartE a b = true := by
  obtain ⟨av, au, af⟩ := a
  obtain ⟨bv, bu, bf⟩ := b
  have d : ∀ l : List Nat, disj l [] = true := fun l => by simp [disj, has]
  rcases h with ⟨h1, h2⟩ | ⟨h1, h2⟩ | ⟨h1, h2⟩
  · simp only at h1 h2; subst h1; subst h2; simp only [apartE, updIds, List.append_nil, d, Bool.and_true]; rfl
  · simp only at h1 h2; subst h1; subst h2; simp only [apartE, updIds, List.append_nil, d, Bool.true_and]; rfl
  · simp only at h1 h2; subst h1; subst h2; rfl

theorem indep_ind {ops : Array Oper} {os : List Oper} {es : List Eff} {i j : Nat} {x y : Oper} (hx : os[i]? = some x) (hy : os[j]? = some y) (h1 : x.apart ops y = true) (h : apartE (effAt es i) (effAt es j) = true) :
    Ind os es ops i j ∧ Ind os es ops j i := by
  simp only [apartE, Bool.and_eq_true] at h
  obtain ⟨h2, h3⟩ := h
  obtain ⟨a1, a2, a3⟩ := Oper.apart_spec h1
  have nw : ∀ {u : Upd} {c : Nat}, c ∉ updIds u → wrote u c = none := fun {u c} hc => by
    cases hw : wrote u c with
    | none => rfl
    | some q => exact absurd (wrote_ids (by rw [hw]; rfl)) hc
  refine ⟨⟨fun d z hd hz => ?_, fun c hc => ?_⟩, ⟨fun d z hd hz => ?_, fun c hc => ?_⟩⟩
  · rw [hy] at hz; simp at hz; subst hz
    simp [dstAt, hx] at hd
    exact ⟨a1 d hd, a2 d hd⟩
  · have := disj_spec h2 (wrote_ids hc)
    simp only [List.mem_append, not_or] at this
    exact ⟨this.1, nw this.2⟩
  · rw [hx] at hz; simp at hz; subst hz
    simp [dstAt, hy] at hd
    exact ⟨a3 d hd, fun hxd => a2 d hxd hd⟩
  · have := disj_spec h3 (wrote_ids hc)
    simp only [List.mem_append, not_or] at this
    exact ⟨this.1, nw this.2⟩

section
variable {P : Program} {w w' : World} {B B' : Nat → Prop} {β β' : Map} {rd rd' : Rd} {tm tm' : List PV} {a : Act}

theorem firstN_none (os : List Oper) (es : List Eff) (tm0 : List PV) (rd0 : Rd) : tmL os es tm0 (firstN 0) = tm0 ∧ rdV os es rd0 (firstN 0) = rd0 := by
  have hl : ∀ (p : Nat → Bool) n, (∀ i, p i = false) → lastW p n = none := fun p n h => by
    induction n with
    | zero => rfl
    | succ n ih => simp [lastW, h n, ih]
  refine ⟨nth_ext (by simp [tmL_length]) fun t => ?_, ?_⟩
  · rw [nth_tmL]
    unfold tmV
    rw [hl _ _ fun i => by simp [firstN]]
    split
    · rfl
    · rename_i h; rw [nth_none (by omega)]
  · funext b
    unfold rdV
    rw [hl _ _ fun i => by simp [firstN]]

theorem region_ok {E : Env} {C : Callee} (hT : TabOK P E.tab) (hC : CalleeOK P E.resK C) {pairs : Nat → List (Nat × Nat)} {id : Nat} {ops : Array Oper} {draw : Bool} (hok : codeOK pairs (.region id ops draw) = true) {st st' : St} (h : evRegion E C ops draw (pairs id) st = some st')
    (hs : Sim w B β (look st.heap)) (ha : TmRel w B β st.tmps a) (hf : ∀ b, st.next ≤ b → β b = none ∧ look st.heap b = none) {Q : Exit → Act → World → Prop}
    (hQ : ∀ w' B' β' a', Stand w B β (look st.heap) w' B' β' (look st'.heap) st'.tmps a' st'.next → Q .normal a' w') : (Code.region id ops draw).wp P Q a w := by
  unfold evRegion at h
  split at h
  · rename_i tm1 h1 es hev
    cases draw with
    | false =>
      simp at h; subst h
      refine wp_region ?_
      rw [List.range_eq_range']
      have := seq_ok hT hC (P := P) (Q := Q) (w0 := w) (B0 := B) (β0 := β) (rd0 := look st.heap) ops.toList 0 st.next st.tmps st.heap es w B β a (fun i o hi => by simpa using hi) hev ⟨.refl hs, ha, hf⟩ (fun w' B' β' a' hst => hQ w' B' β' a' (by simpa using hst))
      simpa using this
    | true =>
      simp only [Bool.not_true, Bool.false_or] at h
      split at h
      · rename_i hind
        simp at h; subst h
        simp only [codeOK, regionOK, Bool.and_eq_true] at hok
        obtain ⟨⟨⟨⟨hdown, hany⟩, htext⟩, hgc⟩, hall⟩ := hok
        have hz := firstN_none ops.toList es st.tmps (look st.heap)
        obtain ⟨r1, r2, r3, r4⟩ := evOps_rec ops.toList es st.tmps (look st.heap) (nid0 := st.next) ops.toList [] es 0 st.tmps st.heap rfl rfl rfl hz.1.symm hz.2.symm hev
        have hrec : Rec ops.toList es st.tmps (look st.heap) E C st.next := ⟨r1, fun j o ho => r2 j o (Nat.zero_le _) ho⟩
        obtain ⟨t, hbt, hbl⟩ := befs_prefix ops.toList []
        simp only [List.nil_append] at hbt
        have hord : ∀ i j, i < j → j < ops.toList.length → i ∈ nthL (befs ops.toList []) j ∨ (Ind ops.toList es ops i j ∧ Ind ops.toList es ops j i) := fun i j hij hj => by
          have hjb : j < (befs ops.toList []).length := by rw [hbt, hbl]; exact hj
          have hi : i < ops.toList.length := by omega
          have hrow := indepAll_spec hall j _ _ (List.getElem?_eq_getElem hj) (List.getElem?_eq_getElem hjb)
          rw [Nat.zero_add] at hrow
          rcases indepRow_spec hrow i _ (List.getElem?_eq_getElem hi) (by omega) with h2 | h2
          · rw [Nat.zero_add] at h2
            refine .inl ?_
            rw [nthL_eq, List.getElem?_eq_getElem hjb]; exact h2
          · rw [Nat.zero_add] at h2
            simp only [pairOK, Bool.and_eq_true, Bool.or_eq_true] at h2
            have hsi := hrec.step i _ (List.getElem?_eq_getElem hi)
            have hsj := hrec.step j _ (List.getElem?_eq_getElem hj)
            refine .inr (indep_ind (List.getElem?_eq_getElem hi) (List.getElem?_eq_getElem hj) h2.1 ?_)
            rcases h2.2 with ((h3 | h3) | h3) | h3
            · exact apart_nil (.inl (step_noMem hsi h3))
            · exact apart_nil (.inr (.inl (step_noMem hsj h3)))
            · exact apart_nil (.inr (.inr ⟨step_isLoad hsi h3.1, step_isLoad hsj h3.2⟩))
            · exact pairs_spec hind h3
        have hbef : ∀ j o i, ops.toList[j]? = some o → i ∈ nthL (befs ops.toList []) j → ∃ e ∈ o.after.toList, Region.binds .any e = true ∧ (i = e.on ∨ i ∈ nthL (befs ops.toList []) e.on) := fun j o i ho hi => befs_spec ops.toList [] j o i ho (by simpa using hi)
        have any : ∀ (md : Region.Mode) (order : List Nat) (t : Nat), orderOK md ops.toList [] order = true → wpOps P ops Q (Region.linearise md ops t) a { w with drawn := w.drawn + 1 } := fun md order t hmd => by
          have hS : (fun i => (Array.replicate ops.size false).getD i false) = firstN 0 := by
            funext i
            simp [firstN, Array.getElem?_replicate]
            split <;> rfl
          have hsd := Step.draw hs (w.drawn + 1)
          refine wpAny_sound ops.size t _ a _ (draw_ok ops.toList es st.tmps (look st.heap) hT hC rfl hrec (nthL (befs ops.toList [])) hord hbef hmd (fun w' B' β' a' hst => hQ w' B' β' a' ?_) ops.size (Array.replicate ops.size false) { w with drawn := w.drawn + 1 } B β a (by simp) ?_ (fun j hj => ?_) (by rw [hS, hz.2]; exact hsd) (by rw [hS, hz.1]; exact ha.step hs hsd) (fun i hi _ b hb1 hb2 => by rw [hS, hz.2]; exact hf b (by omega)) (fun b hb => by rw [hS, hz.2]; exact hf b (by omega)))
          · rw [← r3, ← r4] at hst; simpa using hst
          · have := cnt_le (fun i => !(Array.replicate ops.size false).getD i false) ops.toList.length
            simpa using this
          · have := congrFun hS j
            simp only [firstN] at this
            rw [this] at hj; simp at hj
        refine wp_region_draw fun t => ?_
        unfold Region.schedule
        split
        · exact any .any _ t hany
        · split
          · exact any .text _ _ htext
          · exact any .gc _ _ hgc
      · simp at h
  · simp at h
end
end Go.Pm
