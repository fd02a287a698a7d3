/-
  What a call looks at, and where it writes.
-/
import Derived.Test.YtjkkigeefoncmaaGreatPmFoot
set_option linter.unusedVariables false
set_option linter.unusedSimpArgs false
namespace Go.Pm
open Go

section
variable {w : World} {rd rd' : Rd} {tm tm' : List PV} {tab : Nat → Option TI}

theorem reach_same : ∀ (n : Nat) (q seen : List Nat), seen.Nodup → Same rd rd' (reach rd n q seen) → reach rd' n q seen = reach rd n q seen
  | 0, q, seen, _, h => by simp [reach]
  | n + 1, [], seen, _, h => by simp [reach]
  | n + 1, a :: r, seen, hn, h => by
    unfold reach at h ⊢
    by_cases hs : has seen a = true
    · simp only [hs, ↓reduceIte] at h ⊢
      exact reach_same n r seen hn h
    · simp only [hs, Bool.false_eq_true, ↓reduceIte] at h ⊢
      have hna : a ∉ seen := fun hm => hs (has_iff.2 hm)
      have hnd : (seen ++ [a]).Nodup := by
        rw [List.nodup_append]
        refine ⟨hn, by simp, fun x hx y hy => ?_⟩
        simp at hy; subst hy
        rintro rfl; exact hna hx
      have hmem : ∀ q, a ∈ reach rd n q (seen ++ [a]) := fun q => by
        obtain ⟨_, t, ht⟩ := reach_ok rd n q (seen ++ [a]) hnd
        rw [ht]; simp
      cases hra : rd a with
      | none =>
        rw [hra] at h; simp only at h
        rw [h a (hmem _), hra]
        exact reach_same n r _ hnd h
      | some o =>
        rw [hra] at h
        cases o with
        | box cs =>
          simp only at h
          rw [h a (hmem _), hra]
          exact reach_same n _ _ hnd h
        | arr k xs fl fz =>
          simp only at h
          rw [h a (hmem _), hra]
          exact reach_same n _ _ hnd h

theorem kids_same : ∀ {l : List Nat}, Same rd rd' l → kids rd' l = kids rd l
  | [], _ => rfl
  | a :: r, h => by simp only [kids]; rw [h.head, kids_same h.tail]
theorem boxes_same : ∀ {l : List Nat}, Same rd rd' l → boxes rd' l = boxes rd l
  | [], _ => rfl
  | a :: r, h => by simp only [boxes]; rw [h.head, boxes_same h.tail]
theorem picks_same (g : Nat → Option Nat) : ∀ {l : List Nat} {i : Nat}, Same rd rd' l → Pm.picks rd' g l i = Pm.picks rd g l i
  | [], i, _ => rfl
  | a :: r, i, h => by simp only [Pm.picks]; rw [h.head]; simp only [picks_same g h.tail]

theorem order_same {roots : List Nat} {vals : List PV} (hn : roots.Nodup) (h : Same rd rd' (order rd roots vals)) : order rd' roots vals = order rd roots vals := by
  have hk : kids rd' roots = kids rd roots := kids_same fun a ha => by
    obtain ⟨i, hi, hia⟩ := List.mem_iff_getElem.1 ha
    exact h a (List.mem_of_getElem? ((order_ok rd vals hn).2 i a (by rw [← hia]; exact List.getElem?_eq_getElem hi)))
  unfold order at h ⊢
  rw [hk]
  exact reach_same _ _ _ hn h

theorem snap_same (kn : Bool) : ∀ n : Nat,
    (∀ (p q : PV) (l : List Nat), snap rd kn n p = some (q, l) → Same rd rd' l → snap rd' kn n p = some (q, l)) ∧
    (∀ (ps qs : List PV) (l : List Nat), snaps rd kn n ps = some (qs, l) → Same rd rd' l → snaps rd' kn n ps = some (qs, l))
  | 0 => ⟨fun p q l h _ => by simp [snap] at h, fun ps qs l h _ => by simp [snaps] at h⟩
  | n + 1 => by
    obtain ⟨ih1, ih2⟩ := snap_same kn n
    refine ⟨fun p q l h hs => ?_, fun ps qs l h hs => ?_⟩
    · cases p with
      | own a k off len =>
        simp only [snap] at h ⊢
        split at h
        · rename_i k' xs fl fz ha
          split at h <;> simp at h
          rename_i hc
          obtain ⟨rfl, rfl⟩ := h
          rw [hs.head, ha]; simp [hc]
        · simp at h
      | ptr a o =>
        simp only [snap] at h ⊢
        split at h
        · rename_i cs ha
          split at h
          · rename_i cs' l' hcs
            simp at h; obtain ⟨rfl, rfl⟩ := h
            rw [hs.head, ha]; simp only [ih2 _ _ _ hcs hs.tail]
          · simp at h
        · simp at h
      | fn f caps =>
        simp only [snap] at h ⊢
        split at h
        · rename_i cs l' hcs
          simp at h; obtain ⟨rfl, rfl⟩ := h
          simp only [ih2 _ _ _ hcs hs]
        · simp at h
      | agg cs =>
        simp only [snap] at h ⊢
        split at h
        · rename_i cs l' hcs
          simp at h; obtain ⟨rfl, rfl⟩ := h
          simp only [ih2 _ _ _ hcs hs]
        · simp at h
      | _ => first | exact h | (simp only [snap] at h ⊢; exact h)
    · cases ps with
      | nil => simpa [snaps] using h
      | cons p r =>
        simp only [snaps] at h ⊢
        split at h
        · rename_i q l1 hq
          split at h
          · rename_i r' l2 hr
            simp at h; obtain ⟨rfl, rfl⟩ := h
            simp only [ih1 _ _ _ hq hs.left, ih2 _ _ _ hr hs.right]
          · simp at h
        · simp at h

theorem dedup_ok : ∀ {l acc : List Nat}, acc.Nodup → (dedup l acc).Nodup ∧ (∀ a, a ∈ dedup l acc ↔ a ∈ acc ∨ a ∈ l) ∧ ∃ t, dedup l acc = acc ++ t
  | [], acc, h => ⟨h, by simp [dedup], [], by simp [dedup]⟩
  | a :: r, acc, h => by
    unfold dedup
    split
    · rename_i hs
      obtain ⟨h1, h2, h3⟩ := dedup_ok (l := r) h
      refine ⟨h1, fun b => ?_, h3⟩
      rw [h2 b]
      have := has_iff.1 hs
      constructor
      · rintro (hb | hb) <;> simp_all
      · rintro (hb | hb)
        · exact .inl hb
        · rcases List.mem_cons.1 hb with rfl | hb
          · exact .inl this
          · exact .inr hb
    · rename_i hs
      have hna : a ∉ acc := fun hm => hs (has_iff.2 hm)
      have hnd : (acc ++ [a]).Nodup := by
        rw [List.nodup_append]
        refine ⟨h, by simp, fun x hx y hy => ?_⟩
        simp at hy; subst hy
        rintro rfl; exact hna hx
      obtain ⟨h1, h2, t, h3⟩ := dedup_ok (l := r) hnd
      refine ⟨h1, fun b => ?_, a :: t, by rw [h3]; simp⟩
      rw [h2 b]
      simp only [List.mem_append, List.mem_cons, List.not_mem_nil, or_false]
      constructor
      · rintro ((hb | hb) | hb)
        · exact .inl hb
        · exact .inr (.inl hb)
        · exact .inr (.inr hb)
      · rintro (hb | hb | hb)
        · exact .inl (.inl hb)
        · exact .inl (.inr hb)
        · exact .inr hb

theorem dedup_nodup (l : List Nat) : (dedup l []).Nodup := (dedup_ok (by simp)).1

/-! ### the numbers of what is laid in -/
theorem imports_rng {nid : Nat} : ∀ {cs ps : List PV} {ks : List (Option Nat)} {j j' : Nat} {u : Upd} {sh : Bool}, imports nid cs ks j = some (ps, u, sh, j') → j ≤ j' ∧ ∀ x ∈ u, nid + j ≤ x.1 ∧ x.1 < nid + j'
  | [], ps, ks, j, j', u, sh, h => by simp [imports] at h; obtain ⟨rfl, rfl, rfl, rfl⟩ := h; simp
  | p :: r, ps, ks, j, j', u, sh, h => by
    rcases imports_cons h with ⟨xs, flat, k, vs', u', sh', rfl, hk, hi, rfl, rfl, rfl⟩ | ⟨xs, fl, vs', sh', rfl, hu, hi, rfl, rfl⟩ | ⟨vs', hpl, hi, rfl⟩
    · obtain ⟨h1, h2⟩ := imports_rng hi
      refine ⟨by omega, fun x hx => ?_⟩
      rcases List.mem_cons.1 hx with rfl | hx
      · simp; omega
      · have := h2 x hx; omega
    · exact imports_rng hi
    · exact imports_rng hi

theorem importV_rng {nid : Nat} {p q : PV} {ks ks' : List (Option Nat)} {j j' : Nat} {u : Upd} {sh : Bool} (h : importV nid p ks j = some (q, u, sh, j', ks')) : j ≤ j' ∧ ∀ x ∈ u, nid + j ≤ x.1 ∧ x.1 < nid + j' := by
  unfold importV at h
  split at h
  · split at h
    · rename_i hi; simp at h; obtain ⟨rfl, rfl, rfl, rfl, rfl⟩ := h; exact imports_rng hi
    · simp at h
  · split at h
    · rename_i hi; simp at h; obtain ⟨rfl, rfl, rfl, rfl, rfl⟩ := h; exact imports_rng hi
    · simp at h

theorem importVs_rng {nid : Nat} : ∀ {cs ps : List PV} {ks : List (Option Nat)} {j j' : Nat} {u : Upd} {sh : Bool}, importVs nid cs ks j = some (ps, u, sh, j') → j ≤ j' ∧ ∀ x ∈ u, nid + j ≤ x.1 ∧ x.1 < nid + j'
  | [], ps, ks, j, j', u, sh, h => by simp [importVs] at h; obtain ⟨rfl, rfl, rfl, rfl⟩ := h; simp
  | p :: r, ps, ks, j, j', u, sh, h => by
    simp only [importVs] at h
    split at h
    · rename_i v' u1 sh1 j1 ks1 hi
      split at h
      · rename_i vs' u2 sh2 j2 hi2
        simp at h; obtain ⟨rfl, rfl, rfl, rfl⟩ := h
        obtain ⟨a1, a2⟩ := importV_rng hi
        obtain ⟨b1, b2⟩ := importVs_rng hi2
        refine ⟨by omega, fun x hx => ?_⟩
        rcases List.mem_append.1 hx with hx | hx
        · have := a2 x hx; omega
        · have := b2 x hx; omega
      · simp at h
    · simp at h

theorem importR_rng {nid : Nat} {p q : PV} {ks : List (Option Nat)} {j : Nat} {u : Upd} {sh : Bool} (h : importR nid p ks = some (q, u, sh, j)) : ∀ x ∈ u, nid ≤ x.1 ∧ x.1 < nid + j := by
  unfold importR at h
  split at h
  · split at h
    · rename_i hi; simp at h; obtain ⟨rfl, rfl, rfl, rfl⟩ := h; simpa using (importVs_rng hi).2
    · simp at h
  · split at h
    · rename_i hi; simp at h; obtain ⟨rfl, rfl, rfl, rfl⟩ := h; simpa using (importV_rng hi).2
    · simp at h

/-- Where a callee lays what it makes. -/
def IdsOK (C : Callee) : Prop := ∀ f r args h next v h' nx, C.refC f r args h next = some (v, h', nx) → (∀ x ∈ h', x.1 < nx) ∧ (h'.map (·.1)).Nodup

theorem backs_in {b : Nat → Option Nat} : ∀ {h : List (Nat × PObj)} {x : Nat × Option PObj}, x ∈ backs b h → ∃ y ∈ h, b y.1 = some x.1 ∧ x.2 = some (renObj b y.2)
  | [], x, hx => by simp [backs] at hx
  | (j, o) :: r, x, hx => by
    unfold backs at hx
    split at hx
    · rename_i a ha
      rcases List.mem_cons.1 hx with rfl | hx
      · exact ⟨(j, o), by simp, ha, rfl⟩
      · obtain ⟨y, hy, q⟩ := backs_in hx; exact ⟨y, by simp [hy], q⟩
    · obtain ⟨y, hy, q⟩ := backs_in hx; exact ⟨y, by simp [hy], q⟩

theorem dels_in : ∀ {l : List Nat} {x : Nat × Option PObj}, x ∈ dels l → x.1 ∈ l ∧ x.2 = none
  | [], x, h => by simp [dels] at h
  | a :: r, x, h => by
    rcases List.mem_cons.1 h with rfl | h
    · exact ⟨by simp, rfl⟩
    · have := dels_in h; exact ⟨by simp [this.1], this.2⟩

theorem call_foot {E : Env} {C : Callee} (hC : IdsOK C) {nid f : Nat} {args : List PV} {e : Eff} (h : evCall E C rd nid f args = some e) :
    UpdOK rd nid e ∧ (Same rd rd' e.foot → evCall E C rd' nid f args = some e) := by
  unfold evCall at h ⊢
  by_cases hf : E.isRef f = true
  · simp only [hf, ↓reduceIte] at h ⊢
    have hd := dedup_nodup (idss args)
    generalize hd0 : dedup (idss args) [] = d at *
    have hroots := dedup_ok (l := boxes rd (order rd d [])) hd
    generalize hr0 : dedup (boxes rd (order rd d [])) d = roots at *
    have hL := order_ok rd [] hroots.1
    split at h
    · rename_i v h' nx hc
      split at h
      · rename_i hcond
        simp at h; subst h
        simp only [Bool.and_eq_true, decide_eq_true_eq, List.all_eq_true] at hcond
        refine ⟨fun x hx => ?_, fun hs => ?_⟩
        · rcases List.mem_append.1 hx with hx | hx
          · obtain ⟨h1, h2⟩ := dels_in hx
            exact .inr ⟨List.mem_append_right _ h1, fun _ => h2⟩
          · obtain ⟨y, hy, hb, ho⟩ := backs_in hx
            have hlt := (hC _ _ _ _ _ _ _ _ hc).1 y hy
            unfold backId at hb
            split at hb
            · rename_i hj
              have hm := List.mem_of_getElem? hb
              have hob := hcond.2 _ hm
              refine .inr ⟨List.mem_append_right _ (List.mem_of_getElem? (hL.2 _ _ hb)), fun hn => ?_⟩
              simp [isObj, hn] at hob
            · simp at hb
              exact .inl (by omega)
        · have hs1 := hs.left
          have hs2 := hs.right
          have e1 : order rd' d [] = order rd d [] := order_same hd hs1
          have e2 : boxes rd' (order rd d []) = boxes rd (order rd d []) := boxes_same hs1
          rw [e1, e2, hr0]
          have e3 : order rd' roots [] = order rd roots [] := order_same hroots.1 hs2
          rw [e3, picks_same _ hs2]
          simp only [hc]
          have e4 : roots.all (isObj rd') = true := by
            rw [List.all_eq_true]
            intro a ha
            have hm : a ∈ order rd roots [] := by
              obtain ⟨i, hi, hia⟩ := List.mem_iff_getElem.1 ha
              exact List.mem_of_getElem? (hL.2 i a (by rw [← hia]; exact List.getElem?_eq_getElem hi))
            have := hcond.2 a ha
            unfold isObj at this ⊢
            rw [hs2 a hm]; exact this
          simp [e4, hcond.1]
      · simp at h
    · simp at h
  · simp only [hf, Bool.false_eq_true, ↓reduceIte] at h ⊢
    split at h
    · rename_i as foot hsn
      split at h
      · rename_i r hr
        split at h
        · rename_i v u sh j hi
          split at h
          · rename_i hcond
            simp at h; subst h
            simp only [Bool.and_eq_true, decide_eq_true_eq] at hcond
            refine ⟨fun x hx => ?_, fun hs => ?_⟩
            · rcases List.mem_append.1 hx with hx | hx
              · cases sh with
                | false => simp at hx
                | true =>
                  simp at hx
                  have := freezes_in hx
                  exact .inr ⟨by simpa using ((dedup_ok (l := foot) (acc := []) (by simp)).2.1 x.1).1 this.1, fun hn => by obtain ⟨⟨o, ho⟩, _⟩ := this.2; rw [hn] at ho; simp at ho⟩
              · have := importR_rng hi x hx
                exact .inl (by omega)
            · have hs' : Same rd rd' foot := hs
              rw [(snap_same (E.keepNil f) snapFuel).2 _ _ _ hsn hs']
              simp only [hr, hi]
              have e1 : foot.all (isArr rd') = foot.all (isArr rd) := by
                rw [Bool.eq_iff_iff, List.all_eq_true, List.all_eq_true]
                constructor <;> intro h a ha <;> have := h a ha <;> unfold isArr at this ⊢
                · rw [← hs' a ha]; exact this
                · rw [hs' a ha]; exact this
              have e2 : freezes rd' (dedup foot []) = freezes rd (dedup foot []) := freezes_same fun a ha => hs' a (by simpa using ((dedup_ok (l := foot) (acc := []) (by simp)).2.1 a).1 ha)
              rw [e1, e2]
              simp [hcond.1, hcond.2]
          · simp at h
        · simp at h
      · simp at h
    · simp at h

theorem op_foot {E : Env} {C : Callee} (hC : IdsOK C) {nid : Nat} {o : Oper} {e : Eff} (h : evOp E C rd nid tm o = some e) :
    UpdOK rd nid e ∧ (Same rd rd' e.foot → (∀ x ∈ o.op.operands, OpndSame tm tm' x) → evOp E C rd' nid tm' o = some e) := by
  unfold evOp at h ⊢
  split at h
  · rename_i f args ats ho
    split at h
    · rename_i g caps vs hf ha
      obtain ⟨h1, h2⟩ := call_foot (rd' := rd') hC h
      refine ⟨h1, fun hs ht => ?_⟩
      rw [ho] at ht
      have e1 : opnd tm' f = opnd tm f := opnd_same (ht f (by simp [Op.operands, Call.operands]))
      have e2 : opndl tm' args.toList = opndl tm args.toList := opndl_same fun y hy => ht y (by simp [Op.operands, Call.operands]; exact .inr (by simpa using hy))
      rw [e1, e2, hf, ha]
      exact h2 hs
    · simp at h
  · rename_i hne
    obtain ⟨h1, h2⟩ := basic_foot (rd' := rd') h
    refine ⟨h1, fun hs ht => ?_⟩
    have h3 := h2 hs
    rw [← basic_tm (tm' := tm') ht] at h3
    exact h3
end
end Go.Pm
