/-
  Results: from the callee's heap to data.
-/
import Derived.Test.YtjkkigeefoncmaaGreatPmRes
set_option linter.unusedVariables false
set_option linter.unusedSimpArgs false
namespace Go.Pm
open Go

section
variable {w w' w'' : World} {B B' B'' Bc : Nat → Prop} {β β' β'' : Map} {rd rd' rd'' rd1 rd2 : Rd}

/-- What is data once some values are handed out. -/
def Given (B : Nat → Prop) (β : Map) (rd : Rd) (all : List Nat) (b : Nat) : Prop :=
  B b ∨ ∃ a k xs fl fz l, rd a = some (.arr k xs fl fz) ∧ (fz = true ∨ times a all ≠ 1) ∧ β a = some l ∧ l.block = b

theorem times_append (a : Nat) : ∀ xs ys : List Nat, times a (xs ++ ys) = times a xs + times a ys
  | [], ys => by simp [times]
  | x :: xs, ys => by simp [times, times_append a xs ys]; omega
theorem times_mem {a : Nat} : ∀ {xs : List Nat}, a ∈ xs → 1 ≤ times a xs
  | [], h => by simp at h
  | x :: xs, h => by
    rcases List.mem_cons.1 h with rfl | h
    · simp [times]
    · have := times_mem h; simp [times]; omega

/-- Blocks that one slot alone holds. -/
def Sole (β : Map) (rd : Rd) (all : List Nat) (here : List Nat) (b : Nat) : Prop :=
  ∃ a k xs fl l, rd a = some (.arr k xs fl false) ∧ times a all = 1 ∧ a ∈ here ∧ β a = some l ∧ l.block = b

theorem Sole.not_given (hs : Sim w B β rd) {all here : List Nat} {b : Nat} (h : Sole β rd all here b) : ¬ Given B β rd all b := by
  obtain ⟨a, k, xs, fl, l, h1, h2, h3, h4, h5⟩ := h
  rintro (h6 | ⟨a', k', xs', fl', fz', l', g1, g2, g3, g4⟩)
  · exact hs.excl a _ l h1 (by simp) h4 (h5 ▸ h6)
  · by_cases he : a = a'
    · subst he
      rw [h1] at g1; simp at g1
      rcases g2 with g2 | g2
      · simp_all
      · exact g2 h2
    · exact hs.inj a a' _ _ l l' h1 g1 he h4 g3 (h5.trans g4.symm)

theorem Sole.apart (hs : Sim w B β rd) {all here there : List Nat} {b : Nat} (h : Sole β rd all here b) (k : Sole β rd all there b) (hle : ∀ a, times a (here ++ there) ≤ times a all) : False := by
  obtain ⟨a, k1, xs, fl, l, h1, h2, h3, h4, h5⟩ := h
  obtain ⟨a', k2, xs', fl', l', g1, g2, g3, g4, g5⟩ := k
  have he : a = a' := by
    rcases Nat.decEq a a' with he | he
    · exact absurd (h5.trans g5.symm) (hs.inj a a' _ _ l l' h1 g1 he h4 g4)
    · exact he
  subst he
  have := hle a
  rw [times_append] at this
  have := times_mem h3; have := times_mem g3
  omega

theorem Sole.mono {all here there : List Nat} {b : Nat} (h : Sole β rd all here b) (hm : ∀ a ∈ here, a ∈ there) : Sole β rd all there b := by
  obtain ⟨a, k1, xs, fl, l, h1, h2, h3, h4, h5⟩ := h
  exact ⟨a, k1, xs, fl, l, h1, h2, hm a h3, h4, h5⟩

theorem exports_ok (hs : Sim w B β rd) {n0 : Nat} (hm : ∀ b, Mut β rd b → n0 ≤ b) {all : List Nat} : ∀ {ps qs : List PV} {ks : List (Option Nat)} {vs : List Value}, exports rd all ps ks = some qs → Vs w B β ps vs →
    (∀ a, times a (idss ps) ≤ times a all) → ∃ bs, RCs w (Given B β rd all) n0 qs ks vs bs ∧ ∀ b ∈ bs, Sole β rd all (idss ps) b
  | [], qs, ks, vs, h, hv, hle => by
    simp [exports] at h; subst h
    rw [hv.of_nil]
    exact ⟨[], .nil _, by simp⟩
  | p :: r, qs, ks, vs, h, hv, hle => by
    obtain ⟨v, vs', rfl, h1, h2⟩ := hv.uncons
    have hB : ∀ b, B b → Given B β rd all b := fun b hb => .inl hb
    have hle2 : ∀ a, times a (idss r) ≤ times a all := fun a => by have := hle a; simp only [idss] at this; rw [times_append] at this; omega
    cases hr : exports rd all r ks.tail with
    | none => simp only [exports] at h; rw [hr] at h; simp at h
    | some r' =>
      obtain ⟨bs, g1, g2⟩ := exports_ok hs hm hr h2 hle2
      have data : ∀ q, qs = q :: r' → V w (Given B β rd all) (fun _ => none) q v → (∀ xs fl, q = .lit xs fl → fl.u = false) → ∃ bs, RCs w (Given B β rd all) n0 qs ks (v :: vs') bs ∧ ∀ b ∈ bs, Sole β rd all (idss (p :: r)) b := by
        rintro q rfl hq hu
        exact ⟨[] ++ bs, .cons _ _ _ _ _ _ _ (.data _ _ _ hq hu) g1 (by simp), fun b hb => (g2 b (by simpa using hb)).mono fun a ha => by simp only [idss]; exact List.mem_append_right _ ha⟩
      cases p with
      | own a k off len =>
        simp only [exports, hr] at h
        split at h
        · rename_i k' xs flat fz ha
          split at h
          case isFalse => simp at h
          rename_i hc
          simp only [Bool.and_eq_true, beq_iff_eq, decide_eq_true_eq] at hc
          obtain ⟨rfl, hle1⟩ := hc
          split at h
          · rename_i k2 hkey
            split at h
            case isFalse => simp at h
            rename_i huq
            simp at h; subst h
            simp only [Bool.and_eq_true, Bool.not_eq_true', beq_iff_eq] at huq
            obtain ⟨rfl, rfl, ht⟩ := huq
            obtain ⟨q1, q2, q3⟩ := hs.arr a _ xs flat _ ha
            have hmem : ∀ x ∈ (xs.drop off).take len, x ∈ xs := fun x hx => List.mem_of_mem_drop (List.mem_of_mem_take hx)
            have hlen : ((xs.drop off).take len).length = len := by simp; omega
            cases h1 with
            | own0 a k off b =>
              have he : (xs.drop off).take 0 = [] := by simp
              rw [he]
              have hc : RC w (Given B β rd all) n0 (.lit [] ⟨true, flat⟩) ks.head? (.slice b 0 0) [] := by rw [hkey]; exact .uniq0 _ flat b
              exact ⟨[] ++ bs, .cons _ _ _ _ _ _ _ hc g1 (by simp), fun b hb => (g2 b (by simpa using hb)).mono fun a ha => by simp only [idss]; exact List.mem_append_right _ ha⟩
            | own a off len cap l hl hcap hroom =>
              rcases q3 with ⟨rfl, hn⟩ | ⟨m, c, e, e1, e2, e3, e4⟩
              · rw [hl] at hn; simp at hn
              · rw [hl] at e1; obtain rfl := Option.some.inj e1
                have hsole : Sole β rd all [a] l.block := ⟨a, l.k, xs, flat, l, ha, ht, by simp, hl, rfl⟩
                have hc := RC.uniq (w := w) (B := Given B β rd all) (n0 := n0) l.k ((xs.drop off).take len) flat l.block (l.off + off * l.k) cap c e e3
                  (fun i x j p w1 w2 => by
                    have w1' : xs[off + i]? = some x := by
                      rw [List.getElem?_take] at w1
                      split at w1
                      · simpa using w1
                      · simp at w1
                    obtain ⟨v, r1, r2, r3⟩ := e4 (off + i) x j p w1' w2
                    rw [Nat.add_mul, ← Nat.add_assoc] at r1
                    exact ⟨v, r1, r2, r3.more hB⟩)
                  (fun hf x hx => q1 hf x (hmem x hx)) (fun x hx => q2 x (hmem x hx)) (by rw [hlen]; exact hcap)
                  (by rw [Nat.add_mul, ← Nat.add_assoc] at hroom; exact hroom) (hm _ ⟨a, _, l, ha, by simp, hl, rfl⟩)
                rw [← hkey, hlen] at hc
                refine ⟨[l.block] ++ bs, .cons _ _ _ _ _ _ _ hc g1 (fun b hb hb' => ?_), fun b hb => ?_⟩
                · simp at hb; subst hb
                  exact hsole.apart hs (g2 _ hb') (by simpa [idss, ids] using hle)
                · rcases List.mem_append.1 hb with hb | hb
                  · simp at hb; subst hb; exact hsole.mono fun a ha => by simp only [idss, ids]; exact List.mem_append_left _ ha
                  · exact (g2 b hb).mono fun a ha => by simp only [idss]; exact List.mem_append_right _ ha
          · split at h
            case isTrue => simp at h
            rename_i huq
            simp at h; subst h
            have huq' : (!fz && times a all == 1) = false := by simpa using huq
            refine data _ rfl ?_ (by rintro xs fl ⟨⟩; rfl)
            refine own_lit hs ha hle1 h1 hB (fun l hl => .inr ⟨a, _, _, _, _, l, ha, ?_, hl, rfl⟩) false
            cases fz with
            | true => exact .inl rfl
            | false => exact .inr (by simpa using huq')
        · simp at h
      | nils =>
        simp only [exports, hr] at h
        split at h
        · rename_i k hkey
          simp at h; subst h
          cases h1
          have hc := RC.uniq0 (w := w) (B := Given B β rd all) (n0 := n0) k false none
          rw [← hkey] at hc
          exact ⟨[] ++ bs, .cons _ _ _ _ _ _ _ hc g1 (by simp), fun b hb => (g2 b (by simpa using hb)).mono fun a ha => by simp only [idss]; exact List.mem_append_right _ ha⟩
        · simp at h; subst h
          cases h1
          exact data _ rfl (.lit0 _ _ _) (by rintro xs fl ⟨⟩; rfl)
      | lit xs fl =>
        simp only [exports, hr] at h
        split at h
        · simp at h
        · simp at h; subst h
          exact data _ rfl ((h1.lit_fl false).more hB) (by rintro xs fl ⟨⟩; rfl)
      | bool b => simp [exports, hr, plainCell] at h; subst h; exact data _ rfl (h1.plain rfl) (by simp)
      | int k n => simp [exports, hr, plainCell] at h; subst h; exact data _ rfl (h1.plain rfl) (by simp)
      | str s => simp [exports, hr, plainCell] at h; subst h; exact data _ rfl (h1.plain rfl) (by simp)
      | _ => simp [exports, hr, plainCell] at h

theorem exportV_ok (hs : Sim w B β rd) {n0 : Nat} (hm : ∀ b, Mut β rd b → n0 ≤ b) {all : List Nat} {p q : PV} {ks ks' : List (Option Nat)} {v : Value} (h : exportV rd all p ks = some (q, ks')) (hv : V w B β p v)
    (hle : ∀ a, times a (ids p) ≤ times a all) : ∃ bs, RV w (Given B β rd all) n0 q ks v ks' bs ∧ ∀ b ∈ bs, Sole β rd all (ids p) b := by
  have single : (∀ cs, p ≠ .agg cs) → exportV rd all p ks = (match exports rd all [p] (ks.take 1) with | some [v'] => some (v', ks.drop 1) | _ => none) := by
    intro hp
    cases p <;> first | rfl | exact absurd rfl (hp _)
  by_cases hp : ∃ cs, p = .agg cs
  · obtain ⟨cs, rfl⟩ := hp
    simp only [exportV] at h
    split at h
    · rename_i cs' hcs
      simp at h; obtain ⟨rfl, rfl⟩ := h
      obtain ⟨vs, rfl, h1, ho⟩ := Vs.of_agg hv
      obtain ⟨bs, g1, g2⟩ := exports_ok hs hm hcs h1 (by simpa [ids] using hle)
      have hl : cs'.length = cs.length := by
        have : ∀ {ps qs : List PV} {ks : List (Option Nat)}, exports rd all ps ks = some qs → qs.length = ps.length := by
          intro ps
          induction ps with
          | nil => intro qs ks h; simp [exports] at h; subst h; rfl
          | cons p r ih =>
            intro qs ks h
            simp only [exports] at h
            split at h
            · simp at h
            · rename_i r' hr
              have := ih hr
              repeat' split at h
              all_goals (try (simp at h; done))
              all_goals (simp at h; subst h; simp [this])
        exact this hcs
      rw [← hl] at g1 ⊢
      exact ⟨bs, .agg cs' ks vs bs g1 ho, by simpa [ids] using g2⟩
    · simp at h
  · have hp' : ∀ cs, p ≠ .agg cs := fun cs he => hp ⟨cs, he⟩
    rw [single hp'] at h
    split at h
    · rename_i q' hq
      simp at h; obtain ⟨rfl, rfl⟩ := h
      obtain ⟨bs, g1, g2⟩ := exports_ok hs hm hq (.cons hv .nil) (by simpa [idss] using hle)
      cases g1 with
      | cons _ _ _ v vs bs bs' hc hr hd =>
        cases hr
        have hq' : ∀ cs, q' ≠ .agg cs := by
          rintro cs rfl
          cases p <;> simp [exports, plainCell] at hq
          all_goals (repeat' split at hq)
          all_goals simp at hq
        have e : List.drop 1 ks = ks.tail := by simp
        rw [← e]
        refine ⟨bs, .one q' ks v bs hq' hc, fun b hb => by have := g2 b (by simpa using hb); simpa [idss] using this⟩
    · simp at h

theorem idss_cons (p : PV) (r : List PV) : idss (p :: r) = ids p ++ idss r := rfl

theorem exportVs_ok (hs : Sim w B β rd) {n0 : Nat} (hm : ∀ b, Mut β rd b → n0 ≤ b) {all : List Nat} : ∀ {ps qs : List PV} {ks : List (Option Nat)} {vs : List Value}, exportVs rd all ps ks = some qs → Vs w B β ps vs →
    (∀ a, times a (idss ps) ≤ times a all) → ∃ bs, RVs w (Given B β rd all) n0 qs ks vs bs ∧ ∀ b ∈ bs, Sole β rd all (idss ps) b
  | [], qs, ks, vs, h, hv, hle => by
    simp [exportVs] at h; subst h
    rw [hv.of_nil]
    exact ⟨[], .nil _, by simp⟩
  | p :: r, qs, ks, vs, h, hv, hle => by
    obtain ⟨v, vs', rfl, h1, h2⟩ := hv.uncons
    simp only [exportVs] at h
    split at h
    · rename_i v' ks' hp
      split at h
      · rename_i vs2 hr
        simp at h; subst h
        have hle' : ∀ a, times a (ids p) + times a (idss r) ≤ times a all := fun a => by have := hle a; rw [idss_cons, times_append] at this; exact this
        obtain ⟨bs, g1, g2⟩ := exportV_ok hs hm hp h1 fun a => by have := hle' a; omega
        obtain ⟨bs', g3, g4⟩ := exportVs_ok hs hm hr h2 fun a => by have := hle' a; omega
        refine ⟨bs ++ bs', .cons _ _ _ _ _ _ _ _ g1 g3 (fun b hb hb' => (g2 b hb).apart hs (g4 b hb') fun a => by rw [times_append]; exact hle' a), fun b hb => ?_⟩
        rw [idss_cons]
        rcases List.mem_append.1 hb with hb | hb
        · exact (g2 b hb).mono fun a ha => List.mem_append_left _ ha
        · exact (g4 b hb).mono fun a ha => List.mem_append_right _ ha
      · simp at h
    · simp at h

/-- What a callee hands out. -/
theorem exportR_ok (hs : Sim w B β rd) {n0 : Nat} (hm : ∀ b, Mut β rd b → n0 ≤ b) {p q : PV} {ks : List (Option Nat)} {v : Value} (h : exportR rd p ks = some q) (hv : V w B β p v) :
    ∃ Bc bs, (∀ b, B b → Bc b) ∧ (∀ b, Bc b → B b ∨ Mut β rd b) ∧ (∀ b ∈ bs, ¬ Bc b) ∧ RR w Bc n0 q ks v bs := by
  have hnew : ∀ all b, Given B β rd all b → B b ∨ Mut β rd b := by
    rintro all b (hb | ⟨a, k, xs, fl, fz, l, h1, h2, h3, h4⟩)
    · exact .inl hb
    · cases fz with
      | true => exact .inl (h4 ▸ hs.frz a k xs fl l h1 h3)
      | false => exact .inr ⟨a, _, l, h1, by simp, h3, h4⟩
  by_cases hp : ∃ cs, p = .tup cs
  · obtain ⟨cs, rfl⟩ := hp
    simp only [exportR, Option.map_eq_some_iff] at h
    obtain ⟨qs, hq, rfl⟩ := h
    obtain ⟨vs, rfl, h1⟩ := Vs.of_tup hv
    obtain ⟨bs, g1, g2⟩ := exportVs_ok hs hm hq h1 fun a => by rw [times_append]; omega
    exact ⟨Given B β rd (idss cs ++ shVs cs ks), bs, fun b hb => .inl hb, hnew _, fun b hb => (g2 b hb).not_given hs, .tup qs ks vs bs g1⟩
  · have hp' : ∀ cs, p ≠ .tup cs := fun cs he => hp ⟨cs, he⟩
    have hh : exportR rd p ks = (exportV rd (ids p ++ (shV p ks).1) p ks).map (·.1) := by cases p <;> first | rfl | exact absurd rfl (hp' _)
    rw [hh] at h
    simp only [Option.map_eq_some_iff] at h
    obtain ⟨⟨q', ks'⟩, hq, rfl⟩ := h
    obtain ⟨bs, g1, g2⟩ := exportV_ok hs hm hq hv fun a => by rw [times_append]; omega
    refine ⟨Given B β rd (ids p ++ (shV p ks).1), bs, fun b hb => .inl hb, hnew _, fun b hb => (g2 b hb).not_given hs, .one q' ks ks' v bs ?_ g1⟩
    rintro cs rfl
    generalize hz : PV.tup cs = z at g1
    cases g1 with
    | agg => simp at hz
    | one p' ks v bs hpa hc =>
      subst hz
      generalize hk2 : (List.take 1 ks).head? = key at hc
      generalize hz2 : PV.tup cs = z2 at hc
      cases hc with
      | uniq => simp at hz2
      | uniq0 => simp at hz2
      | data c key v hv' hu =>
        subst hz2
        -- no cell of a result is a tuple
        cases hv' with
        | tup cs' vs' hl hv2 =>
          cases hv with
          | tup cs2 vs2 hl2 hv3 => exact hp' _ rfl
          | undef => simp [exportV, exports, plainCell] at hq
          | void => simp [exportV, exports, plainCell] at hq
end
end Go.Pm
