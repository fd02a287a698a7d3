/-
  Results: from data to the caller's heap, and from the callee's heap to data.
-/
import Derived.Test.YtjkkigeefoncmaaGreatPmData
set_option linter.unusedVariables false
set_option linter.unusedSimpArgs false
namespace Go.Pm
open Go

section
variable {w w' w'' : World} {B B' B'' Bc : Nat → Prop} {β β' β'' : Map} {rd rd' rd'' rd1 rd2 : Rd}

structure Imp (w : World) (B : Nat → Prop) (bs : List Nat) (nid j j' : Nat) (u : Upd) (R : Map → Prop) : Prop where
  isle : ∃ β, Isle w B β (rdU (fun _ => none) u) bs (nid + j) (nid + j') ∧ R β
  adds : Adds u
  rng : ∀ x ∈ u, nid + j ≤ x.1 ∧ x.1 < nid + j'
  nodup : (u.map (·.1)).Nodup

theorem Imp.nil {nid j : Nat} {R : Map → Prop} (hB : ∀ b, B b → b < w.heap.size) (hR : R fun _ => none) : Imp w B [] nid j j [] R :=
  ⟨⟨_, Isle.nil _ hB, hR⟩, fun x h => by simp at h, fun x h => by simp at h, by simp⟩

theorem Imp.mono {bs : List Nat} {nid j j' : Nat} {u : Upd} {R R' : Map → Prop} (h : Imp w B bs nid j j' u R) (hR : ∀ β, R β → R' β) : Imp w B bs nid j j' u R' := by
  obtain ⟨⟨β, h1, h2⟩, h3, h4, h5⟩ := h
  exact ⟨⟨β, h1, hR β h2⟩, h3, h4, h5⟩

theorem Imp.join {bs bs' : List Nat} {nid j m j' : Nat} {u u' : Upd} {R R' : Map → Prop} (h : Imp w B bs nid j m u R) (k : Imp w B bs' nid m j' u' R') (hd : ∀ b ∈ bs, b ∉ bs')
    (hR : ∀ β β', (∀ a l, β a = some l → β' a = some l) → R β → R β') (hR' : ∀ β β', (∀ a l, β a = some l → β' a = some l) → R' β → R' β') :
    Imp w B (bs ++ bs') nid j j' (u ++ u') (fun β => R β ∧ R' β) := by
  obtain ⟨⟨β, h1, h2⟩, h3, h4, h5⟩ := h
  obtain ⟨⟨β', k1, k2⟩, k3, k4, k5⟩ := k
  have hle := h1.le
  have kle := k1.le
  obtain ⟨q1, q2, q3⟩ := h1.join k1 hd
  have he : rdU (fun _ => none) (u ++ u') = joinR (rdU (fun _ => none) u) (rdU (fun _ => none) u') := by
    funext a
    rw [rdU_append, rdU_adds k3 (fun x hx => ?_) k5 a]
    · unfold joinR
      cases e1 : rdU (fun _ => none) u' a with
      | none => cases e2 : rdU (fun _ => none) u a <;> simp
      | some o =>
        have g1 := k1.ids a o e1
        cases e2 : rdU (fun _ => none) u a with
        | none => simp
        | some p => have := (h1.ids a p e2).2; omega
    · cases e : rdU (fun _ => none) u x.1 with
      | none => rfl
      | some o => have := (h1.ids x.1 o e).2; have := (k4 x hx).1; omega
  refine ⟨⟨_, by rw [he]; exact q1, hR _ _ q2 h2, hR' _ _ q3 k2⟩, fun x hx => (List.mem_append.1 hx).elim (h3 x) (k3 x), fun x hx => ?_, ?_⟩
  · rcases List.mem_append.1 hx with hx | hx
    · have := h4 x hx; omega
    · have := k4 x hx; omega
  · rw [List.map_append, List.nodup_append]
    refine ⟨h5, k5, fun a ha b hb hab => ?_⟩
    simp only [List.mem_map] at ha hb
    obtain ⟨x, hx, rfl⟩ := ha
    obtain ⟨y, hy, rfl⟩ := hb
    have := (h4 x hx).2; have := (k4 y hy).1; omega

theorem Imp.row {nid j k b off : Nat} {xs : List (List PV)} {flat : Bool} {c : Array Value} {e cap : Nat} (hB : ∀ b, B b → b < w.heap.size) (hb : ¬ B b) (hc : w.heap[b]? = some (.cells c e (0, 0)))
    (ho : ArrAt w B ⟨b, off, k⟩ xs c) (hf : flat = true → AllPlain xs) (hk : ∀ x ∈ xs, x.length = k) (hn : xs.length ≤ cap) (hr : Room w b (off + cap * k)) :
    Imp w B [b] nid j (j + 1) [(nid + j, some (.arr k xs flat false))] (fun β => V w B β (.own (nid + j) k 0 xs.length) (.slice (some ⟨b, off, none⟩) xs.length cap)) := by
  refine ⟨⟨setM (fun _ => none) (nid + j) ⟨b, off, k⟩, ⟨?_, fun a l hl => ?_, fun a o ha => ?_, by omega⟩, ?_⟩, fun x hx => by simp at hx; subst hx; exact ⟨_, rfl⟩, fun x hx => by simp at hx; subst hx; simp, by simp⟩
  · have hrd : ∀ a o, rdU (fun _ => none) [(nid + j, some (.arr k xs flat false))] a = some o → a = nid + j ∧ o = .arr k xs flat false := fun a o h => by
      simp only [rdU, setR] at h
      split at h
      · rename_i ha; simp at h; exact ⟨ha, h.symm⟩
      · simp at h
    refine Sim.of (fun a o ha => ?_) (fun a o l ha _ hl => ?_) (fun a a' o o' l l' ha ha' hne => ?_) hB (fun a k' xs' fl' l ha => ?_)
    · obtain ⟨rfl, rfl⟩ := hrd a o ha
      exact .inl ⟨⟨b, off, k⟩, by simp [setM], c, e, hc, hf, hk, rfl, ho⟩
    · obtain ⟨rfl, rfl⟩ := hrd a o ha
      simp [setM] at hl; subst hl; exact hb
    · exact absurd ((hrd a o ha).1.trans (hrd a' o' ha').1.symm) hne
    · have := (hrd _ _ ha).2; simp at this
  · unfold setM at hl
    split at hl
    · rename_i ha; simp at hl; subst ha; subst hl; simp
    · simp at hl
  · simp only [rdU, setR] at ha
    split at ha
    · rename_i he; subst he; omega
    · simp at ha
  · have := V.own (w := w) (B := B) (β := setM (fun _ => none) (nid + j) ⟨b, off, k⟩) (nid + j) 0 xs.length cap ⟨b, off, k⟩ (by simp [setM]) hn (by simpa using hr)
    simpa using this

theorem Imp.row0 {nid j k : Nat} {flat : Bool} {b : Option Addr} (hB : ∀ b, B b → b < w.heap.size) :
    Imp w B [] nid j (j + 1) [(nid + j, some (.arr k [] flat false))] (fun β => V w B β (.own (nid + j) k 0 0) (.slice b 0 0)) := by
  refine ⟨⟨fun _ => none, ⟨?_, (fun a l hl => by cases hl), fun a o ha => ?_, by omega⟩, .own0 _ _ _ _⟩, fun x hx => by simp at hx; subst hx; exact ⟨_, rfl⟩, fun x hx => by simp at hx; subst hx; simp, by simp⟩
  · exact Sim.of (fun a o ha => .inr ⟨rfl, by
        simp only [rdU, setR] at ha
        split at ha
        · simp at ha; exact ⟨_, _, _, ha.symm⟩
        · simp at ha⟩) (fun a o l ha _ hl => by cases hl) (fun a a' o o' l l' ha ha' hne hl => by cases hl) hB (fun a k' xs' fl' l ha hl => by cases hl)
  · simp only [rdU, setR] at ha
    split at ha
    · rename_i he; subst he; omega
    · simp at ha

theorem ArrAt.more {l : Loc} {xs : List (List PV)} {c : Array Value} (h : ArrAt w B l xs c) (hB : ∀ b, B b → B' b) : ArrAt w B' l xs c := fun i x j p h1 h2 => by
  obtain ⟨v, q1, q2, q3⟩ := h i x j p h1 h2
  exact ⟨v, q1, q2, q3.more hB⟩
theorem ArrAt.plain {l : Loc} {xs : List (List PV)} {c : Array Value} (h : ArrAt w B l xs c) (hp : AllPlain xs) : ArrAt w B' l xs c := fun i x j p h1 h2 => by
  obtain ⟨v, q1, q2, q3⟩ := h i x j p h1 h2
  exact ⟨v, q1, q2, q3.plain (hp x (List.mem_of_getElem? h1) p (List.mem_of_getElem? h2))⟩

def ownCell : PV → Bool
  | .undef | .nils | .nilp => true
  | _ => false

/-- One cell, then the others. -/
theorem imports_cons {nid j j' : Nat} {p : PV} {r ps : List PV} {ks : List (Option Nat)} {u : Upd} {sh : Bool} (h : imports nid (p :: r) ks j = some (ps, u, sh, j')) :
    (∃ xs flat k vs u' sh', p = .lit xs ⟨true, flat⟩ ∧ ks.head? = some (some k) ∧ imports nid r ks.tail (j + 1) = some (vs, u', sh', j') ∧ ps = .own (nid + j) k 0 xs.length :: vs ∧ u = (nid + j, some (.arr k xs false false)) :: u' ∧ sh = (sh' || !(xs.all allPlain))) ∨
    (∃ xs fl vs sh', p = .lit xs fl ∧ fl.u = false ∧ imports nid r ks.tail j = some (vs, u, sh', j') ∧ ps = .lit xs fl :: vs ∧ sh = true) ∨
    (∃ vs, (plainCell p = true ∨ ownCell p = true) ∧ imports nid r ks.tail j = some (vs, u, sh, j') ∧ ps = p :: vs) := by
  have other : ∀ (vs : List PV), (plainCell p = true ∨ ownCell p = true) → (match imports nid r ks.tail j with | some (vs, u, sh, j') => some (p :: vs, u, sh, j') | none => none) = some (ps, u, sh, j') →
      (∃ vs, (plainCell p = true ∨ ownCell p = true) ∧ imports nid r ks.tail j = some (vs, u, sh, j') ∧ ps = p :: vs) := by
    intro vs hp h
    split at h
    · rename_i vs' u' sh' j'' hr
      simp at h; obtain ⟨rfl, rfl, rfl, rfl⟩ := h
      exact ⟨vs', hp, hr, rfl⟩
    · simp at h
  cases p with
  | lit xs fl =>
    obtain ⟨fu, flat⟩ := fl
    cases fu with
    | true =>
      simp only [imports] at h
      split at h
      · rename_i k hk
        split at h
        · rename_i vs u' sh' j'' hr
          simp at h; obtain ⟨rfl, rfl, rfl, rfl⟩ := h
          exact .inl ⟨xs, flat, k, vs, u', sh', rfl, hk, hr, rfl, rfl, rfl⟩
        · simp at h
      · simp at h
    | false =>
      simp only [imports] at h
      split at h
      · rename_i vs u' sh' j'' hr
        simp at h; obtain ⟨rfl, rfl, rfl, rfl⟩ := h
        exact .inr (.inl ⟨xs, ⟨false, flat⟩, vs, sh', rfl, rfl, hr, rfl, rfl⟩)
      · simp at h
  | bool b => simp [imports, plainCell] at h; exact .inr (.inr (other [] (.inl rfl) h))
  | int k n => simp [imports, plainCell] at h; exact .inr (.inr (other [] (.inl rfl) h))
  | str s => simp [imports, plainCell] at h; exact .inr (.inr (other [] (.inl rfl) h))
  | undef => simp [imports, plainCell] at h; exact .inr (.inr (other [] (.inr rfl) h))
  | nils => simp [imports, plainCell] at h; exact .inr (.inr (other [] (.inr rfl) h))
  | nilp => simp [imports, plainCell] at h; exact .inr (.inr (other [] (.inr rfl) h))
  | _ => simp [imports, plainCell] at h

theorem ownCell_any {p : PV} {v : Value} (h : V w B β p v) (hp : ownCell p = true) : V w' B' β' p v := by
  cases h <;> simp [ownCell] at hp <;> constructor

theorem imports_ok {n0 nid : Nat} : ∀ {cs ps : List PV} {ks : List (Option Nat)} {vs : List Value} {bs : List Nat} {j j' : Nat} {u : Upd} {sh : Bool}, RCs w Bc n0 cs ks vs bs → imports nid cs ks j = some (ps, u, sh, j') →
    ∀ B : Nat → Prop, (sh = true → ∀ b, Bc b → B b) → (∀ b ∈ bs, ¬ B b) → (∀ b, B b → b < w.heap.size) → Imp w B bs nid j j' u (fun β => Vs w B β ps vs)
  | [], ps, ks, vs, bs, j, j', u, sh, hc, h, B, h1, h2, h3 => by
    simp [imports] at h; obtain ⟨rfl, rfl, rfl, rfl⟩ := h
    cases hc
    exact .nil h3 .nil
  | p :: r, ps, ks, vs, bs, j, j', u, sh, hc, h, B, h1, h2, h3 => by
    cases hc with
    | cons _ _ _ v vs bs bs' hp hr hd =>
    have hm : ∀ (p : PV) (v : Value) (β β' : Map), (∀ a l, β a = some l → β' a = some l) → V w B β p v → V w B β' p v := fun p v β β' hm h => h.remap hm
    have hms : ∀ (ps : List PV) (vs : List Value) (β β' : Map), (∀ a l, β a = some l → β' a = some l) → Vs w B β ps vs → Vs w B β' ps vs := fun p v β β' hm h => h.remap hm
    rcases imports_cons h with ⟨xs, flat, k, vs', u', sh', rfl, hk, hi, rfl, rfl, rfl⟩ | ⟨xs, fl, vs', sh', rfl, hu, hi, rfl, rfl⟩ | ⟨vs', hpl, hi, rfl⟩
    · have ih := imports_ok hr hi B (fun hs => h1 (by simp [hs])) (fun b hb => h2 b (List.mem_append_right _ hb)) h3
      generalize hkey : ks.head? = key at hp
      generalize hlit : PV.lit xs ⟨true, flat⟩ = pl at hp
      cases hp with
      | uniq k' xs' flat' b off cap c e hc ho hf hk' hn hroom h0 =>
        simp at hlit; obtain ⟨rfl, rfl⟩ := hlit
        rw [hk] at hkey; simp at hkey; subst hkey
        have ho' : ArrAt w B ⟨b, off, k⟩ xs c := by
          cases hfl : xs.all allPlain with
          | true => exact ho.plain fun x hx => allPlain_iff.1 (List.all_eq_true.1 hfl x hx)
          | false => exact ho.more (h1 (by simp [hfl]))
        have := (Imp.row (w := w) (B := B) (nid := nid) (j := j) h3 (h2 b (by simp)) hc ho' (flat := false) (by simp) hk' hn hroom).join ih hd (hm _ _) (hms _ _)
        exact this.mono fun β hβ => .cons hβ.1 hβ.2
      | uniq0 k' flat' b =>
        simp at hlit; obtain ⟨rfl, rfl⟩ := hlit
        rw [hk] at hkey; simp at hkey; subst hkey
        have := (Imp.row0 (w := w) (B := B) (nid := nid) (j := j) (k := k) (flat := false) (b := b) h3).join ih hd (hm _ _) (hms _ _)
        exact this.mono fun β hβ => .cons hβ.1 hβ.2
      | data c key v hv hu =>
        subst hlit
        have := hu xs _ rfl; simp at this
    · have ih := imports_ok hr hi B (fun _ => h1 rfl) (fun b hb => h2 b (List.mem_append_right _ hb)) h3
      generalize hlit : PV.lit xs fl = pl at hp
      generalize hkey : ks.head? = key at hp
      cases hp with
      | uniq k' xs' flat' b off cap c e hc ho hf hk' hn hroom h0 => simp at hlit; obtain ⟨rfl, rfl⟩ := hlit; simp at hu
      | uniq0 k' flat' b => simp at hlit; obtain ⟨rfl, rfl⟩ := hlit; simp at hu
      | data c key v hv hu' =>
        subst hlit
        exact ih.mono fun β hβ => .cons ((hv.more (h1 rfl)).lift) hβ
    · have ih := imports_ok hr hi B h1 (fun b hb => h2 b (List.mem_append_right _ hb)) h3
      generalize hkey : ks.head? = key at hp
      cases hp with
      | uniq k' xs' flat' b off cap c e hc ho hf hk' hn hroom h0 => simp [plainCell, ownCell] at hpl
      | uniq0 k' flat' b => simp [plainCell, ownCell] at hpl
      | data c key v hv hu' => exact ih.mono fun β hβ => .cons (hpl.elim hv.plain (ownCell_any hv)) hβ

theorem importV_ok {n0 nid : Nat} {r p : PV} {ks ks' ks2 : List (Option Nat)} {v : Value} {bs : List Nat} {j j' : Nat} {u : Upd} {sh : Bool} (hc : RV w Bc n0 r ks v ks2 bs) (h : importV nid r ks j = some (p, u, sh, j', ks'))
    (B : Nat → Prop) (h1 : sh = true → ∀ b, Bc b → B b) (h2 : ∀ b ∈ bs, ¬ B b) (h3 : ∀ b, B b → b < w.heap.size) : Imp w B bs nid j j' u (fun β => V w B β p v) ∧ ks' = ks2 := by
  cases hc with
  | agg cs ks vs bs hc ho =>
    simp only [importV] at h
    split at h
    · rename_i cs' u' sh' j'' hi
      simp at h; obtain ⟨rfl, rfl, rfl, rfl, rfl⟩ := h
      exact ⟨(imports_ok hc hi B h1 h2 h3).mono fun β hβ => .agg _ vs (by simpa using hβ.1) ho fun i c v q1 q2 => hβ.2 i c v q1 (by simpa using q2), rfl⟩
    · simp at h
  | one p' ks v bs hp hc =>
    have hh : importV nid r ks j = (match imports nid [r] (ks.take 1) j with | some ([v'], u, sh, j') => some (v', u, sh, j', ks.drop 1) | _ => none) := by
      cases r <;> first | rfl | exact absurd rfl (hp _)
    rw [hh] at h
    split at h
    · rename_i v' u' sh' j'' hi
      simp at h; obtain ⟨rfl, rfl, rfl, rfl, rfl⟩ := h
      have hcs := RCs.cons (w := w) (B := Bc) (n0 := n0) r [] (ks.take 1) v [] bs [] hc (.nil _) (by simp)
      have := imports_ok hcs hi B h1 (by simpa using h2) h3
      rw [List.append_nil] at this
      exact ⟨this.mono fun β hβ => hβ.head, by simp⟩
    · simp at h

theorem importVs_ok {n0 nid : Nat} : ∀ {cs ps : List PV} {ks : List (Option Nat)} {vs : List Value} {bs : List Nat} {j j' : Nat} {u : Upd} {sh : Bool}, RVs w Bc n0 cs ks vs bs → importVs nid cs ks j = some (ps, u, sh, j') →
    ∀ B : Nat → Prop, (sh = true → ∀ b, Bc b → B b) → (∀ b ∈ bs, ¬ B b) → (∀ b, B b → b < w.heap.size) → Imp w B bs nid j j' u (fun β => Vs w B β ps vs)
  | [], ps, ks, vs, bs, j, j', u, sh, hc, h, B, h1, h2, h3 => by
    simp [importVs] at h; obtain ⟨rfl, rfl, rfl, rfl⟩ := h
    cases hc
    exact .nil h3 .nil
  | p :: r, ps, ks, vs, bs, j, j', u, sh, hc, h, B, h1, h2, h3 => by
    cases hc with
    | cons _ _ _ ks' v vs bs bs' hp hr hd =>
    simp only [importVs] at h
    split at h
    · rename_i v' u1 sh1 j1 ks1 hi
      split at h
      · rename_i vs' u2 sh2 j2 hi2
        simp at h; obtain ⟨rfl, rfl, rfl, rfl⟩ := h
        obtain ⟨g1, rfl⟩ := importV_ok hp hi B (fun hs => h1 (by simp [hs])) (fun b hb => h2 b (List.mem_append_left _ hb)) h3
        have g2 := importVs_ok hr hi2 B (fun hs => h1 (by simp [hs])) (fun b hb => h2 b (List.mem_append_right _ hb)) h3
        exact (g1.join g2 hd (fun _ _ hm h => h.remap hm) (fun _ _ hm h => h.remap hm)).mono fun β hβ => .cons hβ.1 hβ.2
      · simp at h
    · simp at h

theorem importR_ok {n0 nid : Nat} {r p : PV} {ks : List (Option Nat)} {v : Value} {bs : List Nat} {j : Nat} {u : Upd} {sh : Bool} (hc : RR w Bc n0 r ks v bs) (h : importR nid r ks = some (p, u, sh, j))
    (B : Nat → Prop) (h1 : sh = true → ∀ b, Bc b → B b) (h2 : ∀ b ∈ bs, ¬ B b) (h3 : ∀ b, B b → b < w.heap.size) : Imp w B bs nid 0 j u (fun β => V w B β p v) := by
  cases hc with
  | tup cs ks vs bs hc =>
    simp only [importR] at h
    split at h
    · rename_i vs' u' sh' j' hi
      simp at h; obtain ⟨rfl, rfl, rfl, rfl⟩ := h
      exact (importVs_ok hc hi B h1 h2 h3).mono fun β hβ => .tup _ vs (by simpa using hβ.1) fun i c v q1 q2 => hβ.2 i c v q1 (by simpa using q2)
    · simp at h
  | one p' ks ks' v bs hp hc =>
    have hh : importR nid r ks = (match importV nid r ks 0 with | some (v', u, sh, j, _) => some (v', u, sh, j) | none => none) := by
      cases r <;> first | rfl | exact absurd rfl (hp _)
    rw [hh] at h
    split at h
    · rename_i v' u' sh' j' ks2 hi
      simp at h; obtain ⟨rfl, rfl, rfl, rfl⟩ := h
      exact (importV_ok hc hi B h1 h2 h3).1
    · simp at h
end
end Go.Pm
