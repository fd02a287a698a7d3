/-
  A region whose operations come in any order that its edges allow.
-/
import Derived.Test.YtjkkigeefoncmaaGreatPmRegion
set_option linter.unusedVariables false
set_option linter.unusedSimpArgs false
namespace Go.Pm
open Go

/-! ### who wrote last -/
def lastW (p : Nat → Bool) : Nat → Option Nat
  | 0 => none
  | n + 1 => if p n then some n else lastW p n

theorem lastW_congr {p q : Nat → Bool} : ∀ {n : Nat}, (∀ i, i < n → p i = q i) → lastW p n = lastW q n
  | 0, _ => rfl
  | n + 1, h => by simp only [lastW]; rw [h n (by omega), lastW_congr fun i hi => h i (by omega)]

theorem lastW_is {p : Nat → Bool} : ∀ {n j : Nat}, j < n → p j = true → (∀ i, j < i → i < n → p i = false) → lastW p n = some j
  | 0, j, h, _, _ => by omega
  | n + 1, j, h, hp, hl => by
    simp only [lastW]
    by_cases hj : j = n
    · subst hj; simp [hp]
    · rw [hl n (by omega) (by omega)]
      simp only [Bool.false_eq_true, ↓reduceIte]
      exact lastW_is (by omega) hp fun i h1 h2 => hl i h1 (by omega)

def wrote : Upd → Nat → Option (Option PObj)
  | [], _ => none
  | (b, o) :: r, a => match wrote r a with
    | some q => some q
    | none => if a = b then some o else none

theorem rdU_wrote : ∀ (u : Upd) (rd : Rd) (a : Nat), rdU rd u a = (wrote u a).getD (rd a)
  | [], rd, a => rfl
  | (b, o) :: r, rd, a => by
    simp only [rdU, wrote]
    rw [rdU_wrote r]
    cases wrote r a with
    | some q => rfl
    | none =>
      simp only [setR, Option.getD_none]
      split <;> rfl

theorem wrote_ids : ∀ {u : Upd} {a : Nat}, (wrote u a).isSome = true → a ∈ updIds u
  | [], a, h => by simp [wrote] at h
  | (b, o) :: r, a, h => by
    simp only [wrote] at h
    simp only [updIds, List.mem_cons]
    split at h
    · rename_i q hq; exact .inr (wrote_ids (by rw [hq]; rfl))
    · split at h
      · rename_i hab; exact .inl hab
      · simp at h

theorem nth_ext {l m : List PV} (hl : l.length = m.length) (h : ∀ t, nth l t = nth m t) : l = m := by
  apply List.ext_getElem hl
  intro t h1 h2
  have := h t
  rw [nth_get (List.getElem?_eq_getElem h1), nth_get (List.getElem?_eq_getElem h2)] at this
  exact this

section
variable {P : Program} {w w' : World} {B B' : Nat → Prop} {β β' : Map} {rd rd' : Rd} {tm tm' : List PV} {a : Act}
variable (os : List Oper) (es : List Eff) (tm0 : List PV) (rd0 : Rd)

def dstAt (i : Nat) : Option Nat := (os[i]?).bind (·.dst)
def effAt (i : Nat) : Eff := (es[i]?).getD ⟨.void, [], []⟩
def tmV (S : Nat → Bool) (t : Nat) : PV :=
  match lastW (fun i => S i && dstAt os i == some t) os.length with
  | none => nth tm0 t
  | some i => (effAt es i).val
def tmL (S : Nat → Bool) : List PV := (List.range tm0.length).map (tmV os es tm0 S)
def rdV (S : Nat → Bool) : Rd := fun a =>
  match lastW (fun i => S i && (wrote (effAt es i).upd a).isSome) os.length with
  | none => rd0 a
  | some i => (wrote (effAt es i).upd a).getD none
def addS (S : Nat → Bool) (j : Nat) : Nat → Bool := fun i => S i || i == j

theorem tmL_length (S : Nat → Bool) : (tmL os es tm0 S).length = tm0.length := by simp [tmL]
theorem nth_tmL (S : Nat → Bool) (t : Nat) : nth (tmL os es tm0 S) t = if t < tm0.length then tmV os es tm0 S t else .undef := by
  rw [nth_eq]
  unfold tmL
  by_cases h : t < tm0.length
  · simp [h]
  · simp [h]

theorem tmL_congr {S T : Nat → Bool} (h : ∀ i, i < os.length → S i = T i) : tmL os es tm0 S = tmL os es tm0 T := by
  refine nth_ext (by simp [tmL_length]) fun t => ?_
  rw [nth_tmL, nth_tmL]
  unfold tmV
  rw [lastW_congr fun i hi => by rw [h i hi]]
theorem rdV_congr {S T : Nat → Bool} (h : ∀ i, i < os.length → S i = T i) : rdV os es rd0 S = rdV os es rd0 T := by
  funext a
  unfold rdV
  rw [lastW_congr fun i hi => by rw [h i hi]]

theorem after_tm {S : Nat → Bool} {j : Nat} (hj : j < os.length) (hlast : ∀ i, j < i → i < os.length → S i = true → ∀ d, dstAt os j = some d → dstAt os i ≠ some d) :
    putD (tmL os es tm0 S) (dstAt os j) (effAt es j).val = tmL os es tm0 (addS S j) := by
  cases hd : dstAt os j with
  | none =>
    simp only [putD]
    refine nth_ext (by simp [tmL_length]) fun t => ?_
    rw [nth_tmL, nth_tmL]
    unfold tmV
    rw [lastW_congr (q := fun i => addS S j i && dstAt os i == some t) fun i hi => ?_]
    simp only [addS]
    by_cases hij : i = j
    · subst hij; simp [hd]
    · have : (i == j) = false := by simpa using hij
      simp [this]
  | some d =>
    simp only [putD]
    refine nth_ext (by simp [tmL_length, put_length]) fun t => ?_
    rw [nth_put, nth_tmL, nth_tmL, tmL_length]
    by_cases ht : t = d
    · subst ht
      by_cases hlt : t < tm0.length
      · simp only [hlt, and_self, ↓reduceIte]
        unfold tmV
        rw [lastW_is hj (by simp [addS, hd]) fun i h1 h2 => ?_]
        simp only [addS]
        have : (i == j) = false := by simpa using (by omega : i ≠ j)
        cases hS : S i with
        | false => simp [this]
        | true => simpa [this] using hlast i h1 h2 hS t hd
      · simp [hlt]
    · simp only [ht, false_and, ↓reduceIte]
      split
      · unfold tmV
        rw [lastW_congr (q := fun i => addS S j i && dstAt os i == some t) fun i hi => ?_]
        simp only [addS]
        by_cases hij : i = j
        · subst hij
          have : (some d == some t) = false := by simpa using Ne.symm ht
          simp [hd, this, Ne.symm ht]
        · have : (i == j) = false := by simpa using hij
          simp [this]
      · rfl

theorem after_rd {S : Nat → Bool} {j : Nat} (hj : j < os.length) (hlast : ∀ i, j < i → i < os.length → S i = true → ∀ a, (wrote (effAt es j).upd a).isSome = true → wrote (effAt es i).upd a = none) :
    rdU (rdV os es rd0 S) (effAt es j).upd = rdV os es rd0 (addS S j) := by
  funext a
  rw [rdU_wrote]
  cases hw : wrote (effAt es j).upd a with
  | some q =>
    simp only [Option.getD_some]
    unfold rdV
    rw [lastW_is hj (by simp [addS, hw]) fun i h1 h2 => ?_]
    · simp [hw]
    · simp only [addS]
      have : (i == j) = false := by simpa using (by omega : i ≠ j)
      cases hS : S i with
      | false => simp [this]
      | true => simp [this, hlast i h1 h2 hS a (by rw [hw]; rfl)]
  | none =>
    simp only [Option.getD_none]
    unfold rdV
    rw [lastW_congr (q := fun i => addS S j i && (wrote (effAt es i).upd a).isSome) fun i hi => ?_]
    simp only [addS]
    by_cases hij : i = j
    · subst hij; simp [hw]
    · have : (i == j) = false := by simpa using hij
      simp [this]

def firstN (k : Nat) : Nat → Bool := fun i => decide (i < k)
theorem addS_firstN (k : Nat) : addS (firstN k) k = firstN (k + 1) := by
  funext i
  simp only [addS, firstN]
  by_cases h : i < k
  · have : i < k + 1 := by omega
    simp [h, this]
  · by_cases h2 : i = k
    · subst h2; simp
    · have : ¬ i < k + 1 := by omega
      have h3 : (i == k) = false := by simpa using h2
      simp [h, this, h3]

/-- What the run in the text's order was. -/
structure Rec (E : Env) (C : Callee) (nid0 : Nat) : Prop where
  len : es.length = os.length
  step : ∀ j o, os[j]? = some o → stepOp E C os (rdV os es rd0 (firstN j)) (nid0 + 64 * j) (tmL os es tm0 (firstN j)) o = some (effAt es j)

theorem evOps_rec {E : Env} {C : Callee} {nid0 : Nat} {tm1 : List PV} {h1 : List (Nat × PObj)} : ∀ (rest : List Oper) (pre ers : List Eff) (k : Nat) (tm : List PV) (h : List (Nat × PObj)), es = pre ++ ers → pre.length = k → os.drop k = rest →
    tm = tmL os es tm0 (firstN k) → look h = rdV os es rd0 (firstN k) → evOps E C os rest (nid0 + 64 * k) tm h = some (tm1, h1, ers) →
    ers.length = rest.length ∧ (∀ j o, k ≤ j → os[j]? = some o → stepOp E C os (rdV os es rd0 (firstN j)) (nid0 + 64 * j) (tmL os es tm0 (firstN j)) o = some (effAt es j)) ∧
    tm1 = tmL os es tm0 (firstN os.length) ∧ look h1 = rdV os es rd0 (firstN os.length)
  | [], pre, ers, k, tm, h, he, hp, hr, ht, hh, hev => by
    simp [evOps] at hev; obtain ⟨rfl, rfl, rfl⟩ := hev
    have hk : os.length ≤ k := by simpa using hr
    refine ⟨rfl, fun j o hj ho => ?_, ?_, ?_⟩
    · rw [List.getElem?_eq_none (by omega)] at ho; simp at ho
    · rw [ht]; exact tmL_congr os es tm0 fun i hi => by simp [firstN, hi]; omega
    · rw [hh]; exact rdV_congr os es rd0 fun i hi => by simp [firstN, hi]; omega
  | o :: r, pre, ers, k, tm, h, he, hp, hr, ht, hh, hev => by
    simp only [evOps] at hev
    split at hev
    · rename_i e hst
      split at hev
      · rename_i tm' h' es' hrest
        simp at hev; obtain ⟨rfl, rfl, rfl⟩ := hev
        have hk : k < os.length := by
          rcases Nat.lt_or_ge k os.length with h1 | h1
          · exact h1
          · rw [List.drop_eq_nil_of_le h1] at hr; simp at hr
        have hok : os[k]? = some o := by
          have : (os.drop k)[0]? = some o := by rw [hr]; rfl
          simpa using this
        have hek : effAt es k = e := by
          unfold effAt
          rw [he, List.getElem?_append_right (by omega), hp]
          simp
        have hd : dstAt os k = o.dst := by simp [dstAt, hok]
        have hno : ∀ i, k < i → i < os.length → firstN k i = true → False := fun i h1 h2 h3 => by simp [firstN] at h3; omega
        have e1 : putD tm o.dst e.val = tmL os es tm0 (firstN (k + 1)) := by
          rw [ht, ← hd, ← hek, after_tm os es tm0 hk fun i h1 h2 h3 => (hno i h1 h2 h3).elim, addS_firstN]
        have e2 : look (applyUpd h e.upd) = rdV os es rd0 (firstN (k + 1)) := by
          rw [look_applyUpd, hh, ← hek, after_rd os es rd0 hk fun i h1 h2 h3 => (hno i h1 h2 h3).elim, addS_firstN]
        have hn : nid0 + 64 * k + 64 = nid0 + 64 * (k + 1) := by omega
        rw [hn] at hrest
        obtain ⟨g1, g2, g3, g4⟩ := evOps_rec (nid0 := nid0) r (pre ++ [e]) es' (k + 1) _ _ (by rw [he]; simp) (by simp [hp]) (by rw [← List.drop_drop, hr]; rfl) e1 e2 hrest
        refine ⟨by simp [g1], fun j o' hj ho' => ?_, g3, g4⟩
        by_cases hjk : j = k
        · subst hjk
          rw [hok] at ho'; simp at ho'; subst ho'
          rw [hek, ← ht, ← hh]; exact hst
        · exact g2 j o' (by omega) ho'
      · simp at hev
    · simp at hev

/-! ### in another order -/
/-- What the first has done, the second does not see. -/
structure Ind (ops : Array Oper) (i j : Nat) : Prop where
  dst : ∀ d y, dstAt os i = some d → os[j]? = some y → d ∉ y.looksAt ops ∧ y.dst ≠ some d
  upd : ∀ a, (wrote (effAt es i).upd a).isSome = true → a ∉ (effAt es j).foot ∧ wrote (effAt es j).upd a = none

theorem exec_ok {E : Env} {C : Callee} (hC : IdsOK C) {ops : Array Oper} (hos : ops.toList = os) {nid0 : Nat} (hr : Rec os es tm0 rd0 E C nid0) {S : Nat → Bool} {j : Nat} {o : Oper} (ho : os[j]? = some o) (hSj : S j = false)
    (hind : ∀ i, i < os.length → i ≠ j → (S i = true ∧ j < i) ∨ (S i = false ∧ i < j) → Ind os es ops i j) :
    stepOp E C os (rdV os es rd0 S) (nid0 + 64 * j) (tmL os es tm0 S) o = some (effAt es j) := by
  have hj : j < os.length := by
    rcases Nat.lt_or_ge j os.length with h | h
    · exact h
    · rw [List.getElem?_eq_none h] at ho; simp at ho
  have htm : ∀ t, t ∈ o.looksAt ops → nth (tmL os es tm0 S) t = nth (tmL os es tm0 (firstN j)) t := fun t ht => by
    rw [nth_tmL, nth_tmL]
    unfold tmV
    rw [lastW_congr (q := fun i => firstN j i && dstAt os i == some t) fun i hi => ?_]
    by_cases hd : dstAt os i = some t
    · by_cases hij : i = j
      · subst hij; simp [hSj, firstN]
      · cases hS : S i with
        | true =>
          by_cases hlt : i < j
          · simp [firstN, hlt]
          · exact absurd ht ((hind i hi hij (.inl ⟨hS, by omega⟩)).dst t o hd ho).1
        | false =>
          by_cases hlt : i < j
          · exact absurd ht ((hind i hi hij (.inr ⟨hS, hlt⟩)).dst t o hd ho).1
          · simp [firstN, hlt]
    · have : (dstAt os i == some t) = false := by simpa using hd
      simp [this]
  have hrd : Same (rdV os es rd0 (firstN j)) (rdV os es rd0 S) (effAt es j).foot := fun a ha => by
    unfold rdV
    rw [lastW_congr (q := fun i => firstN j i && (wrote (effAt es i).upd a).isSome) fun i hi => ?_]
    cases hw : (wrote (effAt es i).upd a).isSome with
    | false => simp
    | true =>
      by_cases hij : i = j
      · subst hij; simp [hSj, firstN]
      · cases hS : S i with
        | true =>
          by_cases hlt : i < j
          · simp [firstN, hlt]
          · exact absurd ha ((hind i hi hij (.inl ⟨hS, by omega⟩)).upd a hw).1
        | false =>
          by_cases hlt : i < j
          · exact absurd ha ((hind i hi hij (.inr ⟨hS, hlt⟩)).upd a hw).1
          · simp [firstN, hlt]
  refine (step_foot hC (hr.step j o ho)).2 hrd (fun x hx t hxt => htm t ?_) (fun g want d hg hd => htm d ?_)
  · subst hxt
    exact List.mem_append_left _ (List.mem_filterMap.2 ⟨.tmp t, by simpa using hx, rfl⟩)
  · refine List.mem_append_right _ ?_
    subst hos
    simp only [hg]
    have : (ops[g]?).bind (·.dst) = some d := by simpa using hd
    rw [this]; simp

def cnt (p : Nat → Bool) : Nat → Nat
  | 0 => 0
  | n + 1 => cnt p n + if p n then 1 else 0
theorem cnt_le (p : Nat → Bool) : ∀ n, cnt p n ≤ n
  | 0 => Nat.le_refl _
  | n + 1 => by have := cnt_le p n; simp only [cnt]; split <;> omega
theorem cnt_mono {p q : Nat → Bool} (h : ∀ i, q i = true → p i = true) : ∀ n, cnt q n ≤ cnt p n
  | 0 => Nat.le_refl _
  | n + 1 => by
    have := cnt_mono h n
    simp only [cnt]
    cases hq : q n with
    | false => simp; omega
    | true => rw [h n hq]; simp; omega
theorem cnt_lt {p q : Nat → Bool} (h : ∀ i, q i = true → p i = true) {j : Nat} (hp : p j = true) (hq : q j = false) : ∀ n, j < n → cnt q n < cnt p n
  | 0, hj => by omega
  | n + 1, hj => by
    simp only [cnt]
    by_cases hjn : j = n
    · subst hjn
      have := cnt_mono h j
      simp [hp, hq]; omega
    · have := cnt_lt h hp hq n (by omega)
      cases hqn : q n with
      | false => simp; omega
      | true => rw [h n hqn]; simp; omega
theorem cnt_zero {p : Nat → Bool} : ∀ {n : Nat}, cnt p n = 0 → ∀ i, i < n → p i = false
  | 0, _, i, hi => by omega
  | n + 1, h, i, hi => by
    simp only [cnt] at h
    by_cases hin : i = n
    · subst hin
      cases hp : p i with
      | false => rfl
      | true => rw [hp] at h; simp at h
    · exact cnt_zero (Nat.eq_zero_of_add_eq_zero_right h) i (by omega)

theorem binds_any {md : Region.Mode} {e : Edge} (h : Region.binds .any e = true) : Region.binds md e = true := by
  unfold Region.binds at h ⊢
  split at h
  · simp at h
  · simp at h
  · rfl

/-- As long as not all are listed, one is ready. -/
theorem ready_some {md : Region.Mode} {ops : Array Oper} {listed : Array Bool} (hsz : listed.size = ops.size) : ∀ (l done : List Nat), orderOK md ops.toList done l = true → (∀ i ∈ done, listed.getD i false = true) →
    Region.ready md ops listed = [] → ∀ i, i < ops.size → listed.getD i false = true
  | [], done, h, hd, _, i, hi => by
    simp only [orderOK, List.all_eq_true, List.mem_range, Array.length_toList] at h
    exact hd i (has_iff.1 (h i hi))
  | j :: l, done, h, hd, hr, i, hi => by
    simp only [orderOK, Bool.and_eq_true] at h
    cases ho : ops[j]? with
    | none =>
      have : ops.toList[j]? = none := by simpa using ho
      rw [this] at h; simp at h
    | some o =>
      have ho' : ops.toList[j]? = some o := by simpa using ho
      rw [ho'] at h
      have hrdy := h.1
      simp only [readyAt, List.all_eq_true, Bool.or_eq_true, Bool.not_eq_true'] at hrdy
      have hjs : j < listed.size := by rw [hsz]; exact (Array.getElem?_eq_some_iff.1 ho).1
      refine ready_some hsz l (j :: done) h.2 (fun k hk => ?_) hr i hi
      rcases List.mem_cons.1 hk with rfl | hk
      · cases hl : listed.getD k false with
        | true => rfl
        | false =>
          have : k ∈ Region.ready md ops listed := mem_ready.2 ⟨by simpa [hjs] using hl, o, ho, fun e he hb => by
            rcases hrdy e (by simpa using he) with h1 | h1
            · rw [hb] at h1; simp at h1
            · exact hd e.on (has_iff.1 h1)⟩
          rw [hr] at this; simp at this
      · exact hd k hk

theorem draw_ok {E : Env} {C : Callee} (hT : TabOK P E.tab) (hC : CalleeOK P E.resK C) {ops : Array Oper} (hos : ops.toList = os) {Q : Exit → Act → World → Prop} {w0 : World} {B0 : Nat → Prop} {β0 : Map} {rdi : Rd} {nid0 : Nat}
    (hrec : Rec os es tm0 rd0 E C nid0) (bf : Nat → List Nat) (hord : ∀ i j, i < j → j < os.length → i ∈ bf j ∨ (Ind os es ops i j ∧ Ind os es ops j i))
    (hbef : ∀ j o i, os[j]? = some o → i ∈ bf j → ∃ e ∈ o.after.toList, Region.binds .any e = true ∧ (i = e.on ∨ i ∈ bf e.on))
    {md : Region.Mode} {order : List Nat} (hmd : orderOK md os [] order = true)
    (hQ : ∀ w' B' β' a', Stand w0 B0 β0 rdi w' B' β' (rdV os es rd0 (firstN os.length)) (tmL os es tm0 (firstN os.length)) a' (nid0 + 64 * os.length) → Q .normal a' w') :
    ∀ (fuel : Nat) (listed : Array Bool) (w : World) (B : Nat → Prop) (β : Map) (a : Act), listed.size = ops.size → cnt (fun i => !listed.getD i false) os.length ≤ fuel →
      (∀ j, listed.getD j false = true → ∀ i ∈ bf j, listed.getD i false = true) →
      Step w0 B0 β0 rdi w B β (rdV os es rd0 fun i => listed.getD i false) → TmRel w B β (tmL os es tm0 fun i => listed.getD i false) a →
      (∀ i, i < os.length → listed.getD i false = false → Fresh β (rdV os es rd0 fun i => listed.getD i false) (nid0 + 64 * i)) →
      (∀ b, nid0 + 64 * os.length ≤ b → β b = none ∧ rdV os es rd0 (fun i => listed.getD i false) b = none) → wpAny P md ops Q fuel listed a w := by
  have hsz : ops.size = os.length := by rw [← hos]; simp
  have fin : ∀ (listed : Array Bool) (w : World) (B : Nat → Prop) (β : Map) (a : Act), (∀ i, i < os.length → listed.getD i false = true) →
      Step w0 B0 β0 rdi w B β (rdV os es rd0 fun i => listed.getD i false) → TmRel w B β (tmL os es tm0 fun i => listed.getD i false) a →
      (∀ b, nid0 + 64 * os.length ≤ b → β b = none ∧ rdV os es rd0 (fun i => listed.getD i false) b = none) → Q .normal a w := by
    intro listed w B β a hall hst htm hfr
    have hc : ∀ i, i < os.length → listed.getD i false = firstN os.length i := fun i hi => by rw [hall i hi]; simp [firstN, hi]
    rw [rdV_congr os es rd0 hc] at hst hfr
    rw [tmL_congr os es tm0 hc] at htm
    exact hQ w B β a ⟨hst, htm, hfr⟩
  intro fuel
  induction fuel with
  | zero =>
    intro listed w B β a hls hcnt hcl hst htm hfr hfr2
    have hall : ∀ i, i < os.length → listed.getD i false = true := fun i hi => by
      have := cnt_zero (Nat.le_zero.1 hcnt) i hi
      simpa using this
    refine ⟨?_, fin listed w B β a hall hst htm hfr2⟩
    cases hr : Region.ready md ops listed with
    | nil => rfl
    | cons j r =>
      have hj : j ∈ Region.ready md ops listed := by rw [hr]; simp
      obtain ⟨h1, o, ho, _⟩ := mem_ready.1 hj
      have hlt : j < os.length := by rw [← hsz]; exact (Array.getElem?_eq_some_iff.1 ho).1
      have := hall j hlt
      have hjs : j < listed.size := by rw [hls, hsz]; exact hlt
      simp [hjs] at h1 this
      rw [h1] at this; simp at this
  | succ fuel ih =>
    intro listed w B β a hls hcnt hcl hst htm hfr hfr2
    refine ⟨fun hr => fin listed w B β a (fun i hi => ready_some hls order [] (by rw [hos]; exact hmd) (by simp) hr i (by rw [hsz]; exact hi)) hst htm hfr2, fun j hj => ?_⟩
    obtain ⟨h1, o, ho, hedges⟩ := mem_ready.1 hj
    have hlt : j < os.length := by rw [← hsz]; exact (Array.getElem?_eq_some_iff.1 ho).1
    have hjs : j < listed.size := by rw [hls, hsz]; exact hlt
    have hSj : listed.getD j false = false := by simpa [hjs] using h1
    have ho' : os[j]? = some o := by rw [← hos]; simpa using ho
    have hbj : ∀ i ∈ bf j, listed.getD i false = true := fun i hi => by
      obtain ⟨e, he, hb, h2⟩ := hbef j o i ho' hi
      have hon := hedges e (by simpa using he) (binds_any hb)
      rcases h2 with rfl | h2
      · exact hon
      · exact hcl e.on hon i h2
    have hex := exec_ok os es tm0 rd0 hC.ids hos hrec (S := fun i => listed.getD i false) ho' hSj fun i hi hij hc => by
      rcases hc with ⟨hS, hlt2⟩ | ⟨hS, hlt2⟩
      · rcases hord j i hlt2 hi with h2 | h2
        · have := hcl i hS j h2; rw [hSj] at this; simp at this
        · exact h2.2
      · rcases hord i j hlt2 hlt with h2 | h2
        · have := hbj i h2; rw [hS] at this; simp at this
        · exact h2.1
    have hex : stepOp E C ops.toList (rdV os es rd0 fun i => listed.getD i false) (nid0 + 64 * j) (tmL os es tm0 fun i => listed.getD i false) o = some (effAt es j) := by rw [hos]; exact hex
    have hu := (step_foot (rd' := rdV os es rd0 fun i => listed.getD i false) (tm' := tmL os es tm0 fun i => listed.getD i false) hC.ids hex).1
    refine step_ok hT hC hst.sim htm (hfr j hlt hSj) ho hex fun v w' B' β' hd => ?_
    have hS' : (fun i => (listed.setIfInBounds j true).getD i false) = addS (fun i => listed.getD i false) j := by
      funext i
      simp only [addS]
      by_cases hij : i = j
      · subst hij; simp [hjs]
      · have h2 : (i == j) = false := by simpa using hij
        rw [h2, Bool.or_false]
        simp [Array.getElem?_setIfInBounds_ne (Ne.symm hij)]
    have hS'' : ∀ i, (listed.setIfInBounds j true).getD i false = (listed.getD i false || i == j) := fun i => congrFun hS' i
    have hdst : o.dst = dstAt os j := by simp [dstAt, ho']
    have e1 : putD (tmL os es tm0 fun i => listed.getD i false) o.dst (effAt es j).val = tmL os es tm0 (addS (fun i => listed.getD i false) j) := by
      rw [hdst]
      refine after_tm os es tm0 hlt fun i hji hi hS d hd1 hd2 => ?_
      rcases hord j i hji hi with h2 | h2
      · have := hcl i hS j h2; rw [hSj] at this; simp at this
      · cases hoi : os[i]? with
        | none => simp [dstAt, hoi] at hd2
        | some y =>
          have h3 := (h2.1.dst d y hd1 hoi).2
          simp [dstAt, hoi] at hd2
          exact h3 hd2
    have e2 : rdU (rdV os es rd0 fun i => listed.getD i false) (effAt es j).upd = rdV os es rd0 (addS (fun i => listed.getD i false) j) := by
      refine after_rd os es rd0 hlt fun i hji hi hS a' ha' => ?_
      rcases hord j i hji hi with h2 | h2
      · have := hcl i hS j h2; rw [hSj] at this; simp at this
      · exact (h2.1.upd a' ha').2
    have htm' := ((htm.step hst.sim hd.step)).put (d := o.dst) hd.val
    have hst' := hst.trans hd.step
    rw [e1] at htm'
    rw [e2] at hst'
    refine ih (listed.setIfInBounds j true) w' B' β' (a.put o.dst v) (by simpa using hls) ?_ (fun k hk i hi => ?_) (by rw [hS']; exact hst') (by rw [hS']; exact htm') (fun i hi hS b hb1 hb2 => ?_) (fun b hb => ?_)
    · have := cnt_lt (p := fun i => !listed.getD i false) (q := fun i => !(listed.setIfInBounds j true).getD i false) (fun i hi => by
        rw [hS''] at hi
        simp only [Bool.not_or, Bool.and_eq_true] at hi
        exact hi.1) (j := j) (by simp only [hSj, Bool.not_false]) (by rw [hS'']; simp) os.length hlt
      omega
    · rw [hS''] at hk ⊢
      simp only [Bool.or_eq_true, beq_iff_eq] at hk ⊢
      rcases hk with hk | rfl
      · exact .inl (hcl k hk i hi)
      · exact .inl (hbj i hi)
    · rw [hS''] at hS
      simp only [Bool.or_eq_false_iff, beq_eq_false_iff_ne] at hS
      have hf := hfr i hi hS.1 b hb1 hb2
      have hout : b < nid0 + 64 * j ∨ nid0 + 64 * j + 64 ≤ b := by
        rcases Nat.lt_or_gt_of_ne hS.2 with h2 | h2 <;> omega
      refine ⟨by rw [hd.frame b hf.2 hout]; exact hf.1, ?_⟩
      rw [hS', ← e2]; exact upd_fresh hu hf.2 hout
    · have hf := hfr2 b hb
      have hout : b < nid0 + 64 * j ∨ nid0 + 64 * j + 64 ≤ b := by omega
      refine ⟨by rw [hd.frame b hf.2 hout]; exact hf.1, ?_⟩
      rw [hS', ← e2]; exact upd_fresh hu hf.2 hout
end
end Go.Pm
