/-
  What an operation looks at, and where it writes.
-/
import Derived.Test.YtjkkigeefoncmaaGreatPmExp
set_option linter.unusedVariables false
set_option linter.unusedSimpArgs false
namespace Go.Pm
open Go

section
variable {w : World} {rd rd' : Rd} {tm tm' : List PV} {tab : Nat → Option TI}

def Same (rd rd' : Rd) (l : List Nat) : Prop := ∀ a ∈ l, rd' a = rd a
theorem Same.left {xs ys : List Nat} (h : Same rd rd' (xs ++ ys)) : Same rd rd' xs := fun a ha => h a (List.mem_append_left _ ha)
theorem Same.right {xs ys : List Nat} (h : Same rd rd' (xs ++ ys)) : Same rd rd' ys := fun a ha => h a (List.mem_append_right _ ha)
theorem Same.head {x : Nat} {ys : List Nat} (h : Same rd rd' (x :: ys)) : rd' x = rd x := h x (by simp)
theorem Same.tail {x : Nat} {ys : List Nat} (h : Same rd rd' (x :: ys)) : Same rd rd' ys := fun a ha => h a (by simp [ha])

/-! ### the frame -/
def OpndSame (tm tm' : List PV) (x : Operand) : Prop := ∀ t, x = .tmp t → nth tm' t = nth tm t

theorem opnd_same {x : Operand} (h : OpndSame tm tm' x) : opnd tm' x = opnd tm x := by
  cases x with
  | tmp t => simp [opnd, h t rfl]
  | _ => rfl
theorem opndl_same : ∀ {xs : List Operand}, (∀ x ∈ xs, OpndSame tm tm' x) → opndl tm' xs = opndl tm xs
  | [], _ => rfl
  | x :: r, h => by simp only [opndl]; rw [opnd_same (h x (by simp)), opndl_same fun y hy => h y (by simp [hy])]
theorem opnds_same : ∀ {xs : List (Nat × Operand)}, (∀ x ∈ xs, OpndSame tm tm' x.2) → opnds tm' xs = opnds tm xs
  | [], _ => rfl
  | (i, x) :: r, h => by simp only [opnds]; rw [opnd_same (h (i, x) (by simp)), opnds_same fun y hy => h y (by simp [hy])]
theorem opndp_same : ∀ {xs : List (Nat × Operand)}, (∀ x ∈ xs, OpndSame tm tm' x.2) → opndp tm' xs = opndp tm xs
  | [], _ => rfl
  | (i, x) :: r, h => by simp only [opndp]; rw [opnd_same (h (i, x) (by simp)), opndp_same fun y hy => h y (by simp [hy])]

theorem basic_tm {nid : Nat} {o : Oper} (h : ∀ x ∈ o.op.operands, OpndSame tm tm' x) : evBasic tab rd nid tm' o = evBasic tab rd nid tm o := by
  unfold evBasic
  cases hop : o.op <;> rw [hop] at h <;> simp only [Op.operands] at h <;> try rfl
  case move x => simp only; rw [opnd_same (h x (by simp))]
  case assign x => simp only; rw [opnd_same (h x (by simp))]
  case pick c a b => simp only; rw [opnd_same (h c (by simp)), opnd_same (h a (by simp)), opnd_same (h b (by simp))]
  case box t x => simp only; rw [opnd_same (h x (by simp))]
  case build t ps => simp only; rw [opndp_same fun y hy => h y.2 (by simp; exact ⟨y.1, by simpa using hy⟩)]
  case buildSlice t n ps => simp only; rw [opnds_same fun y hy => h y.2 (by simp; exact ⟨y.1, by simpa using hy⟩)]
  case load t x => simp only; rw [opnd_same (h x (by simp))]
  case store t a v => simp only; rw [opnd_same (h a (by simp)), opnd_same (h v (by simp))]
  case nilCheck x => simp only; rw [opnd_same (h x (by simp))]
  case binOp op t x y q => simp only; rw [opnd_same (h x (by simp)), opnd_same (h y (by simp))]
  case unOp op t x => simp only; rw [opnd_same (h x (by simp))]
  case convert s d x => simp only; rw [opnd_same (h x (by simp))]
  case makeFunc fn first caps => cases fn <;> simp only; rw [opndl_same fun y hy => h y (by simp; exact .inr (by simpa using hy))]
  case makeSlice t l c => simp only; rw [opnd_same (h l (by simp)), opnd_same (h c (by simp))]
  case slice t x lo hi mx =>
    cases mx with
    | some m => rfl
    | none =>
      simp only
      rw [opnd_same (h x (by simp))]
      cases lo <;> cases hi <;> simp only
      · rename_i y; rw [opnd_same (h y (by simp))]
      · rename_i y; rw [opnd_same (h y (by simp))]
      · rename_i y z; rw [opnd_same (h y (by simp)), opnd_same (h z (by simp))]
  case fieldAddr s x f => simp only; rw [opnd_same (h x (by simp))]
  case field s x f => simp only; rw [opnd_same (h x (by simp))]
  case indexAddr t x i => simp only; rw [opnd_same (h x (by simp)), opnd_same (h i (by simp))]
  case index t x i => simp only; rw [opnd_same (h x (by simp)), opnd_same (h i (by simp))]
  case extract x i => simp only; rw [opnd_same (h x (by simp))]
  case call c =>
    obtain ⟨callee, args, ats⟩ := c
    cases callee with
    | builtin b => simp only; rw [opndl_same fun y hy => h y (by simp [Call.operands]; simpa using hy)]
    | _ => rfl

theorem settle_same : ∀ {ps qs : List PV} {l : List Nat}, settle rd ps = some (qs, l) → Same rd rd' l → settle rd' ps = some (qs, l)
  | [], qs, l, h, _ => by simpa [settle] using h
  | p :: r, qs, l, h, hl => by
    cases p with
    | own a k off len =>
      simp only [settle] at h ⊢
      split at h
      · rename_i k' xs flat z r' l' ha hr
        split at h <;> simp at h
        rename_i hc
        obtain ⟨rfl, rfl⟩ := h
        rw [hl.head, ha, settle_same hr hl.tail]
        simp [hc]
      · simp at h
    | nils =>
      simp only [settle] at h ⊢
      split at h
      · rename_i r' l' hr
        simp at h; obtain ⟨rfl, rfl⟩ := h
        rw [settle_same hr hl]
      · simp at h
    | lit xs fl =>
      simp only [settle] at h ⊢
      split at h
      · rename_i r' l' hr
        simp at h; obtain ⟨rfl, rfl⟩ := h
        rw [settle_same hr hl]
      · simp at h
    | _ =>
      simp only [settle] at h ⊢
      split at h
      · rename_i r' l' hr
        split at h <;> simp at h
        rename_i hp
        obtain ⟨rfl, rfl⟩ := h
        rw [settle_same hr hl]
        simp [hp]
      · simp at h

theorem freezes_same : ∀ {l : List Nat}, Same rd rd' l → freezes rd' l = freezes rd l
  | [], _ => rfl
  | a :: r, h => by simp only [freezes]; rw [h.head, freezes_same h.tail]

theorem freezes_in : ∀ {l : List Nat} {x : Nat × Option PObj}, x ∈ freezes rd l → x.1 ∈ l ∧ (∃ o, rd x.1 = some o) ∧ ∃ o, x.2 = some o
  | [], x, h => by simp [freezes] at h
  | a :: r, x, h => by
    simp only [freezes] at h
    split at h
    · rename_i k xs fl z ha
      rcases List.mem_cons.1 h with rfl | h
      · exact ⟨by simp, ⟨_, ha⟩, _, rfl⟩
      · have := freezes_in h; exact ⟨by simp [this.1], this.2⟩
    · have := freezes_in h; exact ⟨by simp [this.1], this.2⟩

theorem settleAll_same {size : Nat} : ∀ {ps : List PV} {rows : List (List PV)} {l : List Nat} {fl : Bool}, settleAll rd size ps = some (rows, l, fl) → Same rd rd' l → settleAll rd' size ps = some (rows, l, fl)
  | [], rows, l, fl, h, _ => by simpa [settleAll] using h
  | p :: r, rows, l, fl, h, hl => by
    simp only [settleAll] at h ⊢
    split at h
    · rename_i cs l1 r' l2 fl2 hc hr
      split at h <;> simp at h
      rename_i hs
      obtain ⟨rfl, rfl, rfl⟩ := h
      cases hcc : cellsOf p with
      | none => rw [hcc] at hc; simp at hc
      | some q =>
        rw [hcc] at hc
        simp only [Option.bind_some] at hc ⊢
        rw [settle_same hc hl.left, settleAll_same hr hl.right]
        simp [hs]
    · simp at h

theorem src_same {size : Nat} {x : PV} {new : List (List PV)} {nf : Bool} {l : List Nat} (h : srcOf rd size x = some (new, nf, l)) (hl : Same rd rd' l) : srcOf rd' size x = some (new, nf, l) := by
  cases x with
  | own a k off len =>
    simp only [srcOf] at h ⊢
    split at h
    · rename_i k' xs fl z ha
      split at h <;> simp at h
      rename_i hc
      obtain ⟨rfl, rfl, rfl⟩ := h
      rw [hl.head, ha]; simp [hc]
    · simp at h
  | _ => exact h

/-- Where an operation writes. -/
def UpdOK (rd : Rd) (nid : Nat) (e : Eff) : Prop := ∀ x ∈ e.upd, (nid ≤ x.1 ∧ x.1 < nid + 64) ∨ (x.1 ∈ e.foot ∧ (rd x.1 = none → x.2 = none))

theorem UpdOK.none {nid : Nat} {e : Eff} (h : e.upd = []) : UpdOK rd nid e := fun x hx => by rw [h] at hx; simp at hx
theorem UpdOK.new {nid : Nat} {v : PV} {o : PObj} {l : List Nat} : UpdOK rd nid ⟨v, [(nid, some o)], l⟩ := fun x hx => by simp at hx; subst hx; exact .inl ⟨Nat.le_refl _, by simp⟩

theorem load_foot {ti : TI} {p : PV} {e : Eff} (h : loadAt rd ti p = some e) : e.upd = [] ∧ (Same rd rd' e.foot → loadAt rd' ti p = some e) := by
  cases p with
  | ptr a o =>
    simp only [loadAt] at h ⊢
    split at h
    · rename_i cs ha
      have h0 := h
      simp only [Option.map_eq_some_iff] at h0
      obtain ⟨v, hv, rfl⟩ := h0
      exact ⟨rfl, fun hs => by rw [hs.head, ha]; exact h⟩
    · simp at h
  | aptr a i o =>
    simp only [loadAt] at h ⊢
    split at h
    · rename_i k xs fl z ha
      split at h
      · rename_i cs hx
        have h0 := h
        simp only [Option.map_eq_some_iff] at h0
        obtain ⟨v, hv, rfl⟩ := h0
        exact ⟨rfl, fun hs => by rw [hs.head, ha]; simp only [hx]; exact h⟩
      · simp at h
    · simp at h
  | eptr xs i o =>
    simp only [loadAt] at h ⊢
    split at h
    · have h0 := h
      simp only [Option.map_eq_some_iff] at h0
      obtain ⟨v, hv, rfl⟩ := h0
      exact ⟨rfl, fun _ => h⟩
    · simp at h
  | _ => simp [loadAt] at h

theorem store_foot {ti : TI} {p v : PV} {nid : Nat} {e : Eff} (h : storeAt rd ti p v = some e) : UpdOK rd nid e ∧ (Same rd rd' e.foot → storeAt rd' ti p v = some e) := by
  unfold storeAt at h ⊢
  split at h
  · simp at h
  · rename_i vs hvs
    split at h
    · rename_i hsz
      cases p with
      | ptr a o =>
        simp only at h ⊢
        split at h
        · rename_i cs ha
          split at h <;> simp at h
          rename_i hle
          subst h
          exact ⟨fun x hx => by simp at hx; subst hx; exact .inr ⟨by simp, fun hn => by rw [ha] at hn; simp at hn⟩, fun hs => by rw [hs.head, ha]; simp [hle, hsz]⟩
        · simp at h
      | aptr a i o =>
        simp only at h ⊢
        split at h
        · rename_i k xs fl ha
          split at h
          · rename_i cs ws fz hx hst
            split at h <;> simp at h
            rename_i hc
            subst h
            refine ⟨fun x hx => ?_, fun hs => ?_⟩
            · rcases List.mem_append.1 hx with hx | hx
              · have := freezes_in hx; exact .inr ⟨by simp [this.1], fun hn => by obtain ⟨⟨o, ho⟩, _⟩ := this.2; rw [hn] at ho; simp at ho⟩
              · simp at hx; subst hx; exact .inr ⟨by simp, fun hn => by rw [ha] at hn; simp at hn⟩
            · rw [hs.head, ha, settle_same hst hs.tail]
              simp only [hx]
              rw [if_pos hsz, if_pos hc, freezes_same hs.tail]
          · simp at h
        · simp at h
      | _ => simp at h
    · simp at h

theorem append_foot {t : Nat} {s x : PV} {nid : Nat} {e : Eff} (h : appendAt tab rd nid t s x = some e) : UpdOK rd nid e ∧ (Same rd rd' e.foot → appendAt tab rd' nid t s x = some e) := by
  unfold appendAt at h ⊢
  split at h
  · rename_i el _ _ _ _ ht
    split at h
    · simp at h
    · rename_i ti hti
      split at h
      · simp at h
      · rename_i new nf foot hsrc
        split at h
        · rename_i hby
          cases s with
          | nils =>
            simp only at h ⊢
            cases new with
            | nil =>
              simp at h; subst h
              exact ⟨.new, fun hs => by rw [src_same hsrc hs]; simp [hti, hby]⟩
            | cons y ys =>
              simp only at h
              split at h <;> simp at h
              rename_i hb
              subst h
              refine ⟨.new, fun hs => ?_⟩
              rw [src_same hsrc hs]
              simp only [hby, ↓reduceIte]
              rw [if_pos hb]; simp
          | own a k off len =>
            simp only at h ⊢
            split at h
            · rename_i k' xs flat ha
              split at h <;> simp at h
              rename_i hc
              subst h
              refine ⟨fun x hx => ?_, fun hs => ?_⟩
              · simp at hx
                rcases hx with rfl | rfl
                · exact .inr ⟨by simp, fun _ => rfl⟩
                · exact .inl ⟨Nat.le_refl _, by simp⟩
              · rw [src_same hsrc hs.tail]
                simp only [hby, ↓reduceIte]
                rw [hs.head, ha]
                simp only
                rw [if_pos hc]
            · simp at h
          | _ => simp at h
        · simp at h
  · simp at h

theorem copy_foot {t : Nat} {d x : PV} {nid : Nat} {e : Eff} (h : copyAt tab rd t d x = some e) : UpdOK rd nid e ∧ (Same rd rd' e.foot → copyAt tab rd' t d x = some e) := by
  unfold copyAt at h ⊢
  split at h
  · rename_i el _ _ _ _ ht
    split at h
    · simp at h
    · rename_i ti hti
      split at h
      · simp at h
      · rename_i new nf foot hsrc
        cases d with
        | nils =>
          simp at h; subst h
          exact ⟨.none rfl, fun hs => by rw [src_same hsrc hs]⟩
        | own a k off len =>
          simp only at h ⊢
          split at h
          · rename_i k' xs flat ha
            split at h <;> simp at h
            rename_i hc
            subst h
            refine ⟨fun x hx => ?_, fun hs => ?_⟩
            · simp at hx; subst hx; exact .inr ⟨by simp, fun hn => by rw [ha] at hn; simp at hn⟩
            · rw [src_same hsrc hs.tail, hs.head, ha]
              simp only
              rw [if_pos hc]
              simp
          · simp at h
        | _ => simp at h
  · simp at h

theorem clear_foot {t : Nat} {d : PV} {nid : Nat} {e : Eff} (h : clearAt tab rd t d = some e) : UpdOK rd nid e ∧ (Same rd rd' e.foot → clearAt tab rd' t d = some e) := by
  unfold clearAt at h ⊢
  split at h
  · rename_i el _ _ _ _ ht
    split at h
    · rename_i ti hti
      cases d with
      | nils => have := ok_inv h; subst this; exact ⟨.none rfl, fun hs => by simp [hti, ok]⟩
      | own a k off len =>
        simp only at h ⊢
        split at h
        · rename_i k' xs flat ha
          split at h <;> simp at h
          rename_i hc
          subst h
          refine ⟨fun x hx => ?_, fun hs => ?_⟩
          · simp at hx; subst hx; exact .inr ⟨by simp, fun hn => by rw [ha] at hn; simp at hn⟩
          · rw [hs.head, ha]
            simp only
            rw [if_pos hc]
            simp
        · simp at h
      | _ => simp at h
    · simp at h
  · simp at h

theorem builtin_foot {nid : Nat} {b : Builtin} {ts : List Nat} {vs : List PV} {e : Eff} (h : builtinAt tab rd nid b ts vs = some e) : UpdOK rd nid e ∧ (Same rd rd' e.foot → builtinAt tab rd' nid b ts vs = some e) := by
  have pure : e.upd = [] → builtinAt tab rd' nid b ts vs = some e → UpdOK rd nid e ∧ (Same rd rd' e.foot → builtinAt tab rd' nid b ts vs = some e) := fun h1 h2 => ⟨.none h1, fun _ => h2⟩
  unfold builtinAt at h
  split at h
  · have hu : e.upd = [] := by
      split at h
      · split at h
        · simp at h
        · simp only [Option.map_eq_some_iff] at h; obtain ⟨n, _, rfl⟩ := h; rfl
      · have := ok_inv h; subst this; rfl
      · have := ok_inv h; subst this; rfl
      · simp at h
    exact pure hu h
  · rename_i t t' s x
    split at h
    · rename_i ht'
      obtain ⟨h1, h2⟩ := append_foot (rd' := rd') h
      refine ⟨h1, fun hs => ?_⟩
      simp only [builtinAt, ht']
      exact h2 hs
    · simp at h
  · exact copy_foot h
  · exact clear_foot h
  · have hu : e.upd = [] := by simp only [Option.map_eq_some_iff] at h; obtain ⟨n, _, rfl⟩ := h; rfl
    exact pure hu h
  · have hu : e.upd = [] := by simp only [Option.map_eq_some_iff] at h; obtain ⟨n, _, rfl⟩ := h; rfl
    exact pure hu h
  · simp at h

theorem basic_foot {nid : Nat} {o : Oper} {e : Eff} (h : evBasic tab rd nid tm o = some e) : UpdOK rd nid e ∧ (Same rd rd' e.foot → evBasic tab rd' nid tm o = some e) := by
  have pure : e.upd = [] → evBasic tab rd' nid tm o = some e → UpdOK rd nid e ∧ (Same rd rd' e.foot → evBasic tab rd' nid tm o = some e) := fun h1 h2 => ⟨.none h1, fun _ => h2⟩
  have val : ∀ (x : Option PV), x.map (fun v => (⟨v, [], []⟩ : Eff)) = some e → e.upd = [] := fun x hx => by
    simp only [Option.map_eq_some_iff] at hx; obtain ⟨v, _, rfl⟩ := hx; rfl
  have okv : ∀ p : PV, ok p = some e → e.upd = [] := fun p hp => by have := ok_inv hp; subst this; rfl
  unfold evBasic at h
  split at h
  · exact pure (val _ h) (by unfold evBasic; simp only [*])
  · exact pure (val _ h) (by unfold evBasic; simp only [*])
  · rename_i ho
    refine pure ?_ (by unfold evBasic; rw [ho]; exact h)
    split at h
    · exact okv _ h
    · simp at h
  · rename_i t ho
    have h' : evBasic tab rd' nid tm o = some e := by unfold evBasic; rw [ho]; exact h
    split at h
    · simp at h; subst h; exact ⟨.new, fun _ => h'⟩
    · simp at h
  · rename_i t x ho
    have h' : evBasic tab rd' nid tm o = some e := by unfold evBasic; rw [ho]; exact h
    split at h
    · simp at h; subst h; exact ⟨.new, fun _ => h'⟩
    · simp at h
  · rename_i t parts ho
    refine pure ?_ (by unfold evBasic; rw [ho]; exact h)
    split at h
    · simp only [Option.map_eq_some_iff] at h; obtain ⟨v, _, rfl⟩ := h; rfl
    · split at h
      · simp only [Option.map_eq_some_iff] at h; obtain ⟨v, _, rfl⟩ := h; rfl
      · simp at h
    · simp at h
  · rename_i t n parts ho
    split at h
    · rename_i el _ _ _ _ vs ht hvs
      split at h
      · rename_i ti hti
        split at h
        · rename_i hc
          split at h
          · rename_i rows fz flat hset
            simp at h; subst h
            refine ⟨fun x hx => ?_, fun hs => ?_⟩
            · rcases List.mem_append.1 hx with hx | hx
              · have := freezes_in hx; exact .inr ⟨this.1, fun hn => by obtain ⟨⟨o, ho⟩, _⟩ := this.2; rw [hn] at ho; simp at ho⟩
              · simp at hx; subst hx; exact .inl ⟨Nat.le_refl _, by simp⟩
            · unfold evBasic
              rw [ho]
              simp only [ht, hvs, hti, hc, ↓reduceIte]
              have hs' : Same rd rd' fz := hs
              rw [settleAll_same hset hs']
              simp only [freezes_same hs']
          · simp at h
        · simp at h
      · simp at h
    · simp at h
  · rename_i t x ho
    split at h
    · rename_i ti p ht hp
      obtain ⟨h1, h2⟩ := load_foot (rd' := rd') h
      exact ⟨.none h1, fun hs => by unfold evBasic; rw [ho]; simp only [ht, hp]; exact h2 hs⟩
    · simp at h
  · rename_i t x y ho
    split at h
    · rename_i ti p q ht hp hq
      obtain ⟨h1, h2⟩ := store_foot (rd' := rd') (nid := nid) h
      exact ⟨h1, fun hs => by unfold evBasic; rw [ho]; simp only [ht, hp, hq]; exact h2 hs⟩
    · simp at h
  · rename_i x ho
    refine pure ?_ (by unfold evBasic; rw [ho]; exact h)
    split at h
    · exact okv _ h
    · exact okv _ h
    · exact okv _ h
    · exact okv _ h
    · simp at h
  · rename_i op t x y _ ho
    refine pure ?_ (by unfold evBasic; rw [ho]; exact h)
    split at h
    · exact val _ h
    · simp at h
  · rename_i op t x ho
    refine pure ?_ (by unfold evBasic; rw [ho]; exact h)
    split at h
    · exact val _ h
    · simp at h
  · rename_i ho
    refine pure ?_ (by unfold evBasic; rw [ho]; exact h)
    split at h
    · exact okv _ h
    · simp at h
  · rename_i f first caps ho
    refine pure ?_ (by unfold evBasic; rw [ho]; exact h)
    split at h
    · simp only [Option.map_eq_some_iff] at h; obtain ⟨v, _, rfl⟩ := h; rfl
    · simp at h
  · rename_i t l c ho
    have h' : evBasic tab rd' nid tm o = some e := by unfold evBasic; rw [ho]; exact h
    split at h
    · split at h
      · split at h
        · simp at h; subst h; exact ⟨.new, fun _ => h'⟩
        · simp at h
      · simp at h
    · simp at h
  · rename_i t x lo hi ho
    refine pure ?_ (by unfold evBasic; rw [ho]; exact h)
    split at h
    · unfold cutAt at h
      split at h
      · split at h
        · split at h
          · split at h
            · split at h
              · split at h
                · exact okv _ h
                · simp at h
              · simp at h
            · split at h
              · split at h
                · exact okv _ h
                · simp at h
              · simp at h
            · split at h
              · exact okv _ h
              · simp at h
            · exact okv _ h
            · simp at h
          · simp at h
        · simp at h
      · simp at h
    · simp at h
  · rename_i st x f ho
    refine pure ?_ (by unfold evBasic; rw [ho]; exact h)
    split at h
    · unfold fieldAddrAt at h
      split at h
      · split at h
        · split at h
          · simp at h
          · split at h
            · exact okv _ h
            · exact okv _ h
            · exact okv _ h
            · simp at h
        · simp at h
      · simp at h
    · simp at h
  · rename_i st x f ho
    refine pure ?_ (by unfold evBasic; rw [ho]; exact h)
    split at h
    · unfold fieldAt at h
      split at h
      · split at h
        · exact val _ h
        · simp at h
      · simp at h
    · simp at h
  · rename_i t x i ho
    refine pure ?_ (by unfold evBasic; rw [ho]; exact h)
    split at h
    · unfold indexAddrAt at h
      split at h
      · split at h
        · split at h
          · split at h
            · exact okv _ h
            · simp at h
          · split at h
            · split at h
              · split at h
                · exact okv _ h
                · simp at h
              · simp at h
            · simp at h
          · simp at h
        · simp at h
      · split at h
        · split at h
          · split at h
            · exact okv _ h
            · exact okv _ h
            · exact okv _ h
            · simp at h
          · simp at h
        · simp at h
      · simp at h
    · simp at h
  · rename_i t x i ho
    refine pure ?_ (by unfold evBasic; rw [ho]; exact h)
    split at h
    · unfold indexAt at h
      split at h
      · split at h
        · split at h
          · exact okv _ h
          · simp at h
        · simp at h
      · split at h
        · split at h
          · exact val _ h
          · simp at h
        · simp at h
      · simp at h
    · simp at h
  · rename_i x i ho
    refine pure ?_ (by unfold evBasic; rw [ho]; exact h)
    split at h
    · split at h
      · exact okv _ h
      · simp at h
    · simp at h
  · rename_i bi args ats ho
    split at h
    · rename_i vs hvs
      obtain ⟨h1, h2⟩ := builtin_foot (rd' := rd') h
      exact ⟨h1, fun hs => by unfold evBasic; rw [ho]; simp only [hvs]; exact h2 hs⟩
    · simp at h
  · simp at h

theorem noMem_ok {nid : Nat} {o : Oper} {e : Eff} (h : evBasic tab rd nid tm o = some e) (hq : noMem o.op = true) : e.upd = [] ∧ e.foot = [] := by
  have val : ∀ (x : Option PV), x.map (fun v => (⟨v, [], []⟩ : Eff)) = some e → e.upd = [] ∧ e.foot = [] := fun x hx => by
    simp only [Option.map_eq_some_iff] at hx; obtain ⟨v, _, rfl⟩ := hx; exact ⟨rfl, rfl⟩
  have okv : ∀ p : PV, ok p = some e → e.upd = [] ∧ e.foot = [] := fun p hp => by have := ok_inv hp; subst this; exact ⟨rfl, rfl⟩
  unfold evBasic at h
  split at h <;> rename_i ho <;> (try rw [ho] at hq)
  · exact val _ h
  · exact val _ h
  · split at h
    · exact okv _ h
    · simp at h
  · simp [noMem] at hq
  · simp [noMem] at hq
  · split at h
    · simp only [Option.map_eq_some_iff] at h; obtain ⟨v, _, rfl⟩ := h; exact ⟨rfl, rfl⟩
    · split at h
      · simp only [Option.map_eq_some_iff] at h; obtain ⟨v, _, rfl⟩ := h; exact ⟨rfl, rfl⟩
      · simp at h
    · simp at h
  · simp [noMem] at hq
  · simp [noMem] at hq
  · simp [noMem] at hq
  · split at h
    · exact okv _ h
    · exact okv _ h
    · exact okv _ h
    · exact okv _ h
    · simp at h
  · split at h
    · exact val _ h
    · simp at h
  · split at h
    · exact val _ h
    · simp at h
  · split at h
    · exact okv _ h
    · simp at h
  · split at h
    · simp only [Option.map_eq_some_iff] at h; obtain ⟨v, _, rfl⟩ := h; exact ⟨rfl, rfl⟩
    · simp at h
  · simp [noMem] at hq
  · split at h
    · unfold cutAt at h
      repeat' split at h
      all_goals first | exact okv _ h | simp at h
    · simp at h
  · split at h
    · unfold fieldAddrAt at h
      repeat' split at h
      all_goals first | exact okv _ h | simp at h
    · simp at h
  · split at h
    · unfold fieldAt at h
      split at h
      · split at h
        · exact val _ h
        · simp at h
      · simp at h
    · simp at h
  · split at h
    · unfold indexAddrAt at h
      repeat' split at h
      all_goals first | exact okv _ h | simp at h
    · simp at h
  · split at h
    · unfold indexAt at h
      repeat' split at h
      all_goals first | exact okv _ h | exact val _ h | simp at h
    · simp at h
  · split at h
    · split at h
      · exact okv _ h
      · simp at h
    · simp at h
  · split at h
    · unfold builtinAt at h
      split at h
      · split at h
        · split at h
          · simp at h
          · simp only [Option.map_eq_some_iff] at h; obtain ⟨n, _, rfl⟩ := h; exact ⟨rfl, rfl⟩
        · exact okv _ h
        · exact okv _ h
        · simp at h
      · simp [noMem] at hq
      · simp [noMem] at hq
      · simp [noMem] at hq
      · simp only [Option.map_eq_some_iff] at h; obtain ⟨n, _, rfl⟩ := h; exact ⟨rfl, rfl⟩
      · simp only [Option.map_eq_some_iff] at h; obtain ⟨n, _, rfl⟩ := h; exact ⟨rfl, rfl⟩
      · simp at h
    · simp at h
  · simp at h

theorem isLoad_ok {nid : Nat} {o : Oper} {e : Eff} (h : evBasic tab rd nid tm o = some e) (hq : isLoad o.op = true) : e.upd = [] := by
  cases ho : o.op <;> rw [ho] at hq <;> simp [isLoad] at hq
  unfold evBasic at h
  rw [ho] at h
  simp only at h
  split at h
  · exact (load_foot (rd' := rd) h).1
  · simp at h
end
end Go.Pm
