/-
  The evaluator's limit: calls as deep as need be.
-/
import Derived.Test.YtjkkigeefoncmaaGreatPmSound
set_option linter.unusedVariables false
set_option linter.unusedSimpArgs false
namespace Go.Pm
open Go

def Ev (P : Nat → Prop) : Prop := ∃ n, ∀ m, n ≤ m → P m
theorem Ev.of {P : Nat → Prop} (h : ∀ m, P m) : Ev P := ⟨0, fun m _ => h m⟩
theorem Ev.mono {P Q : Nat → Prop} (h : Ev P) (hq : ∀ m, P m → Q m) : Ev Q := h.elim fun n hn => ⟨n, fun m hm => hq m (hn m hm)⟩
theorem Ev.both {P Q R : Nat → Prop} (h : Ev P) (k : Ev Q) (hr : ∀ m, P m → Q m → R m) : Ev R := by
  obtain ⟨n, hn⟩ := h; obtain ⟨n', hn'⟩ := k
  exact ⟨max n n', fun m hm => hr m (hn m (by omega)) (hn' m (by omega))⟩

/-- What L answers, the C's answer from some place on. -/
structure App (L : Callee) (C : Nat → Callee) : Prop where
  p : ∀ f as r, L.pureC f as = some r → Ev fun m => (C m).pureC f as = some r
  r : ∀ f n as h nx x, L.refC f n as h nx = some x → Ev fun m => (C m).refC f n as h nx = some x

section
variable {L : Callee} {C : Nat → Callee} {E : Env} (hA : App L C)
include hA
theorem evCall_app {rd : Rd} {nid f : Nat} {args : List PV} {e : Eff} (h : evCall E L rd nid f args = some e) : Ev fun m => evCall E (C m) rd nid f args = some e := by
  by_cases hr : E.isRef f = true
  · simp only [evCall, hr, ↓reduceIte] at h ⊢
    generalize dedup (boxes rd (order rd (dedup (idss args) []) [])) (dedup (idss args) []) = roots at h ⊢
    cases hc : L.refC f roots.length (rens (fun a => pos (order rd roots []) a 0) args) (picks rd (fun a => pos (order rd roots []) a 0) (order rd roots []) 0) (order rd roots []).length with
    | none => rw [hc] at h; simp at h
    | some x => rw [hc] at h; exact (hA.r _ _ _ _ _ _ hc).mono fun m hm => by rw [hm]; exact h
  · simp only [evCall, hr] at h ⊢
    cases hs : snaps rd (E.keepNil f) snapFuel args with
    | none => rw [hs] at h; simp at h
    | some p =>
      rw [hs] at h
      obtain ⟨as, foot⟩ := p
      simp only [Bool.false_eq_true, ↓reduceIte] at h ⊢
      cases hc : L.pureC f as with
      | none => rw [hc] at h; simp at h
      | some x => rw [hc] at h; exact (hA.p _ _ _ hc).mono fun m hm => by rw [hm]; exact h
theorem evOp_app {rd : Rd} {nid : Nat} {tm : List PV} {o : Oper} {e : Eff} (h : evOp E L rd nid tm o = some e) : Ev fun m => evOp E (C m) rd nid tm o = some e := by
  unfold evOp at h ⊢
  split at h
  · split at h
    · exact evCall_app hA h
    · simp at h
  · exact .of fun m => h
theorem stepOp_app {ops : List Oper} {rd : Rd} {nid : Nat} {tm : List PV} {o : Oper} {e : Eff} (h : stepOp E L ops rd nid tm o = some e) : Ev fun m => stepOp E (C m) ops rd nid tm o = some e := by
  unfold stepOp at h ⊢
  split at h
  · exact evOp_app hA h
  · exact .of fun m => h
  · simp at h
theorem evOps_app {ops : List Oper} : ∀ {r : List Oper} {nid : Nat} {tm : List PV} {hp : List (Nat × PObj)} {x}, evOps E L ops r nid tm hp = some x → Ev fun m => evOps E (C m) ops r nid tm hp = some x
  | [], nid, tm, hp, x, h => .of fun m => h
  | o :: r, nid, tm, hp, x, h => by
    simp only [evOps] at h ⊢
    cases hs : stepOp E L ops (look hp) nid tm o with
    | none => rw [hs] at h; simp at h
    | some e =>
      rw [hs] at h
      simp only at h
      cases hr : evOps E L ops r (nid + 64) (putD tm o.dst e.val) (applyUpd hp e.upd) with
      | none => rw [hr] at h; simp at h
      | some y =>
        rw [hr] at h
        exact (stepOp_app hA hs).both (evOps_app hr) fun m h1 h2 => by rw [h1]; simp only; rw [h2]; exact h
theorem evRegion_app {ops : Array Oper} {draw : Bool} {ps : List (Nat × Nat)} {st st' : St} (h : evRegion E L ops draw ps st = some st') : Ev fun m => evRegion E (C m) ops draw ps st = some st' := by
  unfold evRegion at h ⊢
  cases hr : evOps E L ops.toList ops.toList st.next st.tmps st.heap with
  | none => rw [hr] at h; simp at h
  | some y => rw [hr] at h; exact (evOps_app hA hr).mono fun m h1 => by rw [h1]; exact h
end
theorem iter_app {cl : St → St} {g : St → Option (Ex × St)} {gm : Nat → St → Option (Ex × St)} (hg : ∀ st x, g st = some x → Ev fun m => gm m st = some x) : ∀ {k : Nat} {st : St} {x}, iter cl g k st = some x → Ev fun m => iter cl (gm m) k st = some x
  | 0, st, x, h => by simp [iter] at h
  | k + 1, st, x, h => by
    simp only [iter] at h ⊢
    cases hc : g (cl st) with
    | none => rw [hc] at h; simp at h
    | some y =>
      rw [hc] at h
      obtain ⟨ex, s⟩ := y
      cases ex with
      | normal => exact (hg _ _ hc).both (iter_app hg h) fun m h1 h2 => by rw [h1]; exact h2
      | exit i => exact (hg _ _ hc).mono fun m h1 => by rw [h1]; exact h
      | ret => exact (hg _ _ hc).mono fun m h1 => by rw [h1]; exact h
section
variable {L : Callee} {C : Nat → Callee} {E : Env} (hA : App L C)
include hA
theorem evCode_app {n f nr : Nat} : ∀ {c : Code} {b : Nat} {st : St} {x}, evCode E L n f nr b c st = some x → Ev fun m => evCode E (C m) n f nr b c st = some x := by
  intro c
  induction c with
  | seq x y ihx ihy =>
    intro b st r h
    simp only [evCode] at h ⊢
    cases hc : evCode E L n f nr b x st with
    | none => rw [hc] at h; simp at h
    | some z =>
      rw [hc] at h
      obtain ⟨ex, s⟩ := z
      cases ex with
      | normal => exact (ihx hc).both (ihy h) fun m h1 h2 => by rw [h1]; exact h2
      | exit i => exact (ihx hc).mono fun m h1 => by rw [h1]; exact h
      | ret => exact (ihx hc).mono fun m h1 => by rw [h1]; exact h
  | cond c x y ihx ihy =>
    intro b st r h
    simp only [evCode] at h ⊢
    split at h
    · split at h
      · rename_i ht; simp only [ht, ↓reduceIte]; exact ihx h
      · rename_i ht; simp only [ht]; exact ihy h
    · simp at h
  | block id x ih =>
    intro b st r h
    simp only [evCode] at h ⊢
    cases hc : evCode E L n f nr id x st with
    | none => rw [hc] at h; simp at h
    | some z => rw [hc] at h; exact (ih hc).mono fun m h1 => by rw [h1]; exact h
  | loop x ih =>
    intro b st r h
    simp only [evCode] at h ⊢
    exact iter_app (fun st x hx => ih hx) h
  | region id ops draw =>
    intro b st r h
    simp only [evCode, Option.map_eq_some_iff] at h ⊢
    obtain ⟨s, h1, h2⟩ := h
    exact (evRegion_app hA h1).mono fun m hm => ⟨s, hm, h2⟩
  | _ =>
    intro b st r h
    exact .of fun m => h
theorem runBody_app {n f nr : Nat} {args : List PV} {hp : List (Nat × PObj)} {nx : Nat} {x} (h : runBody E L n f nr args hp nx = some x) : Ev fun m => runBody E (C m) n f nr args hp nx = some x := by
  unfold runBody at h ⊢
  split at h
  · rename_i fn hfn
    split at h
    · rename_i c hc
      cases he : evCode E L n f nr 0 c ⟨args ++ List.replicate (fn.ntmps - args.length) .undef, hp, nx⟩ with
      | none => rw [he] at h; simp at h
      | some z => rw [he] at h; exact (evCode_app hA he).mono fun m h1 => by rw [h1]; exact h
    · simp at h
  · simp at h
theorem level_app : App (level E L) fun m => level E (C m) where
  p := fun f as r h => by
    simp only [level] at h ⊢
    split at h
    · exact .of fun m => h
    · rename_i hp
      cases hb : runBody E L loopMax f 0 as [] 0 with
      | none => rw [hb] at h; simp at h
      | some z => rw [hb] at h; exact (runBody_app hA hb).mono fun m h1 => by rw [h1]; exact h
  r := fun f n as hp nx x h => by
    simp only [level] at h ⊢
    split at h
    · exact .of fun m => h
    · generalize normArgs hp nx as (E.norm f) = na at h ⊢
      obtain ⟨h1, nx1⟩ := na
      simp only at h ⊢
      cases hb : runBody E L loopMax f n (rens (fun a => pos (order (look h1) (upto n) []) a 0) as) (picks (look h1) (fun a => pos (order (look h1) (upto n) []) a 0) (order (look h1) (upto n) []) 0) (order (look h1) (upto n) []).length with
      | none => rw [hb] at h; simp at h
      | some z => rw [hb] at h; exact (runBody_app hA hb).mono fun m h1 => by rw [h1]; exact h
end

/-- D answers all that C answers. -/
def LE (C D : Callee) : Prop := App C fun _ => D
theorem LE.p {C D : Callee} (h : LE C D) {f as r} (hc : C.pureC f as = some r) : D.pureC f as = some r := (App.p h f as r hc).elim fun n hn => hn n (Nat.le_refl _)
theorem LE.r {C D : Callee} (h : LE C D) {f n as hp nx x} (hc : C.refC f n as hp nx = some x) : D.refC f n as hp nx = some x := (App.r h f n as hp nx x hc).elim fun n hn => hn n (Nat.le_refl _)
theorem LE.of {C D : Callee} (h1 : ∀ f as r, C.pureC f as = some r → D.pureC f as = some r) (h2 : ∀ f n as hp nx x, C.refC f n as hp nx = some x → D.refC f n as hp nx = some x) : LE C D :=
  ⟨fun f as r h => .of fun _ => h1 f as r h, fun f n as hp nx x h => .of fun _ => h2 f n as hp nx x h⟩
theorem LE.level {C D : Callee} {E : Env} (h : LE C D) : LE (level E C) (level E D) := level_app h
theorem LE.refl (C : Callee) : LE C C := .of (fun _ _ _ h => h) fun _ _ _ _ _ _ h => h
theorem LE.trans {C D F : Callee} (h : LE C D) (k : LE D F) : LE C F := .of (fun _ _ _ hc => k.p (h.p hc)) fun _ _ _ _ _ _ hc => k.r (h.r hc)

theorem run_step (E : Env) : ∀ n, LE (run E n) (run E (n + 1))
  | 0 => .of (fun f as r h => by simp [run] at h) fun f n as hp nx x h => by simp [run] at h
  | n + 1 => (run_step E n).level
theorem run_mono (E : Env) {n m : Nat} (h : n ≤ m) : LE (run E n) (run E m) := by
  induction m with
  | zero => rw [Nat.le_zero.1 h]; exact .refl _
  | succ m ih =>
    rcases Nat.lt_or_ge n (m + 1) with h1 | h1
    · exact (ih (by omega)).trans (run_step E m)
    · rw [show n = m + 1 by omega]; exact .refl _

open Classical in
/-- Calls of whatever depth. -/
noncomputable def lim (E : Env) : Callee where
  pureC f as := if h : ∃ n r, (run E n).pureC f as = some r then some (Classical.choose (Classical.choose_spec h)) else none
  refC f k as hp nx := if h : ∃ n x, (run E n).refC f k as hp nx = some x then some (Classical.choose (Classical.choose_spec h)) else none

theorem lim_p {E : Env} {f as r} : (lim E).pureC f as = some r ↔ ∃ n, (run E n).pureC f as = some r := by
  unfold lim
  constructor
  · intro h
    simp only at h
    split at h
    · rename_i hx
      simp at h
      exact ⟨_, by rw [← h]; exact Classical.choose_spec (Classical.choose_spec hx)⟩
    · simp at h
  · rintro ⟨n, h⟩
    have hx : ∃ n r, (run E n).pureC f as = some r := ⟨n, r, h⟩
    simp only [hx, ↓reduceDIte]
    have h1 := Classical.choose_spec (Classical.choose_spec hx)
    rcases Nat.le_total n (Classical.choose hx) with hl | hl
    · have := (run_mono E hl).p h; rw [h1] at this; exact this
    · have := (run_mono E hl).p h1; rw [h] at this; simp only [Option.some.injEq] at this ⊢; exact this.symm
theorem lim_r {E : Env} {f k as hp nx x} : (lim E).refC f k as hp nx = some x ↔ ∃ n, (run E n).refC f k as hp nx = some x := by
  unfold lim
  constructor
  · intro h
    simp only at h
    split at h
    · rename_i hx
      have h1 := Classical.choose_spec (Classical.choose_spec hx)
      exact ⟨_, h1.trans (by rw [Option.some.inj h])⟩
    · simp at h
  · rintro ⟨n, h⟩
    have hx : ∃ n x, (run E n).refC f k as hp nx = some x := ⟨n, x, h⟩
    simp only [hx, ↓reduceDIte]
    have h1 := Classical.choose_spec (Classical.choose_spec hx)
    rcases Nat.le_total n (Classical.choose hx) with hl | hl
    · have := (run_mono E hl).r h; rw [h1] at this; exact this
    · have := (run_mono E hl).r h1; rw [h] at this; simp only [Option.some.injEq] at this ⊢; exact this.symm

theorem run_lim (E : Env) (n : Nat) : LE (run E n) (lim E) := .of (fun f as r h => lim_p.2 ⟨n, h⟩) fun f k as hp nx x h => lim_r.2 ⟨n, h⟩
theorem lim_app (E : Env) : App (lim E) (run E) :=
  ⟨fun f as r h => by obtain ⟨n, hn⟩ := lim_p.1 h; exact ⟨n, fun m hm => (run_mono E hm).p hn⟩,
   fun f k as hp nx x h => by obtain ⟨n, hn⟩ := lim_r.1 h; exact ⟨n, fun m hm => (run_mono E hm).r hn⟩⟩
/-- The limit is a level above itself. -/
theorem lim_level_le (E : Env) : LE (level E (lim E)) (lim E) :=
  .of (fun f as r h => by obtain ⟨n, hn⟩ := (level_app (E := E) (lim_app E)).p f as r h; exact lim_p.2 ⟨n + 1, hn n (Nat.le_refl _)⟩)
    fun f k as hp nx x h => by obtain ⟨n, hn⟩ := (level_app (E := E) (lim_app E)).r f k as hp nx x h; exact lim_r.2 ⟨n + 1, hn n (Nat.le_refl _)⟩
theorem le_lim_level (E : Env) : LE (lim E) (level E (lim E)) :=
  .of (fun f as r h => by
      obtain ⟨n, hn⟩ := lim_p.1 h
      have := (run_mono E (Nat.le_add_right n 1)).p hn
      exact (run_lim E n).level.p this)
    fun f k as hp nx x h => by
      obtain ⟨n, hn⟩ := lim_r.1 h
      have := (run_mono E (Nat.le_add_right n 1)).r hn
      exact (run_lim E n).level.r this
theorem opt_ext {α : Type} {a b : Option α} (h : ∀ x, a = some x → b = some x) (k : ∀ x, b = some x → a = some x) : a = b := by
  cases a with
  | none => cases b with
    | none => rfl
    | some y => exact absurd (k y rfl) (by simp)
  | some x => exact (h x rfl).symm
theorem lim_fix_p (E : Env) (f : Nat) (as : List PV) : (lim E).pureC f as = (level E (lim E)).pureC f as :=
  opt_ext (fun _ h => (le_lim_level E).p h) fun _ h => (lim_level_le E).p h
theorem lim_fix_r (E : Env) (f k : Nat) (as : List PV) (hp : List (Nat × PObj)) (nx : Nat) : (lim E).refC f k as hp nx = (level E (lim E)).refC f k as hp nx :=
  opt_ext (fun _ h => (le_lim_level E).r h) fun _ h => (lim_level_le E).r h

/-- A callee that is a level above itself, but for some functions. -/
structure Fix (E : Env) (X : Nat → Bool) (C : Callee) : Prop where
  p : ∀ f, X f = false → ∀ as, C.pureC f as = (level E C).pureC f as
  r : ∀ f, X f = false → ∀ k as hp nx, C.refC f k as hp nx = (level E C).refC f k as hp nx
theorem lim_fix (E : Env) (X : Nat → Bool) : Fix E X (lim E) := ⟨fun f _ as => lim_fix_p E f as, fun f _ k as hp nx => lim_fix_r E f k as hp nx⟩

/-- The same with one more function that is answered at once. -/
def withP (E : Env) (F : Nat) (p : List PV → Option PV) : Env := { E with primP := fun f => if f = F then some p else E.primP f }

section
variable {E : Env} {F : Nat} {p : List PV → Option PV} {C : Callee}
theorem evOps_w {ops : List Oper} : ∀ (r : List Oper) (nid : Nat) (tm : List PV) (h : List (Nat × PObj)), evOps (withP E F p) C ops r nid tm h = evOps E C ops r nid tm h
  | [], _, _, _ => rfl
  | o :: r, nid, tm, h => by
    have h1 : stepOp (withP E F p) C ops (look h) nid tm o = stepOp E C ops (look h) nid tm o := rfl
    simp only [evOps, h1, evOps_w r]
theorem evRegion_w (ops : Array Oper) (draw : Bool) (ps : List (Nat × Nat)) (st : St) : evRegion (withP E F p) C ops draw ps st = evRegion E C ops draw ps st := by
  simp only [evRegion, evOps_w]
theorem evCode_w (n f nr : Nat) : ∀ (c : Code) (b : Nat), evCode (withP E F p) C n f nr b c = evCode E C n f nr b c := by
  intro c
  induction c with
  | seq x y ihx ihy => intro b; funext st; simp only [evCode, ihx, ihy]
  | cond o x y ihx ihy => intro b; funext st; simp only [evCode, ihx, ihy]
  | block id x ih => intro b; funext st; simp only [evCode, ih]
  | loop x ih => intro b; funext st; simp only [evCode, ih]; rfl
  | region id ops draw => intro b; funext st; simp only [evCode, evRegion_w]; rfl
  | _ => intro b; rfl
theorem runBody_w (n f nr : Nat) (args : List PV) (h : List (Nat × PObj)) (nx : Nat) : runBody (withP E F p) C n f nr args h nx = runBody E C n f nr args h nx := by
  simp only [runBody, evCode_w]; rfl
end
theorem withP_level {E : Env} {F : Nat} {p : List PV → Option PV} {C : Callee} {f : Nat} (hf : f ≠ F) (as : List PV) : (level (withP E F p) C).pureC f as = (level E C).pureC f as := by
  simp only [level, runBody_w]
  simp only [withP, if_neg hf]
theorem withP_level_r {E : Env} {F : Nat} {p : List PV → Option PV} {C : Callee} (f k : Nat) (as : List PV) (hp : List (Nat × PObj)) (nx : Nat) : (level (withP E F p) C).refC f k as hp nx = (level E C).refC f k as hp nx := by
  simp only [level, runBody_w]; rfl
theorem withP_prim {E : Env} {F : Nat} {p : List PV → Option PV} {C : Callee} (as : List PV) : (level (withP E F p) C).pureC F as = p as := by
  simp only [level, withP, ↓reduceIte]

open Classical in
/-- A function that calls itself, out of one round of it. 'enc' and 'dec' are told by the shape of arguments and results. -/
theorem rec_ok {A R : Type} {E : Env} {F : Nat} (encA : A → List PV) (encR : R → PV) (Body : (A → Option R) → A → Option R)
    (hF : E.primP F = none) (hA : ∀ a b, encA a = encA b → a = b)
    (hR : ∀ a b, encR a = encR b → a = b)
    (walk : ∀ (C : Callee) (g : A → Option R), Fix E (fun f => f == F) C → (∀ a, C.pureC F (encA a) = (g a).map encR) → ∀ a, (level E C).pureC F (encA a) = (Body g a).map encR) :
    ∃ (g : A → Option R) (p : List PV → Option PV), (∀ a, p (encA a) = (g a).map encR) ∧ LE (lim (withP E F p)) (lim E) ∧ ∀ a, g a = Body g a := by
  let g : A → Option R := fun a => if h : ∃ r, (lim E).pureC F (encA a) = some (encR r) then some (Classical.choose h) else none
  have hg : ∀ a r, (lim E).pureC F (encA a) = some (encR r) → g a = some r := fun a r h => by
    have hx : ∃ r, (lim E).pureC F (encA a) = some (encR r) := ⟨r, h⟩
    have h1 := Classical.choose_spec hx
    have : g a = some (Classical.choose hx) := by simp only [g, hx, ↓reduceDIte]
    rw [this]
    exact congrArg some (hR _ _ (Option.some.inj (h1.symm.trans h)))
  have hg' : ∀ a r, g a = some r → (lim E).pureC F (encA a) = some (encR r) := fun a r h => by
    by_cases hx : ∃ r, (lim E).pureC F (encA a) = some (encR r)
    · have : g a = some (Classical.choose hx) := by simp only [g, hx, ↓reduceDIte]
      rw [this] at h
      simp only [Option.some.injEq] at h
      rw [← h]; exact Classical.choose_spec hx
    · have : g a = none := by simp only [g, hx, ↓reduceDIte]
      rw [this] at h; simp at h
  let p : List PV → Option PV := fun as => if h : ∃ a, encA a = as then (g (Classical.choose h)).map encR else (lim E).pureC F as
  have hp : ∀ a, p (encA a) = (g a).map encR := fun a => by
    have hx : ∃ b, encA b = encA a := ⟨a, rfl⟩
    have h1 := Classical.choose_spec hx
    have : p (encA a) = (g (Classical.choose hx)).map encR := by simp only [p, hx, ↓reduceDIte]
    rw [this, hA _ _ h1]
  have hpl : ∀ as r, p as = some r → (lim E).pureC F as = some r := fun as r h => by
    by_cases hx : ∃ a, encA a = as
    · obtain ⟨a, rfl⟩ := hx
      rw [hp] at h
      cases hga : g a with
      | none => rw [hga] at h; simp at h
      | some x => rw [hga] at h; simp at h; subst h; exact hg' a x hga
    · have : p as = (lim E).pureC F as := by simp only [p, hx, ↓reduceDIte]
      rw [this] at h; exact h
  let E' := withP E F p
  -- the limit with F at once: a fixed point but for F
  have fix' : Fix E (fun f => f == F) (lim E') := ⟨fun f hf as => by
      have hne : f ≠ F := by simpa using hf
      rw [lim_fix_p E', withP_level hne], fun f hf k as hp nx => by rw [lim_fix_r E', withP_level_r]⟩
  have atF : ∀ a, (lim E').pureC F (encA a) = (g a).map encR := fun a => by rw [lim_fix_p E', withP_prim, hp]
  have W := walk (lim E') g fix' atF
  -- it answers no more than the limit
  have up : ∀ n, LE (run E' n) (lim E) := fun n => by
    induction n with
    | zero => exact .of (fun f as r h => by simp [run] at h) fun f k as hp nx x h => by simp [run] at h
    | succ n ih =>
      refine .of (fun f as r h => ?_) fun f k as hp' nx x h => ?_
      · simp only [run] at h
        by_cases hf : f = F
        · subst hf
          rw [withP_prim] at h
          exact hpl as r h
        · rw [withP_level hf] at h
          exact (lim_level_le E).p (ih.level.p h)
      · simp only [run] at h
        rw [withP_level_r] at h
        exact (lim_level_le E).r (ih.level.r h)
  have upL : LE (lim E') (lim E) := .of (fun f as r h => by obtain ⟨n, hn⟩ := lim_p.1 h; exact (up n).p hn) fun f k as hp' nx x h => by obtain ⟨n, hn⟩ := lim_r.1 h; exact (up n).r hn
  -- and no less
  have down : ∀ n, (∀ f as r, (f = F → ∃ a, encA a = as) → (run E n).pureC f as = some r → (lim E').pureC f as = some r) ∧ LE (run E n) (lim E') := fun n => by
    induction n with
    | zero => exact ⟨fun f as r _ h => by simp [run] at h, .of (fun f as r h => by simp [run] at h) fun f k as hp nx x h => by simp [run] at h⟩
    | succ n ih =>
      have key : ∀ f as r, (run E (n + 1)).pureC f as = some r → (lim E').pureC f as = some r := fun f as r h => by
        by_cases hf : f = F
        · subst hf
          by_cases hx : ∃ a, encA a = as
          · obtain ⟨a, rfl⟩ := hx
            have h1 : (level E (lim E')).pureC f (encA a) = some r := ih.2.level.p h
            rw [W] at h1
            have h2 : ∃ x, r = encR x := by
              cases hb : Body g a with
              | none => rw [hb] at h1; simp at h1
              | some x => rw [hb] at h1; simp at h1; exact ⟨x, h1.symm⟩
            obtain ⟨x, rfl⟩ := h2
            rw [atF, hg a x (lim_p.2 ⟨n + 1, h⟩)]; rfl
          · have : p as = (lim E).pureC f as := by simp only [p, hx, ↓reduceDIte]
            rw [lim_fix_p E', withP_prim, this]
            exact lim_p.2 ⟨n + 1, h⟩
        · have h1 : (level E (lim E')).pureC f as = some r := ih.2.level.p h
          rw [lim_fix_p E', withP_level hf]; exact h1
      refine ⟨fun f as r _ h => key f as r h, .of key fun f k as hp' nx x h => ?_⟩
      have h1 : (level E (lim E')).refC f k as hp' nx = some x := ih.2.level.r h
      rw [lim_fix_r E', withP_level_r]; exact h1
  have downL : LE (lim E) (lim E') := .of (fun f as r h => by obtain ⟨n, hn⟩ := lim_p.1 h; exact (down n).2.p hn) fun f k as hp' nx x h => by obtain ⟨n, hn⟩ := lim_r.1 h; exact (down n).2.r hn
  have main : ∀ a, (lim E).pureC F (encA a) = (g a).map encR := fun a => by
    rw [← atF]
    exact opt_ext (fun _ h => downL.p h) fun _ h => upL.p h
  have fixE : Fix E (fun f => f == F) (lim E) := lim_fix E _
  refine ⟨g, p, hp, upL, fun a => ?_⟩
  have h1 := walk (lim E) g fixE main a
  rw [← lim_fix_p, main] at h1
  cases hga : g a with
  | none => rw [hga] at h1; cases hb : Body g a with
    | none => rfl
    | some y => rw [hb] at h1; simp at h1
  | some x => rw [hga] at h1; cases hb : Body g a with
    | none => rw [hb] at h1; simp at h1
    | some y => rw [hb] at h1; simp at h1; rw [hR _ _ h1]
end Go.Pm
