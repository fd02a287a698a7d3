/-
  Arguments as data, results as data and back.
-/
import Derived.Test.YtjkkigeefoncmaaGreatPmSim
set_option linter.unusedVariables false
set_option linter.unusedSimpArgs false
namespace Go.Pm
open Go

section
variable {w w' w'' : World} {B B' B'' : Nat → Prop} {β β' β'' : Map} {rd rd' rd'' rd1 rd2 : Rd}

/-! ### arguments -/
theorem snap_ok (hs : Sim w B β rd) (kn : Bool) : ∀ n : Nat,
    (∀ (p q : PV) (l : List Nat) (v : Value), snap rd kn n p = some (q, l) → V w B β p v →
      (∀ a ∈ l, ∃ o, rd a = some o) ∧ ∀ B' : Nat → Prop, (∀ b, B b → B' b) → (∀ a ∈ l, ∀ m, β a = some m → B' m.block) → V w B' (fun _ => none) q v) ∧
    (∀ (ps qs : List PV) (l : List Nat) (vs : List Value), snaps rd kn n ps = some (qs, l) → Vs w B β ps vs →
      (∀ a ∈ l, ∃ o, rd a = some o) ∧ ∀ B' : Nat → Prop, (∀ b, B b → B' b) → (∀ a ∈ l, ∀ m, β a = some m → B' m.block) → Vs w B' (fun _ => none) qs vs)
  | 0 => ⟨fun p q l v h _ => by simp [snap] at h, fun ps qs l vs h _ => by simp [snaps] at h⟩
  | n + 1 => by
    obtain ⟨ih1, ih2⟩ := snap_ok hs kn n
    refine ⟨fun p q l v h hv => ?_, fun ps qs l vs h hv => ?_⟩
    · have simple : (∀ (B' : Nat → Prop), (∀ b, B b → B' b) → V w B' (fun _ => none) q v) → l = [] → (∀ a ∈ l, ∃ o, rd a = some o) ∧ ∀ B' : Nat → Prop, (∀ b, B b → B' b) → (∀ a ∈ l, ∀ m, β a = some m → B' m.block) → V w B' (fun _ => none) q v := by
        rintro h1 rfl
        exact ⟨by simp, fun B' hB _ => h1 B' hB⟩
      cases p with
      | own a k off len =>
        simp only [snap] at h
        split at h
        · rename_i k' xs fl fz ha
          split at h <;> simp at h
          rename_i hc
          simp only [Bool.and_eq_true, beq_iff_eq, decide_eq_true_eq] at hc
          obtain ⟨rfl, hle⟩ := hc
          obtain ⟨rfl, rfl⟩ := h
          exact ⟨fun b hb => by simp at hb; subst hb; exact ⟨_, ha⟩, fun B' hB hm => own_lit hs ha hle hv hB (fun m hm' => hm a (by simp) m hm') false⟩
        · simp at h
      | ptr a o =>
        simp only [snap] at h
        split at h
        · rename_i cs ha
          split at h
          · rename_i cs' l' hcs
            simp at h; obtain ⟨rfl, rfl⟩ := h
            obtain ⟨m, c, e, h1, h2, h3, h4, h5⟩ := hs.box a cs ha
            obtain ⟨g1, g2⟩ := ih2 cs cs' l' c.toList hcs h4
            refine ⟨fun b hb => ?_, fun B' hB hm => ?_⟩
            · rcases List.mem_cons.1 hb with rfl | hb
              · exact ⟨_, ha⟩
              · exact g1 b hb
            · have g3 := g2 B' hB fun b hb => hm b (by simp [hb])
              cases hv with
              | ptr a o l hl =>
                rw [h1] at hl; obtain rfl := Option.some.inj hl
                have one : ∀ (i : Nat) (x : List PV), [cs'][i]? = some x → i = 0 ∧ x = cs' := fun i x hx => by
                  cases i with
                  | zero => simp at hx; exact ⟨rfl, hx.symm⟩
                  | succ i => simp at hx
                have hget : ∀ (j : Nat) (p : PV), cs'[j]? = some p → ∃ v, c[j]? = some v ∧ V w B' (fun _ => none) p v := fun j p hj => by
                  obtain ⟨v, q1, q2⟩ := g3.get hj
                  exact ⟨v, by simpa using q1, q2⟩
                have := V.eptr (w := w) (B := B') (β := fun _ => none) [cs'] 0 o m.block m.off cs'.length (fun i j => (c[j]?).getD default) (hm a (by simp) m h1) (fun x hx => by simp at hx; rw [hx])
                  (fun i x j p q1 q2 => by
                    obtain ⟨rfl, rfl⟩ := one i x q1
                    obtain ⟨v, q3, q4⟩ := hget j p q2
                    simp [World.cell?, h3, h2, q3])
                  (fun i x j p q1 q2 => by
                    obtain ⟨rfl, rfl⟩ := one i x q1
                    obtain ⟨v, q3, q4⟩ := hget j p q2
                    simp only [q3, Option.getD_some]
                    exact h5 v (List.mem_of_getElem? (by simpa using q3)))
                  (fun i x j p q1 q2 => by
                    obtain ⟨rfl, rfl⟩ := one i x q1
                    obtain ⟨v, q3, q4⟩ := hget j p q2
                    simpa [q3] using q4)
                simpa using this
          · simp at h
        · simp at h
      | fn f caps =>
        simp only [snap] at h
        split at h
        · rename_i cs l' hcs
          simp at h; obtain ⟨rfl, rfl⟩ := h
          obtain ⟨vs, rfl, h1⟩ := Vs.of_fn hv
          obtain ⟨g1, g2⟩ := ih2 caps cs l' vs.toList hcs h1
          refine ⟨g1, fun B' hB hm => ?_⟩
          have g3 := g2 B' hB hm
          exact .fn f cs vs (by simpa using g3.1) fun i c v q1 q2 => g3.2 i c v q1 (by simpa using q2)
        · simp at h
      | agg cs =>
        simp only [snap] at h
        split at h
        · rename_i cs' l' hcs
          simp at h; obtain ⟨rfl, rfl⟩ := h
          obtain ⟨vs, rfl, h1, ho⟩ := Vs.of_agg hv
          obtain ⟨g1, g2⟩ := ih2 cs cs' l' vs.toList hcs h1
          refine ⟨g1, fun B' hB hm => ?_⟩
          have g3 := g2 B' hB hm
          exact .agg cs' vs (by simpa using g3.1) ho fun i c v q1 q2 => g3.2 i c v q1 (by simpa using q2)
        · simp at h
      | nils =>
        simp [snap] at h; obtain ⟨rfl, rfl⟩ := h
        cases hv
        exact simple (fun B' hB => by split; exact .nils; exact .lit0 _ _ _) rfl
      | lit xs fl =>
        simp [snap] at h; obtain ⟨rfl, rfl⟩ := h
        exact simple (fun B' hB => (hv.lit_fl fl.u).more hB) rfl
      | eptr xs i o =>
        simp [snap] at h; obtain ⟨rfl, rfl⟩ := h
        refine simple (fun B' hB => ?_) rfl
        cases hv with
        | eptr xs i o b off k val hb hk hcell ho hv => exact .eptr xs i o b off k val (hB b hb) hk hcell ho fun i x j c h1 h2 => (hv i x j c h1 h2).more hB
      | bool b => simp [snap] at h; obtain ⟨rfl, rfl⟩ := h; exact simple (fun B' hB => hv.plain rfl) rfl
      | int k x => simp [snap] at h; obtain ⟨rfl, rfl⟩ := h; exact simple (fun B' hB => hv.plain rfl) rfl
      | str s => simp [snap] at h; obtain ⟨rfl, rfl⟩ := h; exact simple (fun B' hB => hv.plain rfl) rfl
      | nilp => simp [snap] at h; obtain ⟨rfl, rfl⟩ := h; cases hv; exact simple (fun B' hB => .nilp) rfl
      | nilf => simp [snap] at h; obtain ⟨rfl, rfl⟩ := h; cases hv; exact simple (fun B' hB => .nilf) rfl
      | undef => simp [snap] at h; obtain ⟨rfl, rfl⟩ := h; exact simple (fun B' hB => .undef _) rfl
      | void => simp [snap] at h; obtain ⟨rfl, rfl⟩ := h; cases hv; exact simple (fun B' hB => .void) rfl
      | aptr a i o => simp [snap] at h
      | tup vs => simp [snap] at h
    · cases ps with
      | nil =>
        simp [snaps] at h; obtain ⟨rfl, rfl⟩ := h
        rw [hv.of_nil]; exact ⟨by simp, fun _ _ _ => .nil⟩
      | cons p r =>
        obtain ⟨u, us, rfl, h1, h2⟩ := hv.uncons
        simp only [snaps] at h
        split at h
        · rename_i q l1 hq
          split at h
          · rename_i r' l2 hr
            simp at h; obtain ⟨rfl, rfl⟩ := h
            obtain ⟨a1, a2⟩ := ih1 p q l1 u hq h1
            obtain ⟨b1, b2⟩ := ih2 r r' l2 us hr h2
            exact ⟨fun b hb => (List.mem_append.1 hb).elim (a1 b) (b1 b), fun B' hB hm => .cons (a2 B' hB fun b hb => hm b (List.mem_append_left _ hb)) (b2 B' hB fun b hb => hm b (List.mem_append_right _ hb))⟩
          · simp at h
        · simp at h

/-! ### results -/
/-- A cell of a result; the block that it alone holds. -/
inductive RC (w : World) (B : Nat → Prop) (n0 : Nat) : PV → Option (Option Nat) → Value → List Nat → Prop
  | uniq (k : Nat) (xs : List (List PV)) (flat : Bool) (b off cap : Nat) (c : Array Value) (e : Nat) (hc : w.heap[b]? = some (.cells c e (0, 0))) (ho : ArrAt w B ⟨b, off, k⟩ xs c)
      (hf : flat = true → AllPlain xs) (hk : ∀ x ∈ xs, x.length = k) (hn : xs.length ≤ cap) (hr : Room w b (off + cap * k)) (h0 : n0 ≤ b) :
      RC w B n0 (.lit xs ⟨true, flat⟩) (some (some k)) (.slice (some ⟨b, off, none⟩) xs.length cap) [b]
  | uniq0 (k : Nat) (flat : Bool) (b : Option Addr) : RC w B n0 (.lit [] ⟨true, flat⟩) (some (some k)) (.slice b 0 0) []
  | data (c : PV) (key : Option (Option Nat)) (v : Value) (h : V w B (fun _ => none) c v) (hu : ∀ xs fl, c = .lit xs fl → fl.u = false) : RC w B n0 c key v []

inductive RCs (w : World) (B : Nat → Prop) (n0 : Nat) : List PV → List (Option Nat) → List Value → List Nat → Prop
  | nil (ks : List (Option Nat)) : RCs w B n0 [] ks [] []
  | cons (p : PV) (r : List PV) (ks : List (Option Nat)) (v : Value) (vs : List Value) (bs bs' : List Nat) (h : RC w B n0 p ks.head? v bs) (hr : RCs w B n0 r ks.tail vs bs')
      (hd : ∀ b ∈ bs, b ∉ bs') : RCs w B n0 (p :: r) ks (v :: vs) (bs ++ bs')

inductive RV (w : World) (B : Nat → Prop) (n0 : Nat) : PV → List (Option Nat) → Value → List (Option Nat) → List Nat → Prop
  | agg (cs : List PV) (ks : List (Option Nat)) (vs : Array Value) (bs : List Nat) (h : RCs w B n0 cs (ks.take cs.length) vs.toList bs) (ho : ∀ v ∈ vs.toList, v.oneCell' = true) :
      RV w B n0 (.agg cs) ks (.agg vs) (ks.drop cs.length) bs
  | one (p : PV) (ks : List (Option Nat)) (v : Value) (bs : List Nat) (hp : ∀ cs, p ≠ .agg cs) (h : RC w B n0 p (ks.take 1).head? v bs) : RV w B n0 p ks v (ks.drop 1) bs

inductive RVs (w : World) (B : Nat → Prop) (n0 : Nat) : List PV → List (Option Nat) → List Value → List Nat → Prop
  | nil (ks : List (Option Nat)) : RVs w B n0 [] ks [] []
  | cons (p : PV) (r : List PV) (ks ks' : List (Option Nat)) (v : Value) (vs : List Value) (bs bs' : List Nat) (h : RV w B n0 p ks v ks' bs) (hr : RVs w B n0 r ks' vs bs')
      (hd : ∀ b ∈ bs, b ∉ bs') : RVs w B n0 (p :: r) ks (v :: vs) (bs ++ bs')

inductive RR (w : World) (B : Nat → Prop) (n0 : Nat) : PV → List (Option Nat) → Value → List Nat → Prop
  | tup (cs : List PV) (ks : List (Option Nat)) (vs : Array Value) (bs : List Nat) (h : RVs w B n0 cs ks vs.toList bs) : RR w B n0 (.tup cs) ks (.tuple vs) bs
  | one (p : PV) (ks ks' : List (Option Nat)) (v : Value) (bs : List Nat) (hp : ∀ cs, p ≠ .tup cs) (h : RV w B n0 p ks v ks' bs) : RR w B n0 p ks v bs

/-! ### what a caller makes of a result -/
/-- A heap of its own. -/
structure Isle (w : World) (B : Nat → Prop) (β : Map) (rd : Rd) (bs : List Nat) (lo hi : Nat) : Prop where
  sim : Sim w B β rd
  dom : ∀ a l, β a = some l → lo ≤ a ∧ a < hi ∧ l.block ∈ bs
  ids : ∀ a o, rd a = some o → lo ≤ a ∧ a < hi
  le : lo ≤ hi

theorem Isle.nil (lo : Nat) (hB : ∀ b, B b → b < w.heap.size) : Isle w B (fun _ => none) (fun _ => none) [] lo lo :=
  ⟨Sim.of (fun a o h => by cases h) (fun a o l h => by cases h) (fun a b o p l m h => by cases h) hB (fun a k xs fl l h => by cases h), (fun a l h => by cases h), (fun a o h => by cases h), Nat.le_refl _⟩

def joinM (β β' : Map) : Map := fun a => match β a with | some l => some l | none => β' a
def joinR (rd rd' : Rd) : Rd := fun a => match rd a with | some o => some o | none => rd' a

theorem Isle.join {bs bs' : List Nat} {lo mid hi : Nat} (h : Isle w B β rd bs lo mid) (k : Isle w B β' rd' bs' mid hi) (hd : ∀ b ∈ bs, b ∉ bs') :
    Isle w B (joinM β β') (joinR rd rd') (bs ++ bs') lo hi ∧ (∀ a l, β a = some l → joinM β β' a = some l) ∧ (∀ a l, β' a = some l → joinM β β' a = some l) := by
  have m1 : ∀ a l, β a = some l → joinM β β' a = some l := fun a l hl => by simp [joinM, hl]
  have m2 : ∀ a l, β' a = some l → joinM β β' a = some l := fun a l hl => by
    have h2 := (k.dom a l hl).1
    have : β a = none := by
      cases hb : β a with
      | none => rfl
      | some m => have := (h.dom a m hb).2.1; omega
    simp [joinM, this, hl]
  refine ⟨⟨?_, fun a l hl => ?_, fun a o ho => ?_, Nat.le_trans h.le k.le⟩, m1, m2⟩
  · refine Sim.union (h.sim.remap m1 fun a o ha => ?_) (k.sim.remap m2 fun a o ha => ?_) (fun a o ha => ?_) (fun a b o p l m ha hb hl hm => ?_)
    · have h2 := (h.ids a o ha).2
      unfold joinM
      cases hb : β a with
      | some m => rfl
      | none =>
        cases hb' : β' a with
        | none => rfl
        | some m => have := (k.dom a m hb').1; omega
    · have h2 := (k.ids a o ha).1
      unfold joinM
      cases hb : β a with
      | none => rfl
      | some m => have := (h.dom a m hb).2.1; omega
    · unfold joinR at ha
      split at ha
      · rename_i q hq; simp at ha; subst ha; exact .inl hq
      · exact .inr ha
    · have h2 := h.ids a o ha
      have h3 := k.ids b p hb
      have e1 : l.block ∈ bs := by
        unfold joinM at hl
        split at hl
        · rename_i q hq; simp at hl; subst hl; exact (h.dom a q hq).2.2
        · have := (k.dom a l hl).1; omega
      have e2 : m.block ∈ bs' := by
        unfold joinM at hm
        split at hm
        · rename_i q hq; have := (h.dom b q hq).2.1; omega
        · exact (k.dom b m hm).2.2
      intro he; exact hd _ e1 (he ▸ e2)
  · unfold joinM at hl
    split at hl
    · rename_i q hq; simp at hl; subst hl
      have h1 := h.dom a q hq; have := k.le
      exact ⟨by omega, by omega, List.mem_append_left _ h1.2.2⟩
    · have h1 := k.dom a l hl; have := h.le
      exact ⟨by omega, by omega, List.mem_append_right _ h1.2.2⟩
  · unfold joinR at ho
    split at ho
    · rename_i q hq; have := h.ids a q hq; have := k.le; exact ⟨by omega, by omega⟩
    · have := k.ids a o ho; have := h.le; exact ⟨by omega, by omega⟩

/-- Only new objects are laid in. -/
def Adds (u : Upd) : Prop := ∀ x ∈ u, ∃ o, x.2 = some o

theorem rdU_adds : ∀ {u : Upd} {rd : Rd}, Adds u → (∀ x ∈ u, rd x.1 = none) → (u.map (·.1)).Nodup → ∀ a, rdU rd u a = joinR (rdU (fun _ => none) u) rd a
  | [], rd, _, _, _, a => rfl
  | (b, o) :: u, rd, h, hn, hd, a => by
    obtain ⟨o', ho⟩ := h _ List.mem_cons_self
    simp at ho; subst ho
    have hd' : b ∉ u.map (·.1) ∧ (u.map (·.1)).Nodup := List.nodup_cons.1 hd
    have hnb : ∀ x ∈ u, x.1 ≠ b := fun x hx he => hd'.1 (he ▸ List.mem_map_of_mem hx)
    have e1 : ∀ rd : Rd, (∀ x ∈ u, rd x.1 = none) → ∀ x ∈ u, setR rd b (some o') x.1 = none := fun rd hr x hx => by
      simp [setR, hnb x hx, hr x hx]
    have h' : Adds u := fun x hx => h x (List.mem_cons_of_mem _ hx)
    simp only [rdU]
    rw [rdU_adds h' (e1 rd fun x hx => hn x (List.mem_cons_of_mem _ hx)) hd'.2 a]
    unfold joinR
    rw [rdU_adds h' (e1 (fun _ => none) fun x _ => rfl) hd'.2 a]
    unfold joinR
    cases hq : rdU (fun _ => none) u a with
    | some q => simp
    | none =>
      simp only [setR]
      split <;> simp_all

theorem ids_of_rdU {u : Upd} {rd : Rd} {a : Nat} {o : PObj} (h : rdU rd u a = some o) : a ∈ u.map (·.1) ∨ rd a = some o := by
  induction u generalizing rd with
  | nil => exact .inr h
  | cons x u ih =>
    obtain ⟨b, q⟩ := x
    simp only [rdU] at h
    rcases ih h with h1 | h1
    · exact .inl (by simp at h1 ⊢; exact .inr h1)
    · unfold setR at h1
      split at h1
      · rename_i he; exact .inl (by simp [he])
      · exact .inr h1
end
end Go.Pm
