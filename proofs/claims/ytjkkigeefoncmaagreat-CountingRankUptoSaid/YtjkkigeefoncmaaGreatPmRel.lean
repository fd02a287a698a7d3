/-
  How the evaluator's values and heap stand to the machine's.
-/
import Derived.Test.YtjkkigeefoncmaaGreatPmCore
import Derived.Laws.World
import Derived.Laws.Sem
import Derived.Laws.Cells
import Derived.Laws.Entries
import Derived.Laws.CopyRow
set_option linter.unusedVariables false
set_option linter.unusedSimpArgs false
namespace Go.Pm
open Go

/-- Where an object lies: block, first cell, cells an element. -/
structure Loc where
  block : Nat
  off : Nat
  k : Nat

abbrev Map := Nat → Option Loc

def AllPlain (xs : List (List PV)) : Prop := ∀ x ∈ xs, ∀ c ∈ x, plainCell c = true

/-- The room of a slice's row. -/
def Room (w : World) (b n : Nat) : Prop := ∃ c e, w.heap[b]? = some (.cells c e (0, 0)) ∧ n ≤ c.size

/-- A value of the evaluator stands for a value of the machine. B: the blocks in which data may lie. -/
inductive V (w : World) (B : Nat → Prop) : Map → PV → Value → Prop
  | undef {β : Map} (v : Value) : V w B β .undef v
  | void {β : Map} : V w B β .void Go.undef
  | bool {β : Map} (b : Bool) : V w B β (.bool b) (.bool b)
  | int {β : Map} (k : IntKind) (n : Int) : V w B β (.int k n) (.int k n)
  | str {β : Map} (s : ByteArray) : V w B β (.str s) (.string s)
  | nilp {β : Map} : V w B β .nilp (.pointer none)
  | nils {β : Map} : V w B β .nils (.slice none 0 0)
  | nilf {β : Map} : V w B β .nilf .nilFunc
  | ptr {β : Map} (a o : Nat) (l : Loc) (h : β a = some l) : V w B β (.ptr a o) (.pointer (some ⟨l.block, l.off + o, none⟩))
  | aptr {β : Map} (a i o : Nat) (l : Loc) (h : β a = some l) : V w B β (.aptr a i o) (.pointer (some ⟨l.block, l.off + i * l.k + o, none⟩))
  | own0 {β : Map} (a k off : Nat) (b : Option Addr) : V w B β (.own a k off 0) (.slice b 0 0)
  | own {β : Map} (a off len cap : Nat) (l : Loc) (h : β a = some l) (hc : len ≤ cap) (hr : Room w l.block (l.off + (off + cap) * l.k)) :
      V w B β (.own a l.k off len) (.slice (some ⟨l.block, l.off + off * l.k, none⟩) len cap)
  | lit0 {β : Map} (fl : Fl) (b : Option Addr) (cap : Nat) : V w B β (.lit [] fl) (.slice b 0 cap)
  | lit {β : Map} (xs : List (List PV)) (fl : Fl) (b o k cap : Nat) (val : Nat → Nat → Value) (hb : B b) (hn : xs.length ≤ cap)
      (hf : fl.flat = true → AllPlain xs) (hk : ∀ x ∈ xs, x.length = k)
      (hcell : ∀ (i : Nat) (x : List PV) (j : Nat) (c : PV), xs[i]? = some x → x[j]? = some c → w.cell? ⟨b, o + i * k + j, none⟩ = some (val i j))
      (ho : ∀ (i : Nat) (x : List PV) (j : Nat) (c : PV), xs[i]? = some x → x[j]? = some c → (val i j).oneCell' = true)
      (hv : ∀ (i : Nat) (x : List PV) (j : Nat) (c : PV), xs[i]? = some x → x[j]? = some c → V w B (fun _ => none) c (val i j)) :
      V w B β (.lit xs fl) (.slice (some ⟨b, o, none⟩) xs.length cap)
  | eptr {β : Map} (xs : List (List PV)) (i o b off k : Nat) (val : Nat → Nat → Value) (hb : B b) (hk : ∀ x ∈ xs, x.length = k)
      (hcell : ∀ (i : Nat) (x : List PV) (j : Nat) (c : PV), xs[i]? = some x → x[j]? = some c → w.cell? ⟨b, off + i * k + j, none⟩ = some (val i j))
      (ho : ∀ (i : Nat) (x : List PV) (j : Nat) (c : PV), xs[i]? = some x → x[j]? = some c → (val i j).oneCell' = true)
      (hv : ∀ (i : Nat) (x : List PV) (j : Nat) (c : PV), xs[i]? = some x → x[j]? = some c → V w B (fun _ => none) c (val i j)) :
      V w B β (.eptr xs i o) (.pointer (some ⟨b, off + i * k + o, none⟩))
  | agg {β : Map} (cs : List PV) (vs : Array Value) (hl : cs.length = vs.size) (ho : ∀ v ∈ vs.toList, v.oneCell' = true)
      (hv : ∀ (i : Nat) (c : PV) (v : Value), cs[i]? = some c → vs[i]? = some v → V w B β c v) : V w B β (.agg cs) (.agg vs)
  | tup {β : Map} (cs : List PV) (vs : Array Value) (hl : cs.length = vs.size)
      (hv : ∀ (i : Nat) (c : PV) (v : Value), cs[i]? = some c → vs[i]? = some v → V w B β c v) : V w B β (.tup cs) (.tuple vs)
  | fn {β : Map} (f : Nat) (cs : List PV) (vs : Array Value) (hl : cs.length = vs.size)
      (hv : ∀ (i : Nat) (c : PV) (v : Value), cs[i]? = some c → vs[i]? = some v → V w B β c v) : V w B β (.fn f cs) (.func (.func f) #[] vs)

/-- Cells, one by one. -/
def Vs (w : World) (B : Nat → Prop) (β : Map) (cs : List PV) (vs : List Value) : Prop :=
  cs.length = vs.length ∧ ∀ (i : Nat) (c : PV) (v : Value), cs[i]? = some c → vs[i]? = some v → V w B β c v

theorem Vs.nil {w : World} {B : Nat → Prop} {β : Map} : Vs w B β [] [] := ⟨rfl, fun i c v h => by simp at h⟩
theorem Vs.cons {w : World} {B : Nat → Prop} {β : Map} {c : PV} {v : Value} {cs : List PV} {vs : List Value} (h : V w B β c v) (hs : Vs w B β cs vs) : Vs w B β (c :: cs) (v :: vs) :=
  ⟨by simp [hs.1], fun i c' v' h1 h2 => by
    cases i with
    | zero => simp at h1 h2; subst h1; subst h2; exact h
    | succ i => simp at h1 h2; exact hs.2 i c' v' h1 h2⟩
theorem Vs.head {w : World} {B : Nat → Prop} {β : Map} {c : PV} {v : Value} {cs : List PV} {vs : List Value} (h : Vs w B β (c :: cs) (v :: vs)) : V w B β c v := h.2 0 c v rfl rfl
theorem Vs.tail {w : World} {B : Nat → Prop} {β : Map} {c : PV} {v : Value} {cs : List PV} {vs : List Value} (h : Vs w B β (c :: cs) (v :: vs)) : Vs w B β cs vs :=
  ⟨by simpa using h.1, fun i c' v' h1 h2 => h.2 (i + 1) c' v' (by simpa using h1) (by simpa using h2)⟩
theorem Vs.uncons {w : World} {B : Nat → Prop} {β : Map} {c : PV} {cs : List PV} {vs : List Value} (h : Vs w B β (c :: cs) vs) :
    ∃ v vs', vs = v :: vs' ∧ V w B β c v ∧ Vs w B β cs vs' := by
  cases vs with
  | nil => simp [Vs] at h
  | cons v vs' => exact ⟨v, vs', rfl, h.head, h.tail⟩
theorem Vs.of_nil {w : World} {B : Nat → Prop} {β : Map} {vs : List Value} (h : Vs w B β [] vs) : vs = [] := by
  cases vs with
  | nil => rfl
  | cons v vs' => simp [Vs] at h
theorem Vs.append {w : World} {B : Nat → Prop} {β : Map} {cs ds : List PV} {vs us : List Value} (h : Vs w B β cs vs) (k : Vs w B β ds us) : Vs w B β (cs ++ ds) (vs ++ us) := by
  induction cs generalizing vs with
  | nil => rw [h.of_nil]; exact k
  | cons c cs ih => obtain ⟨v, vs', rfl, h1, h2⟩ := h.uncons; exact Vs.cons h1 (ih h2)
theorem Vs.get {w : World} {B : Nat → Prop} {β : Map} {cs : List PV} {vs : List Value} (h : Vs w B β cs vs) {i : Nat} {c : PV} (hc : cs[i]? = some c) : ∃ v, vs[i]? = some v ∧ V w B β c v := by
  have hi : i < cs.length := by rcases Nat.lt_or_ge i cs.length with h' | h'; exact h'; simp [List.getElem?_eq_none h'] at hc
  have hi' : i < vs.length := h.1 ▸ hi
  exact ⟨vs[i], List.getElem?_eq_getElem hi', h.2 i c _ hc (List.getElem?_eq_getElem hi')⟩
theorem Vs.take {w : World} {B : Nat → Prop} {β : Map} {cs : List PV} {vs : List Value} (h : Vs w B β cs vs) (n : Nat) : Vs w B β (cs.take n) (vs.take n) :=
  ⟨by simp [h.1], fun i c v h1 h2 => by
    rw [List.getElem?_take] at h1 h2
    split at h1 <;> simp_all
    exact h.2 i c v h1 h2⟩
theorem Vs.drop {w : World} {B : Nat → Prop} {β : Map} {cs : List PV} {vs : List Value} (h : Vs w B β cs vs) (n : Nat) : Vs w B β (cs.drop n) (vs.drop n) :=
  ⟨by simp [h.1], fun i c v h1 h2 => h.2 (n + i) c v (by simpa using h1) (by simpa using h2)⟩
theorem Vs.agg {w : World} {B : Nat → Prop} {β : Map} {cs : List PV} {vs : List Value} (h : Vs w B β cs vs) (ho : ∀ v ∈ vs, v.oneCell' = true) : V w B β (.agg cs) (.agg vs.toArray) :=
  .agg cs vs.toArray (by simpa using h.1) (by simpa using ho) fun i c v h1 h2 => h.2 i c v h1 (by simpa using h2)
theorem Vs.of_agg {w : World} {B : Nat → Prop} {β : Map} {cs : List PV} {v : Value} (h : V w B β (.agg cs) v) : ∃ vs, v = .agg vs ∧ Vs w B β cs vs.toList ∧ (∀ v ∈ vs.toList, v.oneCell' = true) := by
  cases h with
  | agg cs vs hl ho hv => exact ⟨vs, rfl, ⟨by simpa using hl, fun i c v h1 h2 => hv i c v h1 (by simpa using h2)⟩, ho⟩
theorem Vs.of_tup {w : World} {B : Nat → Prop} {β : Map} {cs : List PV} {v : Value} (h : V w B β (.tup cs) v) : ∃ vs, v = .tuple vs ∧ Vs w B β cs vs.toList := by
  cases h with
  | tup cs vs hl hv => exact ⟨vs, rfl, by simpa using hl, fun i c v h1 h2 => hv i c v h1 (by simpa using h2)⟩
theorem Vs.of_fn {w : World} {B : Nat → Prop} {β : Map} {f : Nat} {cs : List PV} {v : Value} (h : V w B β (.fn f cs) v) : ∃ vs, v = .func (.func f) #[] vs ∧ Vs w B β cs vs.toList := by
  cases h with
  | fn f cs vs hl hv => exact ⟨vs, rfl, by simpa using hl, fun i c v h1 h2 => hv i c v h1 (by simpa using h2)⟩

/-- A plain cell stands for its value in every world. -/
theorem V.plain {w w' : World} {B B' : Nat → Prop} {β β' : Map} {c : PV} {v : Value} (h : V w B β c v) (hp : plainCell c = true) : V w' B' β' c v := by
  cases h <;> simp [plainCell] at hp <;> constructor

/-- A value keeps its meaning where the blocks of data, the room of rows and the places of objects are kept. -/
theorem V.keep {w w' : World} {B B' : Nat → Prop} {β β' : Map} (hB : ∀ b, B b → B' b) (hw : ∀ b, B b → w'.heap[b]? = w.heap[b]?)
    (hβ : ∀ a l, β a = some l → β' a = some l) (hr : ∀ b n, Room w b n → Room w' b n) {p : PV} {v : Value} (h : V w B β p v) : V w' B' β' p v := by
  induction h generalizing β' with
  | undef v => exact .undef v
  | void => exact .void
  | bool b => exact .bool b
  | int k n => exact .int k n
  | str s => exact .str s
  | nilp => exact .nilp
  | nils => exact .nils
  | nilf => exact .nilf
  | ptr a o l h => exact .ptr a o l (hβ a l h)
  | aptr a i o l h => exact .aptr a i o l (hβ a l h)
  | own0 a k off b => exact .own0 a k off b
  | own a off len cap l h hc hroom => exact .own a off len cap l (hβ a l h) hc (hr _ _ hroom)
  | lit0 fl b cap => exact .lit0 fl b cap
  | lit xs fl b o k cap val hb hn hf hk hcell ho hv ih =>
    refine .lit xs fl b o k cap val (hB b hb) hn hf hk (fun i x j c h1 h2 => ?_) ho fun i x j c h1 h2 => ih i x j c h1 h2 fun _ _ h => h
    have := hcell i x j c h1 h2
    unfold World.cell? at this ⊢
    rw [hw b hb]; exact this
  | eptr xs i o b off k val hb hk hcell ho hv ih =>
    refine .eptr xs i o b off k val (hB b hb) hk (fun i x j c h1 h2 => ?_) ho fun i x j c h1 h2 => ih i x j c h1 h2 fun _ _ h => h
    have := hcell i x j c h1 h2
    unfold World.cell? at this ⊢
    rw [hw b hb]; exact this
  | agg cs vs hl ho hv ih => exact .agg cs vs hl ho fun i c v h1 h2 => ih i c v h1 h2 hβ
  | tup cs vs hl hv ih => exact .tup cs vs hl fun i c v h1 h2 => ih i c v h1 h2 hβ
  | fn f cs vs hl hv ih => exact .fn f cs vs hl fun i c v h1 h2 => ih i c v h1 h2 hβ

/-- What leads to no object stands for its value whatever the objects' places. -/
theorem V.lift {w : World} {B : Nat → Prop} {β : Map} {p : PV} {v : Value} (h : V w B (fun _ => none) p v) : V w B β p v :=
  h.keep (fun _ h => h) (fun _ _ => rfl) (fun a l h => by cases h) (fun _ _ h => h)

theorem Vs.keep {w w' : World} {B B' : Nat → Prop} {β β' : Map} (hB : ∀ b, B b → B' b) (hw : ∀ b, B b → w'.heap[b]? = w.heap[b]?)
    (hβ : ∀ a l, β a = some l → β' a = some l) (hr : ∀ b n, Room w b n → Room w' b n) {cs : List PV} {vs : List Value} (h : Vs w B β cs vs) : Vs w' B' β' cs vs :=
  ⟨h.1, fun i c v h1 h2 => (h.2 i c v h1 h2).keep hB hw hβ hr⟩

/-! ### the heap -/
/-- The cells of an object, from a place on. -/
def ArrAt (w : World) (B : Nat → Prop) (l : Loc) (xs : List (List PV)) (c : Array Value) : Prop :=
  ∀ (i : Nat) (x : List PV) (j : Nat) (p : PV), xs[i]? = some x → x[j]? = some p → ∃ v, c[l.off + i * l.k + j]? = some v ∧ v.oneCell' = true ∧ V w B (fun _ => none) p v

structure Sim (w : World) (B : Nat → Prop) (β : Map) (rd : Rd) : Prop where
  box : ∀ a cs, rd a = some (.box cs) → ∃ l c e, β a = some l ∧ l.off = 0 ∧ w.heap[l.block]? = some (.cells c e (0, 0)) ∧ Vs w B β cs c.toList ∧ (∀ v ∈ c.toList, v.oneCell' = true)
  arr : ∀ a k xs fl fz, rd a = some (.arr k xs fl fz) → (fl = true → AllPlain xs) ∧ (∀ x ∈ xs, x.length = k) ∧
    ((xs = [] ∧ β a = none) ∨ ∃ l c e, β a = some l ∧ l.k = k ∧ w.heap[l.block]? = some (.cells c e (0, 0)) ∧ ArrAt w B l xs c)
  excl : ∀ a o l, rd a = some o → (∀ k xs fl, o ≠ .arr k xs fl true) → β a = some l → ¬ B l.block
  inj : ∀ a b o p l m, rd a = some o → rd b = some p → a ≠ b → β a = some l → β b = some m → l.block ≠ m.block
  lt : ∀ b, B b → b < w.heap.size
  frz : ∀ a k xs fl l, rd a = some (.arr k xs fl true) → β a = some l → B l.block

/-- The blocks of what may be written. -/
def Mut (β : Map) (rd : Rd) (b : Nat) : Prop := ∃ a o l, rd a = some o ∧ (∀ k xs fl, o ≠ .arr k xs fl true) ∧ β a = some l ∧ l.block = b

/-- The blocks that a heap's objects lie in. -/
def In (β : Map) (rd : Rd) (b : Nat) : Prop := ∃ a o l, rd a = some o ∧ β a = some l ∧ l.block = b

/-- Of the blocks outside of M nothing has turned. -/
structure Ext (M : Nat → Prop) (w w' : World) : Prop where
  os : w'.os = w.os
  tape : w'.tape = w.tape
  output : w'.output = w.output
  size : w.heap.size ≤ w'.heap.size
  block : ∀ k, k < w.heap.size → ¬ M k → w'.heap[k]? = w.heap[k]?
  room : ∀ b n, Room w b n → Room w' b n

theorem Ext.refl (M : Nat → Prop) (w : World) : Ext M w w := ⟨rfl, rfl, rfl, Nat.le_refl _, fun _ _ _ => rfl, fun _ _ h => h⟩
theorem Ext.trans {M N : Nat → Prop} {w w' w'' : World} (h : Ext M w w') (k : Ext N w' w'') (hN : ∀ b, N b → M b ∨ w.heap.size ≤ b) : Ext M w w'' :=
  ⟨k.os.trans h.os, k.tape.trans h.tape, k.output.trans h.output, Nat.le_trans h.size k.size,
   fun b hb hM => (k.block b (Nat.lt_of_lt_of_le hb h.size) (fun hn => (hN b hn).elim hM (fun hle => by omega))).trans (h.block b hb hM),
   fun b n hr => k.room b n (h.room b n hr)⟩
theorem Ext.mono {M N : Nat → Prop} {w w' : World} (h : Ext M w w') (hM : ∀ b, M b → N b) : Ext N w w' :=
  ⟨h.os, h.tape, h.output, h.size, fun b hb hn => h.block b hb fun hm => hn (hM b hm), h.room⟩

theorem Room.of_lt {w : World} {b n : Nat} (h : Room w b n) : b < w.heap.size := by
  obtain ⟨c, e, h, _⟩ := h
  rcases Nat.lt_or_ge b w.heap.size with h' | h'
  · exact h'
  · simp [Array.getElem?_eq_none h'] at h

theorem Ext.alloc (M : Nat → Prop) (w : World) (o : Obj) : Ext M w (w.alloc o) :=
  ⟨rfl, rfl, rfl, by simp, fun k hk _ => Go.RowKit.Below.heap_alloc w o k hk, fun b n ⟨c, e, h, hn⟩ => ⟨c, e, by rw [Go.RowKit.Below.heap_alloc w o b (Room.of_lt ⟨c, e, h, hn⟩)]; exact h, hn⟩⟩
theorem Ext.drew (M : Nat → Prop) (w : World) : Ext M w w.drew := ⟨rfl, rfl, rfl, Nat.le_refl _, fun _ _ _ => rfl, fun _ _ h => h⟩
theorem Ext.below {w w' : World} (h : Ext (fun _ => False) w w') : Go.RowKit.Below w.heap.size w w' := ⟨h.os, h.tape, h.output, h.size, fun k hk => h.block k hk (fun h => h)⟩

end Go.Pm
