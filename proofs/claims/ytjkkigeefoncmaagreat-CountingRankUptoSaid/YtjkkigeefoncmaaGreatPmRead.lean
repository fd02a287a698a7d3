/-
  What an input's reading says: the data that its cells stand for.
-/
import Derived.Test.YtjkkigeefoncmaaGreatPmRec
import Derived.ProofKit
import Derived.OpenShut
import Derived.JoinedCond
import Derived.Deep.Slices
set_option linter.unusedVariables false
set_option linter.unusedSimpArgs false
namespace Go.Pm
open Go

/-- Data of a size that may come in. -/
class Sized (α : Type) where
  ok : Nat → α → Prop
instance : Sized Int := ⟨fun _ n => -9223372036854775808 ≤ n ∧ n ≤ 9223372036854775807⟩
instance : Sized Bool := ⟨fun _ _ => True⟩
instance : Sized ByteArray := ⟨fun N s => s.size ≤ N⟩
instance {α : Type} [Sized α] : Sized (List α) := ⟨fun N l => l.length ≤ N ∧ ∀ x ∈ l, Sized.ok N x⟩
theorem sized_int {N : Nat} {n : Int} : Sized.ok N n ↔ -9223372036854775808 ≤ n ∧ n ≤ 9223372036854775807 := Iff.rfl
theorem sized_bool {N : Nat} {n : Bool} : Sized.ok N n ↔ True := Iff.rfl
theorem sized_str {N : Nat} {n : ByteArray} : Sized.ok N n ↔ n.size ≤ N := Iff.rfl
theorem sized_list {α : Type} [Sized α] {N : Nat} {l : List α} : Sized.ok N l ↔ l.length ≤ N ∧ ∀ x ∈ l, Sized.ok N x := Iff.rfl

structure Bulk {H : Type} (bulk : DataW H → Nat) : Prop where
  str : ∀ bytes, bytes.length ≤ bulk (.lit (.string bytes))
  elems : ∀ es sp d, d ∈ es → bulk d ≤ bulk (.slice es sp)
  len : ∀ es sp, es.length ≤ bulk (.slice es sp)
  parts : ∀ ps d, d ∈ ps → bulk d ≤ bulk (.agg ps)

/-- The cells of the type t, where a reading of them succeeds, stand for data of the type α. -/
structure ReadsAs (P : Program) {H : Type} (enc : TypeId × Value → H) (bulk : DataW H → Nat) (w : World) (t : Nat) (α : Type) [Enc α] [Sized α] : Prop where
  size : P.cellsOf t = Enc.size α
  read : ∀ N fuel cs d ps, DataW.trod enc P w 0 (fun _ => true) true fuel t cs = some (d, ps) → bulk d ≤ N →
    ∃ a : α, Sized.ok N a ∧ cs.length = Enc.size α ∧ (∀ v ∈ cs, v.oneCell' = true) ∧ Vs w (fun b => b < w.heap.size) (fun _ => none) (Enc.cells a) cs

section
variable {P : Program} {H : Type} {enc : TypeId × Value → H} {bulk : DataW H → Nat} {w : World}
theorem vs_one {w : World} {B : Nat → Prop} {β : Map} {p : PV} {v : Value} (h : V w B β p v) : Vs w B β [p] [v] := Vs.cons h Vs.nil
theorem reads_int {t : Nat} (ht : P.underlying t = some (.int .i64)) (hs : P.cellsOf t = 1) : ReadsAs P enc bulk w t Int := by
  refine ⟨hs, fun N fuel cs d ps h hb => ?_⟩
  obtain ⟨n, rfl, hx, hw⟩ := DataW.trod_int ht h
  simp only [Lit.wf, Bool.and_eq_true, decide_eq_true_eq] at hw
  refine ⟨n, ⟨?_, ?_⟩, rfl, by simp; rfl, vs_one (.int _ _)⟩
  · exact hw.1
  · exact hw.2
theorem reads_bool {t : Nat} (ht : P.underlying t = some .bool) (hs : P.cellsOf t = 1) : ReadsAs P enc bulk w t Bool := by
  refine ⟨hs, fun N fuel cs d ps h hb => ?_⟩
  obtain ⟨n, rfl, hx⟩ := DataW.trod_bool ht h
  exact ⟨n, trivial, rfl, by simp; rfl, vs_one (.bool _)⟩
theorem reads_str (hbk : Bulk bulk) {t : Nat} (ht : P.underlying t = some .string) (hs : P.cellsOf t = 1) : ReadsAs P enc bulk w t ByteArray := by
  refine ⟨hs, fun N fuel cs d ps h hb => ?_⟩
  obtain ⟨s, rfl, hx, _⟩ := DataW.trod_string ht h
  simp at hx; obtain ⟨rfl, rfl⟩ := hx
  refine ⟨s, ?_, rfl, by simp; rfl, vs_one (.str _)⟩
  have h1 := hbk.str s.data.toList
  have h2 : s.data.toList.length = s.size := by rw [Array.length_toList]; rfl
  rw [sized_str]; omega

theorem V.lit_of {w : World} {B : Nat → Prop} {α : Type} [Enc α] (l : List α) (b o cap : Nat) (f : Nat → List Value) (hB : l ≠ [] → B b) (hcap : l.length ≤ cap)
    (hl : ∀ i, i < l.length → (f i).length = Enc.size α) (h1 : ∀ i, i < l.length → ∀ v ∈ f i, v.oneCell' = true) (hv : ∀ i a, l[i]? = some a → Vs w B (fun _ => none) (Enc.cells a) (f i))
    (hc : ∀ i, i < l.length → ∀ j v, (f i)[j]? = some v → w.cell? ⟨b, o + i * Enc.size α + j, none⟩ = some v) : V w B (fun _ => none) (.lit (rows l) fl0) (.slice (some ⟨b, o, none⟩) l.length cap) := by
  cases l with
  | nil => exact .lit0 _ _ _
  | cons a l =>
    have e : (rows (a :: l)).length = (a :: l).length := rows_length _
    rw [← e]
    have key : ∀ i x j c, (rows (a :: l))[i]? = some x → x[j]? = some c → ∃ q, (a :: l)[i]? = some q ∧ x = Enc.cells q ∧ i < (a :: l).length ∧ ∃ v, (f i)[j]? = some v ∧ V w B (fun _ => none) c v := fun i x j c h2 h3 => by
      rw [rows_get] at h2
      obtain ⟨q, hq, rfl⟩ := Option.map_eq_some_iff.1 h2
      obtain ⟨v, g1, g2⟩ := (hv i q hq).get h3
      exact ⟨q, hq, rfl, len_of_get hq, v, g1, g2⟩
    refine .lit (rows (a :: l)) fl0 b o (Enc.size α) cap (fun i j => ((f i)[j]?).getD Go.undef) (hB (by simp)) (by rw [e]; exact hcap) (fun h => by simp at h) (fun x hx => ?_) (fun i x j c h2 h3 => ?_) (fun i x j c h2 h3 => ?_) (fun i x j c h2 h3 => ?_)
    · obtain ⟨q, _, rfl⟩ := List.mem_map.1 hx; exact Enc.len q
    · obtain ⟨q, hq, _, hi, v, g1, g2⟩ := key i x j c h2 h3
      rw [g1]; exact hc i hi j v g1
    · obtain ⟨q, hq, _, hi, v, g1, g2⟩ := key i x j c h2 h3
      rw [g1]; exact h1 i hi v (List.mem_of_getElem? g1)
    · obtain ⟨q, hq, _, hi, v, g1, g2⟩ := key i x j c h2 h3
      rw [g1]; exact g2

theorem choose_list {α : Type} {n : Nat} {p : Nat → α → Prop} (h : ∀ i, i < n → ∃ a, p i a) : ∃ l : List α, l.length = n ∧ ∀ i a, l[i]? = some a → p i a := by
  induction n with
  | zero => exact ⟨[], rfl, fun i a h => by simp at h⟩
  | succ n ih =>
    obtain ⟨l, h1, h2⟩ := ih fun i hi => h i (by omega)
    obtain ⟨a, ha⟩ := h n (by omega)
    refine ⟨l ++ [a], by simp [h1], fun i b hb => ?_⟩
    by_cases hi : i < n
    · rw [List.getElem?_append_left (by omega)] at hb; exact h2 i b hb
    · have hin : i = n := by
        have := len_of_get hb
        simp at this; omega
      subst hin
      rw [List.getElem?_append_right (by omega)] at hb
      simp [h1] at hb; subst hb; exact ha

theorem reads_list (hbk : Bulk bulk) {t e : Nat} {α : Type} [Enc α] [Sized α] (ht : P.underlying t = some (.slice e)) (hs : P.cellsOf t = 1) (hpos : 0 < Enc.size α) (he : ReadsAs P enc bulk w e α) : ReadsAs P enc bulk w t (List α) := by
  refine ⟨hs, fun N fuel cs d ps h hb => ?_⟩
  rcases Deep.open_slice ht h with ⟨rfl, hx⟩ | ⟨a, len, cap, m, n, D, Pl, rfl, hbase, hl, hm, hmm, hx, hel⟩
  · exact ⟨[], ⟨Nat.zero_le _, fun x hx => by cases hx⟩, rfl, by simp; rfl, vs_one (.lit0 _ _ _)⟩
  · simp at hx
    obtain ⟨rfl, rfl⟩ := hx
    have hm2 : m = cap := by simpa using hmm
    subst hm2
    have hlen : len ≤ N := by
      have := hbk.len ((List.range len).map D) ((List.range (m - len)).map ((D) ∘ (fun j => len + j)))
      simp only [List.length_map, List.length_range] at this
      have h3 : ((List.range (m - len)).map ((D) ∘ (fun j => len + j))) = (List.range (m - len)).map fun j => D (len + j) := rfl
      rw [h3] at this
      omega
    have hall : ∀ i, i < len → ∃ x : α × List Value, Sized.ok N x.1 ∧ x.2.length = Enc.size α ∧ (∀ v ∈ x.2, v.oneCell' = true) ∧ Vs w (fun b => b < w.heap.size) (fun _ => none) (Enc.cells x.1) x.2 ∧ ∀ j v, x.2[j]? = some v → w.cell? ((a.add (i * Enc.size α)).add j) = some v := fun i hi => by
      obtain ⟨cs', h1, h2⟩ := hel i (by omega)
      have hbd : bulk (D i) ≤ N := Nat.le_trans (hbk.elems _ _ (D i) (List.mem_map.2 ⟨i, List.mem_range.2 hi, rfl⟩)) hb
      obtain ⟨q, g1, g2, g3, g4⟩ := he.read N n cs' (D i) (Pl i) h2 hbd
      obtain ⟨_, c1, c2⟩ := World.cells?_some h1
      rw [he.size] at c1 c2
      refine ⟨(q, cs'), g1, g2, g3, g4, fun j v hj => ?_⟩
      have hj' : j < Enc.size α := by rw [← g2]; exact len_of_get hj
      rw [c2 j hj']; exact hj
    obtain ⟨l, hll, hlp⟩ := choose_list hall
    have hlf : (l.map Prod.fst).length = len := by simp [hll]
    refine ⟨l.map Prod.fst, ⟨by rw [hlf]; exact hlen, fun x hx => ?_⟩, rfl, by simp; rfl, vs_one ?_⟩
    · obtain ⟨y, hy, rfl⟩ := List.mem_map.1 hx
      obtain ⟨i, hi⟩ := List.mem_iff_getElem?.1 hy
      exact (hlp i y hi).1
    · rcases Nat.eq_zero_or_pos len with h0 | h0
      · subst h0
        have : l = [] := List.length_eq_zero_iff.1 hll
        subst this
        exact .lit0 _ _ _
      · have hx0 := hlp 0 l[0] (List.getElem?_eq_getElem (by omega))
        have hpos' : 0 < (l[0]).2.length := by rw [hx0.2.1]; exact hpos
        have hcell := hx0.2.2.2.2 0 _ (List.getElem?_eq_getElem hpos')
        have hspot : a.spot = none := by
          cases hsp : a.spot with
          | none => rfl
          | some q =>
            simp only [Nat.zero_mul, Addr.add, ↓reduceIte, World.cell?, hsp, Option.isSome_some] at hcell
            split at hcell <;> simp at hcell
        obtain ⟨b, o, sp⟩ := a
        simp only at hspot; subst hspot
        have hblk : b < w.heap.size := by
          simp only [Nat.zero_mul, Addr.add, ↓reduceIte, World.cell?] at hcell
          rcases Nat.lt_or_ge b w.heap.size with h' | h'
          · exact h'
          · simp [Array.getElem?_eq_none h'] at hcell
        have := V.lit_of (w := w) (B := fun b => b < w.heap.size) (l.map Prod.fst) b o m (fun i => ((l[i]?).map Prod.snd).getD []) (fun _ => hblk) (by rw [hlf]; exact hl)
          (fun i hi => by have hi' : i < l.length := by simpa using hi
                          rw [List.getElem?_eq_getElem hi']; exact (hlp i _ (List.getElem?_eq_getElem hi')).2.1)
          (fun i hi => by have hi' : i < l.length := by simpa using hi
                          rw [List.getElem?_eq_getElem hi']; exact (hlp i _ (List.getElem?_eq_getElem hi')).2.2.1)
          (fun i q hq => by
            rw [List.getElem?_map] at hq
            obtain ⟨y, hy, rfl⟩ := Option.map_eq_some_iff.1 hq
            rw [hy]; exact (hlp i y hy).2.2.2.1)
          (fun i hi j v hj => by
            have hi' : i < l.length := by simpa using hi
            rw [List.getElem?_eq_getElem hi'] at hj
            have := (hlp i _ (List.getElem?_eq_getElem hi')).2.2.2.2 j v hj
            rw [Addr.add_lit, Addr.add_lit] at this
            exact this)
        rw [hlf] at this
        exact this
end
end Go.Pm
namespace Go.Pm
open Go
section
variable {P : Program} {H : Type} {enc : TypeId × Value → H} {bulk : DataW H → Nat} {w : World}
theorem struct_parts (hbk : Bulk bulk) {t : Nat} {fs : Array Field} (ht : P.underlying t = some (.struct fs)) {N fuel : Nat} {cs : List Value} {d : DataW H} {ps : List MemPlace} (h : DataW.trod enc P w 0 (fun _ => true) true fuel t cs = some (d, ps)) (hb : bulk d ≤ N) :
    cs.length = P.cellsOf t ∧ ∀ (i : Nat) (f : Field), fs[i]? = some f → ∃ n d' ps', DataW.trod enc P w 0 (fun _ => true) true n f.type ((cs.drop f.offset).take (P.cellsOf f.type)) = some (d', ps') ∧ bulk d' ≤ N := by
  obtain ⟨xs, n, _, hx, hl, hlen, hf⟩ := DataW.trod_struct ht h
  simp at hx; obtain ⟨rfl, rfl⟩ := hx
  refine ⟨hl, fun i f hi => ?_⟩
  have hif : i < fs.size := by
    rcases Nat.lt_or_ge i fs.size with h' | h'
    · exact h'
    · simp [Array.getElem?_eq_none h'] at hi
  have hi' : i < xs.length := by omega
  refine ⟨n, (xs[i]).1, (xs[i]).2, ?_, Nat.le_trans (hbk.parts _ _ (List.mem_map.2 ⟨xs[i], List.getElem_mem hi', rfl⟩)) hb⟩
  have := hf i f hi
  simpa [List.getElem?_eq_getElem hi'] using this
theorem seg {α : Type} (cs : List α) (o s e : Nat) (h : e = o + s) : cs.drop o = (cs.drop o).take s ++ cs.drop e := by
  subst h; rw [← List.drop_drop, List.take_append_drop]
theorem seg_ones {cs : List Value} {o s e : Nat} (h : e = o + s) (h1 : ∀ v ∈ (cs.drop o).take s, v.oneCell' = true) (h2 : ∀ v ∈ cs.drop e, v.oneCell' = true) : ∀ v ∈ cs.drop o, v.oneCell' = true := by
  rw [seg cs o s e h]; intro v hv
  exact (List.mem_append.1 hv).elim (h1 v) (h2 v)
theorem seg_vs {w : World} {B : Nat → Prop} {β : Map} {cs : List Value} {o s e : Nat} {ps qs : List PV} (h : e = o + s) (h1 : Vs w B β ps ((cs.drop o).take s)) (h2 : Vs w B β qs (cs.drop e)) : Vs w B β (ps ++ qs) (cs.drop o) := by
  rw [seg cs o s e h]; exact h1.append h2
theorem seg_nil {w : World} {B : Nat → Prop} {β : Map} {cs : List Value} {n : Nat} (h : cs.length = n) : Vs w B β [] (cs.drop n) := by
  subst h; simp only [List.drop_length]; exact Vs.nil
theorem seg_none {cs : List Value} {n : Nat} (h : cs.length = n) : ∀ v ∈ cs.drop n, v.oneCell' = true := by
  subst h; simp only [List.drop_length]; exact fun v hv => by cases hv
end
end Go.Pm
