/-
  Data is told by its cells.
-/
import Derived.Test.YtjkkigeefoncmaaGreatPmTyped
import Derived.Test.YtjkkigeefoncmaaGreatPmLim
set_option linter.unusedVariables false
set_option linter.unusedSimpArgs false
namespace Go.Pm
open Go
class Inj (α : Type) [Enc α] : Prop where
  inj : ∀ a b : α, Enc.cells a = Enc.cells b → a = b
theorem rows_inj {α : Type} [Enc α] [Inj α] : ∀ {l m : List α}, rows l = rows m → l = m
  | [], [], _ => rfl
  | a :: l, b :: m, h => by
    simp only [rows, List.map_cons, List.cons.injEq] at h
    rw [Inj.inj a b h.1, rows_inj (l := l) (m := m) h.2]
  | [], _ :: _, h => by simp [rows] at h
  | _ :: _, [], h => by simp [rows] at h
theorem rows_iff {α : Type} [Enc α] [Inj α] {l m : List α} : rows l = rows m ↔ l = m := ⟨rows_inj, fun h => by rw [h]⟩
instance : Inj Int := ⟨fun a b h => by simpa [cells_int] using h⟩
instance : Inj Bool := ⟨fun a b h => by simpa [cells_bool] using h⟩
instance : Inj ByteArray := ⟨fun a b h => by simpa [cells_str] using h⟩
instance : Inj U8 := ⟨fun a b h => by cases a; cases b; simpa [cells_u8] using h⟩
instance {α : Type} [Enc α] [Inj α] : Inj (List α) := ⟨fun a b h => by simpa [cells_list, rows_iff] using h⟩

/-- A place that is a fixed point of a larger one, with functions that are answered at once. -/
theorem Fix.withP {E : Env} {F : Nat} {p : List PV → Option PV} {X : Nat → Bool} {C : Callee} (h : Fix (withP E F p) X C) (hF : X F = true) : Fix E X C :=
  ⟨fun f hf as => by rw [h.p f hf, withP_level (fun e => by rw [e, hF] at hf; cases hf)], fun f hf k as hp nx => by rw [h.r f hf, withP_level_r]⟩
theorem Fix.more {E : Env} {X Y : Nat → Bool} {C : Callee} (h : Fix E X C) (hXY : ∀ f, Y f = false → X f = false) : Fix E Y C :=
  ⟨fun f hf => h.p f (hXY f hf), fun f hf => h.r f (hXY f hf)⟩
end Go.Pm
