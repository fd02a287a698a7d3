import Derived.Test.YtjkkigeefoncmaaGreatG1
import Derived.Test.YtjkkigeefoncmaaGreatAwake
import Derived.Test.YtjkkigeefoncmaaGreatPmRec
set_option linter.all false
namespace Go.S
open Go Go.Pm Go.Proofs
noncomputable def pA : List PV → Option PV := fun ls => match ls with | [] => some (.bool true) | _ => none
noncomputable def EA : Env := Go.Pm.withP E 6 pA
theorem leA : Go.Pm.LE (lim EA) (lim E) := withP_le fun ls r h => by
  unfold pA at h; split at h
  · simp at h; subst h; exact awake_true
  · simp at h
/-! f148 -/
noncomputable def encA148 (x : Types × Int) : List PV := [Go.Pm.PV.agg [Go.Pm.PV.lit (Go.Pm.rows x.1.Nodes) Go.Pm.fl0, Go.Pm.PV.lit (Go.Pm.rows x.1.Edges) Go.Pm.fl0], Go.Pm.PV.int Go.IntKind.i64 x.2]
noncomputable def encR148 : (List Attr) → PV := (fun r => Go.Pm.PV.lit (Go.Pm.rows r) ⟨true, false⟩)
noncomputable def Body148 (g : Types × Int → Option (List Attr)) (x : Types × Int) : Option (List Attr) := f148B ⟨fun a0 a1 => g (a0, a1), fun _ _ => none, fun _ _ _ => none, none⟩ x.1 x.2
theorem inA148 : ∀ x y : Types × Int, encA148 x = encA148 y → x = y := fun x y h => by
  obtain ⟨⟨a00, a01⟩, a1⟩ := x
  obtain ⟨⟨b00, b01⟩, b1⟩ := y
  simpa [encA148, rows_iff, and_assoc] using h
theorem inR148 : ∀ x y : (List Attr), encR148 x = encR148 y → x = y := fun x y h => by simpa [encR148, rows_iff] using h
/-- One round of it, wherever the others are answered at once. -/
theorem rec148 (E' : Env) (hp : E'.primP 148 = none) (hE' : ∀ C, Fix E' (fun f => f == 148) C → Fix E isRec C) (hl : ∀ C ls, (level E' C).pureC 148 ls = (level E C).pureC 148 ls) :
    ∃ (g : Types × Int → Option (List Attr)) (p : List PV → Option PV), (∀ x, p (encA148 x) = (g x).map encR148) ∧ Go.Pm.LE (lim (Go.Pm.withP E' 148 p)) (lim E') ∧ ∀ x, g x = Body148 g x :=
  rec_ok encA148 encR148 Body148 hp inA148 inR148 fun C g hC hg x => by
    rw [hl]
    exact f148B_ok (R := ⟨fun a0 a1 => g (a0, a1), fun _ _ => none, fun _ _ _ => none, none⟩) (hE' C hC) ⟨fun t_Nodes t_Edges a => hg ((Types.mk t_Nodes t_Edges), a)⟩ x.1.Nodes x.1.Edges x.2
/-! f101 -/
noncomputable def encA101 (x : Types × Int) : List PV := [Go.Pm.PV.agg [Go.Pm.PV.lit (Go.Pm.rows x.1.Nodes) Go.Pm.fl0, Go.Pm.PV.lit (Go.Pm.rows x.1.Edges) Go.Pm.fl0], Go.Pm.PV.int Go.IntKind.i64 x.2]
noncomputable def encR101 : (List Attr) → PV := (fun r => Go.Pm.PV.lit (Go.Pm.rows r) ⟨true, false⟩)
noncomputable def Body101 (g : Types × Int → Option (List Attr)) (x : Types × Int) : Option (List Attr) := f101B ⟨fun _ _ => none, fun a0 a1 => g (a0, a1), fun _ _ _ => none, none⟩ x.1 x.2
theorem inA101 : ∀ x y : Types × Int, encA101 x = encA101 y → x = y := fun x y h => by
  obtain ⟨⟨a00, a01⟩, a1⟩ := x
  obtain ⟨⟨b00, b01⟩, b1⟩ := y
  simpa [encA101, rows_iff, and_assoc] using h
theorem inR101 : ∀ x y : (List Attr), encR101 x = encR101 y → x = y := fun x y h => by simpa [encR101, rows_iff] using h
/-- One round of it, wherever the others are answered at once. -/
theorem rec101 (E' : Env) (hp : E'.primP 101 = none) (hE' : ∀ C, Fix E' (fun f => f == 101) C → Fix E isRec C) (hl : ∀ C ls, (level E' C).pureC 101 ls = (level E C).pureC 101 ls) :
    ∃ (g : Types × Int → Option (List Attr)) (p : List PV → Option PV), (∀ x, p (encA101 x) = (g x).map encR101) ∧ Go.Pm.LE (lim (Go.Pm.withP E' 101 p)) (lim E') ∧ ∀ x, g x = Body101 g x :=
  rec_ok encA101 encR101 Body101 hp inA101 inR101 fun C g hC hg x => by
    rw [hl]
    exact f101B_ok (R := ⟨fun _ _ => none, fun a0 a1 => g (a0, a1), fun _ _ _ => none, none⟩) (hE' C hC) ⟨fun t_Nodes t_Edges a => hg ((Types.mk t_Nodes t_Edges), a)⟩ x.1.Nodes x.1.Edges x.2
/-! f93 -/
noncomputable def encA93 (x : Types × Int × Int) : List PV := [Go.Pm.PV.agg [Go.Pm.PV.lit (Go.Pm.rows x.1.Nodes) Go.Pm.fl0, Go.Pm.PV.lit (Go.Pm.rows x.1.Edges) Go.Pm.fl0], Go.Pm.PV.int Go.IntKind.i64 x.2.1, Go.Pm.PV.int Go.IntKind.i64 x.2.2]
noncomputable def encR93 : Bool → PV := (fun r => Go.Pm.PV.bool r)
noncomputable def Body93 (g : Types × Int × Int → Option Bool) (x : Types × Int × Int) : Option Bool := f93B ⟨fun _ _ => none, fun _ _ => none, fun a0 a1 a2 => g (a0, a1, a2), none⟩ x.1 x.2.1 x.2.2
theorem inA93 : ∀ x y : Types × Int × Int, encA93 x = encA93 y → x = y := fun x y h => by
  obtain ⟨⟨a00, a01⟩, a1, a2⟩ := x
  obtain ⟨⟨b00, b01⟩, b1, b2⟩ := y
  simpa [encA93, rows_iff, and_assoc] using h
theorem inR93 : ∀ x y : Bool, encR93 x = encR93 y → x = y := fun x y h => by simpa [encR93, rows_iff] using h
/-- One round of it, wherever the others are answered at once. -/
theorem rec93 (E' : Env) (hp : E'.primP 93 = none) (hE' : ∀ C, Fix E' (fun f => f == 93) C → Fix E isRec C) (hl : ∀ C ls, (level E' C).pureC 93 ls = (level E C).pureC 93 ls) :
    ∃ (g : Types × Int × Int → Option Bool) (p : List PV → Option PV), (∀ x, p (encA93 x) = (g x).map encR93) ∧ Go.Pm.LE (lim (Go.Pm.withP E' 93 p)) (lim E') ∧ ∀ x, g x = Body93 g x :=
  rec_ok encA93 encR93 Body93 hp inA93 inR93 fun C g hC hg x => by
    rw [hl]
    exact f93B_ok (R := ⟨fun _ _ => none, fun _ _ => none, fun a0 a1 a2 => g (a0, a1, a2), none⟩) (hE' C hC) ⟨fun t_Nodes t_Edges a b => hg ((Types.mk t_Nodes t_Edges), a, b)⟩ x.1.Nodes x.1.Edges x.2.1 x.2.2
theorem rec_all : ∃ (R : Recs) (C : Pm.Callee), Fix E isRec C ∧ RecOk C R ∧ Go.Pm.LE C (lim E) ∧ (∀ a0 a1, R.f148 a0 a1 = f148B R a0 a1) ∧ (∀ a0 a1, R.f101 a0 a1 = f101B R a0 a1) ∧ (∀ a0 a1 a2, R.f93 a0 a1 a2 = f93B R a0 a1 a2) ∧ R.f6 = some true := by
  obtain ⟨g148, p148, hp148, le148, eq148⟩ := rec148 EA (by rfl) (fun C hC => (((hC.more (Y := isRec) (fun f hf => by
      have : f ≠ 148 := fun e => by subst e; revert hf; decide
      simpa using this)).withP rfl))) (fun C ls => by rw [EA, withP_level (by decide)])
  obtain ⟨g101, p101, hp101, le101, eq101⟩ := rec101 (Go.Pm.withP EA 148 p148) (by rfl) (fun C hC => ((((hC.more (Y := isRec) (fun f hf => by
      have : f ≠ 101 := fun e => by subst e; revert hf; decide
      simpa using this)).withP rfl).withP rfl))) (fun C ls => by rw [withP_level (by decide), EA, withP_level (by decide)])
  obtain ⟨g93, p93, hp93, le93, eq93⟩ := rec93 (Go.Pm.withP (Go.Pm.withP EA 148 p148) 101 p101) (by rfl) (fun C hC => (((((hC.more (Y := isRec) (fun f hf => by
      have : f ≠ 93 := fun e => by subst e; revert hf; decide
      simpa using this)).withP rfl).withP rfl).withP rfl))) (fun C ls => by rw [withP_level (by decide), withP_level (by decide), EA, withP_level (by decide)])
  refine ⟨⟨fun a0 a1 => g148 (a0, a1), fun a0 a1 => g101 (a0, a1), fun a0 a1 a2 => g93 (a0, a1, a2), some true⟩, lim (Go.Pm.withP (Go.Pm.withP (Go.Pm.withP EA 148 p148) 101 p101) 93 p93), (((((lim_fix (Go.Pm.withP (Go.Pm.withP (Go.Pm.withP EA 148 p148) 101 p101) 93 p93) isRec).withP rfl).withP rfl).withP rfl).withP rfl), ?_, (((le93).trans le101).trans le148).trans leA, fun a0 a1 => eq148 (a0, a1), fun a0 a1 => eq101 (a0, a1), fun a0 a1 a2 => eq93 (a0, a1, a2), rfl⟩
  refine ⟨fun t_Nodes t_Edges a => by rw [lim_fix_p, withP_level (by decide), withP_level (by decide), withP_prim]; exact hp148 ((Types.mk t_Nodes t_Edges), a),
    fun t_Nodes t_Edges a => by rw [lim_fix_p, withP_level (by decide), withP_prim]; exact hp101 ((Types.mk t_Nodes t_Edges), a),
    fun t_Nodes t_Edges a b => by rw [lim_fix_p, withP_prim]; exact hp93 ((Types.mk t_Nodes t_Edges), a, b),
    by rw [lim_fix_p, withP_level (by decide), withP_level (by decide), withP_level (by decide), EA, withP_prim]; rfl⟩

end Go.S
