/-
  CountingRank: for every input of bulk at most 1048576 the call returns true, and each argument reads afterwards as it read before: counting.Rank gives what the document's Rank gives (rank or error), for whatever types, stages and graph.
-/
/- A row of the bench. -/
import Derived.Test.YtjkkigeefoncmaaGreatSRec
import Derived.Test.YtjkkigeefoncmaaGreatSInsert
import Derived.Test.YtjkkigeefoncmaaGreatSRead
import Derived.Test.YtjkkigeefoncmaaGreatL8
import Derived.Test.YtjkkigeefoncmaaGreatPmRow
import Derived.Test.YtjkkigeefoncmaaGreatRows
set_option linter.all false
namespace Go.S
open Go Go.Pm Go.Proofs Go.ChangeShapes Go.WideShapes Go.ChangeAt Go.RowKit
open Go.Proofs.YtjkkigeefoncmaaGreat

/-! bulk -/
theorem bulk_one {H : Type} (d : DataW H) : 1 ≤ Rows.uptoBulk d := by
  cases d with
  | lit l => cases l <;> simp [Rows.uptoBulk]
  | _ => simp [Rows.uptoBulk]
theorem bulk_part {H : Type} {d : DataW H} {l : List (DataW H)} (h : d ∈ l) : Rows.uptoBulk d ≤ Rows.uptoBulkAll l := by
  induction l with
  | nil => cases h
  | cons x r ih =>
    simp only [Rows.uptoBulkAll]
    cases List.mem_cons.1 h with
    | inl e => subst e; omega
    | inr e => have := ih e; omega
theorem bulk_len {H : Type} (l : List (DataW H)) : l.length ≤ Rows.uptoBulkAll l := by
  induction l with
  | nil => simp [Rows.uptoBulkAll]
  | cons x r ih => have := bulk_one x; simp only [Rows.uptoBulkAll, List.length_cons]; omega
theorem bulk_ok {H : Type} : Bulk (Rows.uptoBulk (H := H)) where
  str := fun b => by simp [Rows.uptoBulk]
  elems := fun es sp d h => by have := bulk_part h; simp only [Rows.uptoBulk]; omega
  len := fun es sp => by have := bulk_len es; simp only [Rows.uptoBulk]; omega
  parts := fun ps d h => by have := bulk_part h; simp only [Rows.uptoBulk]; omega

theorem own : ownKnob Tryz.prog.godebug = none := by kernel_rfl
theorem laidOut : laidOutB Tryz.prog = true := by kernel_rfl

theorem eval4 (t : Types) (s : List Stage) (g : Graph) (ht : Sized.ok 1048576 t) (hs : Sized.ok 1048576 s) (hg : Sized.ok 1048576 g) :
    (lim E).pureC 4 [.agg (Enc.cells t), .lit (rows s) fl0, .agg (Enc.cells g)] = some (.bool true) := by
  obtain ⟨R, C, hC, hR, hle, h148, h101, h93, h6⟩ := rec_all
  refine hle.p ?_
  have := f4_ok hC hR t.Nodes t.Edges s g.Nodes g.Edges
  rw [law4 R h148 h101 h93 h6 _ _ _ ht hs hg] at this
  exact this

theorem params4_ok : ∀ t ∈ Tryz.f4.params.toList, Tryz.prog.readableRec t = true ∧ t < Tryz.prog.types.size := by
  rw [Tryz.params4]
  exact List.forall_mem_cons.2 ⟨⟨by kernel_rfl, of_decide_eq_true (by kernel_rfl)⟩, List.forall_mem_cons.2 ⟨⟨by kernel_rfl, of_decide_eq_true (by kernel_rfl)⟩, List.forall_mem_cons.2 ⟨⟨by kernel_rfl, of_decide_eq_true (by kernel_rfl)⟩, fun _ h => by cases h⟩⟩⟩
set_option maxRecDepth 100000 in
theorem contract4 (H : Type) (enc : TypeId × Value → H) (W : World) (base : Nat) (args : Array Value) (ds gs : List (DataW H)) (before : List MemPlace)
    (hval : ∀ (j : Nat) t v, Tryz.f4.params[j]? = some t → args[j]? = some v → Value.okWide Tryz.prog W .any base t v)
    (hW : DataW.Whole enc Tryz.prog Tryz.f4.params.toList Rows.countingRankSpec.vars false W args.toList ds gs before) (hk : Rows.uptoSmall H (ds ++ gs) = true) :
    Calls Tryz.prog 4 args W fun e W' => ∃ v, e = .returned v ∧ Rows.countingRankSpec.post enc Tryz.prog Tryz.f4 false true false false W args v W' := by
  have hW' := hW
  obtain ⟨p, q, hA0, hV, rfl, hfz, hnd⟩ := hW
  have hA : DataW.TrodAll enc Tryz.prog W 0 (fun _ => true) true Tryz.f4.params.toList args.toList ds p := hA0
  rw [Tryz.params4] at hA hval
  obtain ⟨v0, vs0, d0, ds0, p0, q0, e0, rfl, rfl, h0, r0⟩ := trodAll_cons hA
  obtain ⟨v1, vs1, d1, ds1, p1, q1, rfl, rfl, rfl, h1, r1⟩ := trodAll_cons r0
  obtain ⟨v2, vs2, d2, ds2, p2, q2, rfl, rfl, rfl, h2, r2⟩ := trodAll_cons r1
  obtain ⟨rfl, rfl, rfl⟩ := trodAll_nil r2
  obtain rfl : args = #[v0, v1, v2] := by rw [← Array.toList_inj]; exact e0
  have hbd : Rows.uptoBulkAll ([d0, d1, d2] ++ gs) ≤ 1048576 := of_decide_eq_true hk
  have b0 : Rows.uptoBulk d0 ≤ 1048576 := Nat.le_trans (bulk_part (by simp)) hbd
  have b1 : Rows.uptoBulk d1 ≤ 1048576 := Nat.le_trans (bulk_part (by simp)) hbd
  have b2 : Rows.uptoBulk d2 ≤ 1048576 := Nat.le_trans (bulk_part (by simp)) hbd
  obtain ⟨t, k0, w0⟩ := arg_agg (ra25 bulk_ok) Tryz.underlying25 (hval 0 _ v0 rfl rfl) h0 b0
  obtain ⟨s, k1, w1⟩ := arg_slice (ra27 bulk_ok) Tryz.underlying27 (hval 1 _ v1 rfl rfl) h1 b1
  obtain ⟨g, k2, w2⟩ := arg_agg (ra39 bulk_ok) Tryz.underlying39 (hval 2 _ v2 rfl rfl) h2 b2
  refine (law_calls E_ok (eval4 t s g k0 k1 k2) (args := #[v0, v1, v2]) (Vs.cons w0 (Vs.cons w1 (Vs.cons w2 Vs.nil)))).mono fun e W' ⟨he, hb⟩ => ?_
  obtain ⟨rfl, rfl⟩ := trodVars_none hV
  exact ⟨_, he, law_post laidOut (by kernel_rfl) Tryz.underlying4 params4_ok rfl hW' rfl hb⟩
set_option maxRecDepth 100000 in
theorem lifted4 (os : Os) (started : os.Started) (H : Type) (enc : TypeId × Value → H) (F : Stop.Interp) :
    ReturnsInHanded {} Tryz.checked os 4 .any ((Rows.OpenSpec.upto Rows.countingRankSpec).pre6 enc Tryz.prog Tryz.f4 Rows.countingRankUptoRow.domain false) (((Rows.OpenSpec.upto Rows.countingRankSpec).at F).post enc Tryz.prog Tryz.f4 false true false false) := by
  refine returnsInHanded_of_cond (C := Tryz.checked) (s := Rows.OpenSpec.upto Rows.countingRankSpec) (k := Rows.uptoSmall) rfl own started (by kernel_rfl) Tryz.func4
    (OpenSpec.witness (enc := enc) (C := Tryz.checked) (s := Rows.OpenSpec.upto Rows.countingRankSpec) (k := Rows.uptoSmall) rfl false ⟨#[], #[.agg #[.slice none 0 0, .slice none 0 0], .slice none 0 0, .agg #[.slice none 0 0, .slice none 0 0]], []⟩ 8 (by kernel_rfl) (by kernel_rfl) (by kernel_rfl)
      (x := ([.agg [.nil, .nil], .nil, .agg [.nil, .nil]], [], [])) (by kernel_rfl) rfl (by kernel_rfl)) ?_
  intro W base args ds gs before hval hW _ hk _
  exact contract4 H enc W base args ds gs before hval hW hk
end Go.S
namespace Go.Proofs.YtjkkigeefoncmaaGreat
open Go Go.S Go.ChangeShapes Go.WideShapes Go.ChangeAt Go.RowKit
theorem countingRankUpto_holds : Rows.CountingRankUptoSaid :=
  OpenClaim.holds_of_cond 4 Tryz.f4 rfl rfl rfl rfl rfl rfl rfl ⟨rfl, rfl, rfl, rfl, rfl⟩ rfl rfl rfl rfl rfl (by kernel_rfl) Tryz.func4 (by kernel_rfl)
    (of_decide_eq_true (by kernel_rfl)) (by unfold Func.isWrapper; first | (rw [if_pos (by decide +kernel)]; kernel_rfl) | (rw [if_neg (by decide +kernel)]; exact ⟨rfl, rfl⟩))
    (fun os started H enc _ F => lifted4 os started H enc F)
end Go.Proofs.YtjkkigeefoncmaaGreat
