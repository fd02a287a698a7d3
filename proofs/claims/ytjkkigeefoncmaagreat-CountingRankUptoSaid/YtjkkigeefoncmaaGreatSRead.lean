import Derived.Test.YtjkkigeefoncmaaGreatSEnv
import Derived.Test.YtjkkigeefoncmaaGreatSTy
import Derived.Test.YtjkkigeefoncmaaGreatPmRead
import Derived.KernelRfl
set_option linter.all false
namespace Go.S
open Go Go.Pm Go.Proofs
theorem cz9 : Tryz.prog.cellsOf 9 = 1 := by kernel_rfl
theorem cz3 : Tryz.prog.cellsOf 3 = 1 := by kernel_rfl
theorem cz4 : Tryz.prog.cellsOf 4 = 1 := by kernel_rfl
theorem cz68 : Tryz.prog.cellsOf 68 = 1 := by kernel_rfl
theorem cz70 : Tryz.prog.cellsOf 70 = 4 := by kernel_rfl
theorem cz65 : Tryz.prog.cellsOf 65 = 1 := by kernel_rfl
theorem cz67 : Tryz.prog.cellsOf 67 = 4 := by kernel_rfl
theorem cz22 : Tryz.prog.cellsOf 22 = 1 := by kernel_rfl
theorem cz72 : Tryz.prog.cellsOf 72 = 7 := by kernel_rfl
theorem cz23 : Tryz.prog.cellsOf 23 = 1 := by kernel_rfl
theorem cz25 : Tryz.prog.cellsOf 25 = 2 := by kernel_rfl
theorem cz31 : Tryz.prog.cellsOf 31 = 1 := by kernel_rfl
theorem cz33 : Tryz.prog.cellsOf 33 = 2 := by kernel_rfl
theorem cz27 : Tryz.prog.cellsOf 27 = 1 := by kernel_rfl
theorem cz111 : Tryz.prog.cellsOf 111 = 3 := by kernel_rfl
theorem cz37 : Tryz.prog.cellsOf 37 = 1 := by kernel_rfl
theorem cz39 : Tryz.prog.cellsOf 39 = 2 := by kernel_rfl
theorem ra9 {H : Type} {enc : TypeId × Value → H} {bulk : DataW H → Nat} {w : World} (hbk : Bulk bulk) : ReadsAs Tryz.prog enc bulk w 9 ByteArray := reads_str hbk Tryz.underlying9 (by kernel_rfl)
theorem ra3 {H : Type} {enc : TypeId × Value → H} {bulk : DataW H → Nat} {w : World} (hbk : Bulk bulk) : ReadsAs Tryz.prog enc bulk w 3 Int := reads_int Tryz.underlying3 (by kernel_rfl)
theorem ra4 {H : Type} {enc : TypeId × Value → H} {bulk : DataW H → Nat} {w : World} (hbk : Bulk bulk) : ReadsAs Tryz.prog enc bulk w 4 Bool := reads_bool Tryz.underlying4 (by kernel_rfl)
theorem ra68 {H : Type} {enc : TypeId × Value → H} {bulk : DataW H → Nat} {w : World} (hbk : Bulk bulk) : ReadsAs Tryz.prog enc bulk w 68 (List ByteArray) := reads_list hbk Tryz.underlying68 (by kernel_rfl) (by decide) (ra9 hbk)
instance : Sized Attr := ⟨fun N x => Sized.ok N x.Name ∧ Sized.ok N x.Low ∧ Sized.ok N x.High ∧ Sized.ok N x.Names⟩
theorem sized_Attr {N : Nat} {x : Attr} : Sized.ok N x ↔ Sized.ok N x.Name ∧ Sized.ok N x.Low ∧ Sized.ok N x.High ∧ Sized.ok N x.Names := Iff.rfl
theorem ra70 {H : Type} {enc : TypeId × Value → H} {bulk : DataW H → Nat} {w : World} (hbk : Bulk bulk) : ReadsAs Tryz.prog enc bulk w 70 Attr := by
  refine ⟨by kernel_rfl, fun N fuel cs d ps h hb => ?_⟩
  obtain ⟨hl, hp⟩ := struct_parts hbk Tryz.underlying70 h hb
  obtain ⟨n0, d0, p0, h0, b0⟩ : ∃ n d q, DataW.trod enc Tryz.prog w 0 (fun _ => true) true n 9 ((cs.drop 0).take (Tryz.prog.cellsOf 9)) = some (d, q) ∧ bulk d ≤ N := hp 0 _ rfl
  rw [cz9] at h0
  obtain ⟨a0, k0, l0, o0, v0⟩ := (ra9 hbk).read N n0 _ d0 p0 h0 b0
  obtain ⟨n1, d1, p1, h1, b1⟩ : ∃ n d q, DataW.trod enc Tryz.prog w 0 (fun _ => true) true n 3 ((cs.drop 1).take (Tryz.prog.cellsOf 3)) = some (d, q) ∧ bulk d ≤ N := hp 1 _ rfl
  rw [cz3] at h1
  obtain ⟨a1, k1, l1, o1, v1⟩ := (ra3 hbk).read N n1 _ d1 p1 h1 b1
  obtain ⟨n2, d2, p2, h2, b2⟩ : ∃ n d q, DataW.trod enc Tryz.prog w 0 (fun _ => true) true n 3 ((cs.drop 2).take (Tryz.prog.cellsOf 3)) = some (d, q) ∧ bulk d ≤ N := hp 2 _ rfl
  rw [cz3] at h2
  obtain ⟨a2, k2, l2, o2, v2⟩ := (ra3 hbk).read N n2 _ d2 p2 h2 b2
  obtain ⟨n3, d3, p3, h3, b3⟩ : ∃ n d q, DataW.trod enc Tryz.prog w 0 (fun _ => true) true n 68 ((cs.drop 3).take (Tryz.prog.cellsOf 68)) = some (d, q) ∧ bulk d ≤ N := hp 3 _ rfl
  rw [cz68] at h3
  obtain ⟨a3, k3, l3, o3, v3⟩ := (ra68 hbk).read N n3 _ d3 p3 h3 b3
  have e : cs.length = 4 := hl.trans (by kernel_rfl)
  exact ⟨⟨a0, a1, a2, a3⟩, ⟨k0, k1, k2, k3⟩, e, (seg_ones (o := 0) (s := 1) (e := 1) rfl o0 (seg_ones (o := 1) (s := 1) (e := 2) rfl o1 (seg_ones (o := 2) (s := 1) (e := 3) rfl o2 (seg_ones (o := 3) (s := 1) (e := 4) rfl o3 (seg_none e))))), (seg_vs (o := 0) (s := 1) (e := 1) rfl v0 (seg_vs (o := 1) (s := 1) (e := 2) rfl v1 (seg_vs (o := 2) (s := 1) (e := 3) rfl v2 (seg_vs (o := 3) (s := 1) (e := 4) rfl v3 (seg_nil e)))))⟩
theorem ra65 {H : Type} {enc : TypeId × Value → H} {bulk : DataW H → Nat} {w : World} (hbk : Bulk bulk) : ReadsAs Tryz.prog enc bulk w 65 (List Attr) := reads_list hbk Tryz.underlying65 (by kernel_rfl) (by decide) (ra70 hbk)
instance : Sized NodeType := ⟨fun N x => Sized.ok N x.Name ∧ Sized.ok N x.Parent ∧ Sized.ok N x.Abstract ∧ Sized.ok N x.Attrs⟩
theorem sized_NodeType {N : Nat} {x : NodeType} : Sized.ok N x ↔ Sized.ok N x.Name ∧ Sized.ok N x.Parent ∧ Sized.ok N x.Abstract ∧ Sized.ok N x.Attrs := Iff.rfl
theorem ra67 {H : Type} {enc : TypeId × Value → H} {bulk : DataW H → Nat} {w : World} (hbk : Bulk bulk) : ReadsAs Tryz.prog enc bulk w 67 NodeType := by
  refine ⟨by kernel_rfl, fun N fuel cs d ps h hb => ?_⟩
  obtain ⟨hl, hp⟩ := struct_parts hbk Tryz.underlying67 h hb
  obtain ⟨n0, d0, p0, h0, b0⟩ : ∃ n d q, DataW.trod enc Tryz.prog w 0 (fun _ => true) true n 9 ((cs.drop 0).take (Tryz.prog.cellsOf 9)) = some (d, q) ∧ bulk d ≤ N := hp 0 _ rfl
  rw [cz9] at h0
  obtain ⟨a0, k0, l0, o0, v0⟩ := (ra9 hbk).read N n0 _ d0 p0 h0 b0
  obtain ⟨n1, d1, p1, h1, b1⟩ : ∃ n d q, DataW.trod enc Tryz.prog w 0 (fun _ => true) true n 3 ((cs.drop 1).take (Tryz.prog.cellsOf 3)) = some (d, q) ∧ bulk d ≤ N := hp 1 _ rfl
  rw [cz3] at h1
  obtain ⟨a1, k1, l1, o1, v1⟩ := (ra3 hbk).read N n1 _ d1 p1 h1 b1
  obtain ⟨n2, d2, p2, h2, b2⟩ : ∃ n d q, DataW.trod enc Tryz.prog w 0 (fun _ => true) true n 4 ((cs.drop 2).take (Tryz.prog.cellsOf 4)) = some (d, q) ∧ bulk d ≤ N := hp 2 _ rfl
  rw [cz4] at h2
  obtain ⟨a2, k2, l2, o2, v2⟩ := (ra4 hbk).read N n2 _ d2 p2 h2 b2
  obtain ⟨n3, d3, p3, h3, b3⟩ : ∃ n d q, DataW.trod enc Tryz.prog w 0 (fun _ => true) true n 65 ((cs.drop 3).take (Tryz.prog.cellsOf 65)) = some (d, q) ∧ bulk d ≤ N := hp 3 _ rfl
  rw [cz65] at h3
  obtain ⟨a3, k3, l3, o3, v3⟩ := (ra65 hbk).read N n3 _ d3 p3 h3 b3
  have e : cs.length = 4 := hl.trans (by kernel_rfl)
  exact ⟨⟨a0, a1, a2, a3⟩, ⟨k0, k1, k2, k3⟩, e, (seg_ones (o := 0) (s := 1) (e := 1) rfl o0 (seg_ones (o := 1) (s := 1) (e := 2) rfl o1 (seg_ones (o := 2) (s := 1) (e := 3) rfl o2 (seg_ones (o := 3) (s := 1) (e := 4) rfl o3 (seg_none e))))), (seg_vs (o := 0) (s := 1) (e := 1) rfl v0 (seg_vs (o := 1) (s := 1) (e := 2) rfl v1 (seg_vs (o := 2) (s := 1) (e := 3) rfl v2 (seg_vs (o := 3) (s := 1) (e := 4) rfl v3 (seg_nil e)))))⟩
theorem ra22 {H : Type} {enc : TypeId × Value → H} {bulk : DataW H → Nat} {w : World} (hbk : Bulk bulk) : ReadsAs Tryz.prog enc bulk w 22 (List NodeType) := reads_list hbk Tryz.underlying22 (by kernel_rfl) (by decide) (ra67 hbk)
instance : Sized EdgeType := ⟨fun N x => Sized.ok N x.Name ∧ Sized.ok N x.From ∧ Sized.ok N x.To ∧ Sized.ok N x.OutLow ∧ Sized.ok N x.OutHigh ∧ Sized.ok N x.InLow ∧ Sized.ok N x.InHigh⟩
theorem sized_EdgeType {N : Nat} {x : EdgeType} : Sized.ok N x ↔ Sized.ok N x.Name ∧ Sized.ok N x.From ∧ Sized.ok N x.To ∧ Sized.ok N x.OutLow ∧ Sized.ok N x.OutHigh ∧ Sized.ok N x.InLow ∧ Sized.ok N x.InHigh := Iff.rfl
theorem ra72 {H : Type} {enc : TypeId × Value → H} {bulk : DataW H → Nat} {w : World} (hbk : Bulk bulk) : ReadsAs Tryz.prog enc bulk w 72 EdgeType := by
  refine ⟨by kernel_rfl, fun N fuel cs d ps h hb => ?_⟩
  obtain ⟨hl, hp⟩ := struct_parts hbk Tryz.underlying72 h hb
  obtain ⟨n0, d0, p0, h0, b0⟩ : ∃ n d q, DataW.trod enc Tryz.prog w 0 (fun _ => true) true n 9 ((cs.drop 0).take (Tryz.prog.cellsOf 9)) = some (d, q) ∧ bulk d ≤ N := hp 0 _ rfl
  rw [cz9] at h0
  obtain ⟨a0, k0, l0, o0, v0⟩ := (ra9 hbk).read N n0 _ d0 p0 h0 b0
  obtain ⟨n1, d1, p1, h1, b1⟩ : ∃ n d q, DataW.trod enc Tryz.prog w 0 (fun _ => true) true n 3 ((cs.drop 1).take (Tryz.prog.cellsOf 3)) = some (d, q) ∧ bulk d ≤ N := hp 1 _ rfl
  rw [cz3] at h1
  obtain ⟨a1, k1, l1, o1, v1⟩ := (ra3 hbk).read N n1 _ d1 p1 h1 b1
  obtain ⟨n2, d2, p2, h2, b2⟩ : ∃ n d q, DataW.trod enc Tryz.prog w 0 (fun _ => true) true n 3 ((cs.drop 2).take (Tryz.prog.cellsOf 3)) = some (d, q) ∧ bulk d ≤ N := hp 2 _ rfl
  rw [cz3] at h2
  obtain ⟨a2, k2, l2, o2, v2⟩ := (ra3 hbk).read N n2 _ d2 p2 h2 b2
  obtain ⟨n3, d3, p3, h3, b3⟩ : ∃ n d q, DataW.trod enc Tryz.prog w 0 (fun _ => true) true n 3 ((cs.drop 3).take (Tryz.prog.cellsOf 3)) = some (d, q) ∧ bulk d ≤ N := hp 3 _ rfl
  rw [cz3] at h3
  obtain ⟨a3, k3, l3, o3, v3⟩ := (ra3 hbk).read N n3 _ d3 p3 h3 b3
  obtain ⟨n4, d4, p4, h4, b4⟩ : ∃ n d q, DataW.trod enc Tryz.prog w 0 (fun _ => true) true n 3 ((cs.drop 4).take (Tryz.prog.cellsOf 3)) = some (d, q) ∧ bulk d ≤ N := hp 4 _ rfl
  rw [cz3] at h4
  obtain ⟨a4, k4, l4, o4, v4⟩ := (ra3 hbk).read N n4 _ d4 p4 h4 b4
  obtain ⟨n5, d5, p5, h5, b5⟩ : ∃ n d q, DataW.trod enc Tryz.prog w 0 (fun _ => true) true n 3 ((cs.drop 5).take (Tryz.prog.cellsOf 3)) = some (d, q) ∧ bulk d ≤ N := hp 5 _ rfl
  rw [cz3] at h5
  obtain ⟨a5, k5, l5, o5, v5⟩ := (ra3 hbk).read N n5 _ d5 p5 h5 b5
  obtain ⟨n6, d6, p6, h6, b6⟩ : ∃ n d q, DataW.trod enc Tryz.prog w 0 (fun _ => true) true n 3 ((cs.drop 6).take (Tryz.prog.cellsOf 3)) = some (d, q) ∧ bulk d ≤ N := hp 6 _ rfl
  rw [cz3] at h6
  obtain ⟨a6, k6, l6, o6, v6⟩ := (ra3 hbk).read N n6 _ d6 p6 h6 b6
  have e : cs.length = 7 := hl.trans (by kernel_rfl)
  exact ⟨⟨a0, a1, a2, a3, a4, a5, a6⟩, ⟨k0, k1, k2, k3, k4, k5, k6⟩, e, (seg_ones (o := 0) (s := 1) (e := 1) rfl o0 (seg_ones (o := 1) (s := 1) (e := 2) rfl o1 (seg_ones (o := 2) (s := 1) (e := 3) rfl o2 (seg_ones (o := 3) (s := 1) (e := 4) rfl o3 (seg_ones (o := 4) (s := 1) (e := 5) rfl o4 (seg_ones (o := 5) (s := 1) (e := 6) rfl o5 (seg_ones (o := 6) (s := 1) (e := 7) rfl o6 (seg_none e)))))))), (seg_vs (o := 0) (s := 1) (e := 1) rfl v0 (seg_vs (o := 1) (s := 1) (e := 2) rfl v1 (seg_vs (o := 2) (s := 1) (e := 3) rfl v2 (seg_vs (o := 3) (s := 1) (e := 4) rfl v3 (seg_vs (o := 4) (s := 1) (e := 5) rfl v4 (seg_vs (o := 5) (s := 1) (e := 6) rfl v5 (seg_vs (o := 6) (s := 1) (e := 7) rfl v6 (seg_nil e))))))))⟩
theorem ra23 {H : Type} {enc : TypeId × Value → H} {bulk : DataW H → Nat} {w : World} (hbk : Bulk bulk) : ReadsAs Tryz.prog enc bulk w 23 (List EdgeType) := reads_list hbk Tryz.underlying23 (by kernel_rfl) (by decide) (ra72 hbk)
instance : Sized Types := ⟨fun N x => Sized.ok N x.Nodes ∧ Sized.ok N x.Edges⟩
theorem sized_Types {N : Nat} {x : Types} : Sized.ok N x ↔ Sized.ok N x.Nodes ∧ Sized.ok N x.Edges := Iff.rfl
theorem ra25 {H : Type} {enc : TypeId × Value → H} {bulk : DataW H → Nat} {w : World} (hbk : Bulk bulk) : ReadsAs Tryz.prog enc bulk w 25 Types := by
  refine ⟨by kernel_rfl, fun N fuel cs d ps h hb => ?_⟩
  obtain ⟨hl, hp⟩ := struct_parts hbk Tryz.underlying25 h hb
  obtain ⟨n0, d0, p0, h0, b0⟩ : ∃ n d q, DataW.trod enc Tryz.prog w 0 (fun _ => true) true n 22 ((cs.drop 0).take (Tryz.prog.cellsOf 22)) = some (d, q) ∧ bulk d ≤ N := hp 0 _ rfl
  rw [cz22] at h0
  obtain ⟨a0, k0, l0, o0, v0⟩ := (ra22 hbk).read N n0 _ d0 p0 h0 b0
  obtain ⟨n1, d1, p1, h1, b1⟩ : ∃ n d q, DataW.trod enc Tryz.prog w 0 (fun _ => true) true n 23 ((cs.drop 1).take (Tryz.prog.cellsOf 23)) = some (d, q) ∧ bulk d ≤ N := hp 1 _ rfl
  rw [cz23] at h1
  obtain ⟨a1, k1, l1, o1, v1⟩ := (ra23 hbk).read N n1 _ d1 p1 h1 b1
  have e : cs.length = 2 := hl.trans (by kernel_rfl)
  exact ⟨⟨a0, a1⟩, ⟨k0, k1⟩, e, (seg_ones (o := 0) (s := 1) (e := 1) rfl o0 (seg_ones (o := 1) (s := 1) (e := 2) rfl o1 (seg_none e))), (seg_vs (o := 0) (s := 1) (e := 1) rfl v0 (seg_vs (o := 1) (s := 1) (e := 2) rfl v1 (seg_nil e)))⟩
theorem ra31 {H : Type} {enc : TypeId × Value → H} {bulk : DataW H → Nat} {w : World} (hbk : Bulk bulk) : ReadsAs Tryz.prog enc bulk w 31 (List Int) := reads_list hbk Tryz.underlying31 (by kernel_rfl) (by decide) (ra3 hbk)
instance : Sized Stage := ⟨fun N x => Sized.ok N x.Weights ∧ Sized.ok N x.Removed⟩
theorem sized_Stage {N : Nat} {x : Stage} : Sized.ok N x ↔ Sized.ok N x.Weights ∧ Sized.ok N x.Removed := Iff.rfl
theorem ra33 {H : Type} {enc : TypeId × Value → H} {bulk : DataW H → Nat} {w : World} (hbk : Bulk bulk) : ReadsAs Tryz.prog enc bulk w 33 Stage := by
  refine ⟨by kernel_rfl, fun N fuel cs d ps h hb => ?_⟩
  obtain ⟨hl, hp⟩ := struct_parts hbk Tryz.underlying33 h hb
  obtain ⟨n0, d0, p0, h0, b0⟩ : ∃ n d q, DataW.trod enc Tryz.prog w 0 (fun _ => true) true n 31 ((cs.drop 0).take (Tryz.prog.cellsOf 31)) = some (d, q) ∧ bulk d ≤ N := hp 0 _ rfl
  rw [cz31] at h0
  obtain ⟨a0, k0, l0, o0, v0⟩ := (ra31 hbk).read N n0 _ d0 p0 h0 b0
  obtain ⟨n1, d1, p1, h1, b1⟩ : ∃ n d q, DataW.trod enc Tryz.prog w 0 (fun _ => true) true n 31 ((cs.drop 1).take (Tryz.prog.cellsOf 31)) = some (d, q) ∧ bulk d ≤ N := hp 1 _ rfl
  rw [cz31] at h1
  obtain ⟨a1, k1, l1, o1, v1⟩ := (ra31 hbk).read N n1 _ d1 p1 h1 b1
  have e : cs.length = 2 := hl.trans (by kernel_rfl)
  exact ⟨⟨a0, a1⟩, ⟨k0, k1⟩, e, (seg_ones (o := 0) (s := 1) (e := 1) rfl o0 (seg_ones (o := 1) (s := 1) (e := 2) rfl o1 (seg_none e))), (seg_vs (o := 0) (s := 1) (e := 1) rfl v0 (seg_vs (o := 1) (s := 1) (e := 2) rfl v1 (seg_nil e)))⟩
theorem ra27 {H : Type} {enc : TypeId × Value → H} {bulk : DataW H → Nat} {w : World} (hbk : Bulk bulk) : ReadsAs Tryz.prog enc bulk w 27 (List Stage) := reads_list hbk Tryz.underlying27 (by kernel_rfl) (by decide) (ra33 hbk)
instance : Sized Edge := ⟨fun N x => Sized.ok N x.Type_ ∧ Sized.ok N x.From ∧ Sized.ok N x.To⟩
theorem sized_Edge {N : Nat} {x : Edge} : Sized.ok N x ↔ Sized.ok N x.Type_ ∧ Sized.ok N x.From ∧ Sized.ok N x.To := Iff.rfl
theorem ra111 {H : Type} {enc : TypeId × Value → H} {bulk : DataW H → Nat} {w : World} (hbk : Bulk bulk) : ReadsAs Tryz.prog enc bulk w 111 Edge := by
  refine ⟨by kernel_rfl, fun N fuel cs d ps h hb => ?_⟩
  obtain ⟨hl, hp⟩ := struct_parts hbk Tryz.underlying111 h hb
  obtain ⟨n0, d0, p0, h0, b0⟩ : ∃ n d q, DataW.trod enc Tryz.prog w 0 (fun _ => true) true n 3 ((cs.drop 0).take (Tryz.prog.cellsOf 3)) = some (d, q) ∧ bulk d ≤ N := hp 0 _ rfl
  rw [cz3] at h0
  obtain ⟨a0, k0, l0, o0, v0⟩ := (ra3 hbk).read N n0 _ d0 p0 h0 b0
  obtain ⟨n1, d1, p1, h1, b1⟩ : ∃ n d q, DataW.trod enc Tryz.prog w 0 (fun _ => true) true n 3 ((cs.drop 1).take (Tryz.prog.cellsOf 3)) = some (d, q) ∧ bulk d ≤ N := hp 1 _ rfl
  rw [cz3] at h1
  obtain ⟨a1, k1, l1, o1, v1⟩ := (ra3 hbk).read N n1 _ d1 p1 h1 b1
  obtain ⟨n2, d2, p2, h2, b2⟩ : ∃ n d q, DataW.trod enc Tryz.prog w 0 (fun _ => true) true n 3 ((cs.drop 2).take (Tryz.prog.cellsOf 3)) = some (d, q) ∧ bulk d ≤ N := hp 2 _ rfl
  rw [cz3] at h2
  obtain ⟨a2, k2, l2, o2, v2⟩ := (ra3 hbk).read N n2 _ d2 p2 h2 b2
  have e : cs.length = 3 := hl.trans (by kernel_rfl)
  exact ⟨⟨a0, a1, a2⟩, ⟨k0, k1, k2⟩, e, (seg_ones (o := 0) (s := 1) (e := 1) rfl o0 (seg_ones (o := 1) (s := 1) (e := 2) rfl o1 (seg_ones (o := 2) (s := 1) (e := 3) rfl o2 (seg_none e)))), (seg_vs (o := 0) (s := 1) (e := 1) rfl v0 (seg_vs (o := 1) (s := 1) (e := 2) rfl v1 (seg_vs (o := 2) (s := 1) (e := 3) rfl v2 (seg_nil e))))⟩
theorem ra37 {H : Type} {enc : TypeId × Value → H} {bulk : DataW H → Nat} {w : World} (hbk : Bulk bulk) : ReadsAs Tryz.prog enc bulk w 37 (List Edge) := reads_list hbk Tryz.underlying37 (by kernel_rfl) (by decide) (ra111 hbk)
instance : Sized Graph := ⟨fun N x => Sized.ok N x.Nodes ∧ Sized.ok N x.Edges⟩
theorem sized_Graph {N : Nat} {x : Graph} : Sized.ok N x ↔ Sized.ok N x.Nodes ∧ Sized.ok N x.Edges := Iff.rfl
theorem ra39 {H : Type} {enc : TypeId × Value → H} {bulk : DataW H → Nat} {w : World} (hbk : Bulk bulk) : ReadsAs Tryz.prog enc bulk w 39 Graph := by
  refine ⟨by kernel_rfl, fun N fuel cs d ps h hb => ?_⟩
  obtain ⟨hl, hp⟩ := struct_parts hbk Tryz.underlying39 h hb
  obtain ⟨n0, d0, p0, h0, b0⟩ : ∃ n d q, DataW.trod enc Tryz.prog w 0 (fun _ => true) true n 31 ((cs.drop 0).take (Tryz.prog.cellsOf 31)) = some (d, q) ∧ bulk d ≤ N := hp 0 _ rfl
  rw [cz31] at h0
  obtain ⟨a0, k0, l0, o0, v0⟩ := (ra31 hbk).read N n0 _ d0 p0 h0 b0
  obtain ⟨n1, d1, p1, h1, b1⟩ : ∃ n d q, DataW.trod enc Tryz.prog w 0 (fun _ => true) true n 37 ((cs.drop 1).take (Tryz.prog.cellsOf 37)) = some (d, q) ∧ bulk d ≤ N := hp 1 _ rfl
  rw [cz37] at h1
  obtain ⟨a1, k1, l1, o1, v1⟩ := (ra37 hbk).read N n1 _ d1 p1 h1 b1
  have e : cs.length = 2 := hl.trans (by kernel_rfl)
  exact ⟨⟨a0, a1⟩, ⟨k0, k1⟩, e, (seg_ones (o := 0) (s := 1) (e := 1) rfl o0 (seg_ones (o := 1) (s := 1) (e := 2) rfl o1 (seg_none e))), (seg_vs (o := 0) (s := 1) (e := 1) rfl v0 (seg_vs (o := 1) (s := 1) (e := 2) rfl v1 (seg_nil e)))⟩
end Go.S
