import Derived.Test.YtjkkigeefoncmaaGreatSEnv
import Derived.Test.YtjkkigeefoncmaaGreatSTy
set_option linter.all false
set_option maxRecDepth 100000
set_option maxHeartbeats 4000000
namespace Go.S
open Go Go.Pm Go.Proofs
structure Recs where
  f148 : Types → Int → Option (List Attr)
  f101 : Types → Int → Option (List Attr)
  f93 : Types → Int → Int → Option Bool
  f6 : Option Bool
structure RecOk (C : Go.Pm.Callee) (R : Recs) : Prop where
  f148 : ∀ (t_Nodes : (List NodeType)) (t_Edges : (List EdgeType)) (a : Int), C.pureC 148 [Go.Pm.PV.agg [Go.Pm.PV.lit (Go.Pm.rows t_Nodes) Go.Pm.fl0, Go.Pm.PV.lit (Go.Pm.rows t_Edges) Go.Pm.fl0], Go.Pm.PV.int Go.IntKind.i64 a] = Option.map (fun r => Go.Pm.PV.lit (Go.Pm.rows r) ⟨true, false⟩) (R.f148 (Types.mk t_Nodes t_Edges) a)
  f101 : ∀ (t_Nodes : (List NodeType)) (t_Edges : (List EdgeType)) (a : Int), C.pureC 101 [Go.Pm.PV.agg [Go.Pm.PV.lit (Go.Pm.rows t_Nodes) Go.Pm.fl0, Go.Pm.PV.lit (Go.Pm.rows t_Edges) Go.Pm.fl0], Go.Pm.PV.int Go.IntKind.i64 a] = Option.map (fun r => Go.Pm.PV.lit (Go.Pm.rows r) ⟨true, false⟩) (R.f101 (Types.mk t_Nodes t_Edges) a)
  f93 : ∀ (t_Nodes : (List NodeType)) (t_Edges : (List EdgeType)) (a : Int) (b : Int), C.pureC 93 [Go.Pm.PV.agg [Go.Pm.PV.lit (Go.Pm.rows t_Nodes) Go.Pm.fl0, Go.Pm.PV.lit (Go.Pm.rows t_Edges) Go.Pm.fl0], Go.Pm.PV.int Go.IntKind.i64 a, Go.Pm.PV.int Go.IntKind.i64 b] = Option.map (fun r => Go.Pm.PV.bool r) (R.f93 (Types.mk t_Nodes t_Edges) a b)
  f6 : C.pureC 6 [] = Option.map (fun r => Go.Pm.PV.bool r) (R.f6)
/-! scarfjoint/types.attrs -/
noncomputable def f148B (R : Recs) (t : Types) (a : Int) : Option (List Attr) :=
  (Option.bind (Go.Pm.at? t.Nodes a) fun x0 =>
   (if (decide ((0 : Int) ≤ x0.Parent)) then
   (Option.bind (Go.S.Recs.f148 R t x0.Parent) fun x1 =>
   (Option.bind (Go.Pm.at? t.Nodes a) fun x2 =>
   (if (decide ((List.length (x1 ++ x2.Attrs)) ≤ Go.Pm.bound)) then
   (some (x1 ++ x2.Attrs))
  else none)))
  else (Option.bind (Go.Pm.at? t.Nodes a) fun x3 =>
   (if (decide ((List.length x3.Attrs) ≤ Go.Pm.bound)) then
   (some x3.Attrs)
  else none))))
structure RecOk_f148 (C : Go.Pm.Callee) (R : Recs) : Prop where
  f148 : ∀ (t_Nodes : (List NodeType)) (t_Edges : (List EdgeType)) (a : Int), C.pureC 148 [Go.Pm.PV.agg [Go.Pm.PV.lit (Go.Pm.rows t_Nodes) Go.Pm.fl0, Go.Pm.PV.lit (Go.Pm.rows t_Edges) Go.Pm.fl0], Go.Pm.PV.int Go.IntKind.i64 a] = Option.map (fun r => Go.Pm.PV.lit (Go.Pm.rows r) ⟨true, false⟩) (R.f148 (Types.mk t_Nodes t_Edges) a)
theorem f148B_ok {C : Go.Pm.Callee} {R : Recs} (hC : Go.Pm.Fix E isRec C) (hR : RecOk_f148 C R) (t_Nodes : (List NodeType)) (t_Edges : (List EdgeType)) (a : Int)  :
    (Go.Pm.level E C).pureC 148 [Go.Pm.PV.agg [Go.Pm.PV.lit (Go.Pm.rows t_Nodes) Go.Pm.fl0, Go.Pm.PV.lit (Go.Pm.rows t_Edges) Go.Pm.fl0], Go.Pm.PV.int Go.IntKind.i64 a] = Option.map (fun r => Go.Pm.PV.lit (Go.Pm.rows r) ⟨true, false⟩) (f148B R (Types.mk t_Nodes t_Edges) a) := by
  rw [Go.Pm.level_pure C (fn := Tryz.f148) _ rfl rfl rfl]
  simp only [Go.Pm.W0, Go.Pm.W1, Go.Pm.W2, Go.Pm.W3, Go.Pm.W4, Go.Pm.W5, Go.Pm.W6, Go.Pm.W7, Go.Pm.W8, Go.Pm.W9, Go.Pm.Wc, WE, WT, WS, Nat.reduceAdd, Nat.reduceSub, Nat.reduceMul, Nat.reduceBEq, Nat.reduceLeDiff, Nat.reduceEqDiff, Nat.reduceLT, ↓reduceIte, nt148, co148, re148, rk148, Tryz.f148, ir148, hR.f148, f148B]
/-! scarfjoint/scarfjointref04.attrs -/
noncomputable def f101B (R : Recs) (t : Types) (a : Int) : Option (List Attr) :=
  (if (decide (a < (0 : Int))) then
   (some ([] : List Attr))
  else (Option.bind (Go.Pm.at? t.Nodes a) fun x0 =>
   (Option.bind (Go.S.Recs.f101 R t x0.Parent) fun x1 =>
   (if (decide ((List.length x1) ≤ Go.Pm.bound)) then
   (Option.bind (Go.Pm.at? t.Nodes a) fun x2 =>
   (if (decide ((List.length (x1 ++ x2.Attrs)) ≤ Go.Pm.bound)) then
   (some (x1 ++ x2.Attrs))
  else none))
  else none))))
structure RecOk_f101 (C : Go.Pm.Callee) (R : Recs) : Prop where
  f101 : ∀ (t_Nodes : (List NodeType)) (t_Edges : (List EdgeType)) (a : Int), C.pureC 101 [Go.Pm.PV.agg [Go.Pm.PV.lit (Go.Pm.rows t_Nodes) Go.Pm.fl0, Go.Pm.PV.lit (Go.Pm.rows t_Edges) Go.Pm.fl0], Go.Pm.PV.int Go.IntKind.i64 a] = Option.map (fun r => Go.Pm.PV.lit (Go.Pm.rows r) ⟨true, false⟩) (R.f101 (Types.mk t_Nodes t_Edges) a)
theorem f101B_ok {C : Go.Pm.Callee} {R : Recs} (hC : Go.Pm.Fix E isRec C) (hR : RecOk_f101 C R) (t_Nodes : (List NodeType)) (t_Edges : (List EdgeType)) (a : Int)  :
    (Go.Pm.level E C).pureC 101 [Go.Pm.PV.agg [Go.Pm.PV.lit (Go.Pm.rows t_Nodes) Go.Pm.fl0, Go.Pm.PV.lit (Go.Pm.rows t_Edges) Go.Pm.fl0], Go.Pm.PV.int Go.IntKind.i64 a] = Option.map (fun r => Go.Pm.PV.lit (Go.Pm.rows r) ⟨true, false⟩) (f101B R (Types.mk t_Nodes t_Edges) a) := by
  rw [Go.Pm.level_pure C (fn := Tryz.f101) _ rfl rfl rfl]
  simp only [Go.Pm.W0, Go.Pm.W1, Go.Pm.W2, Go.Pm.W3, Go.Pm.W4, Go.Pm.W5, Go.Pm.W6, Go.Pm.W7, Go.Pm.W8, Go.Pm.W9, Go.Pm.Wc, WE, WT, WS, Nat.reduceAdd, Nat.reduceSub, Nat.reduceMul, Nat.reduceBEq, Nat.reduceLeDiff, Nat.reduceEqDiff, Nat.reduceLT, ↓reduceIte, nt101, co101, re101, rk101, Tryz.f101, pa101_3, ir101, hR.f101, f101B]
/-! scarfjoint/scarfjointref04.Below1 -/
noncomputable def f93B (R : Recs) (t : Types) (a : Int) (b : Int) : Option Bool :=
  (if (a == b) then
   (some Bool.true)
  else (if (decide ((0 : Int) ≤ a)) then
   (Option.bind (Go.Pm.at? t.Nodes a) fun x0 =>
   (Option.bind (Go.S.Recs.f93 R t x0.Parent b) fun x1 =>
   (some x1)))
  else (some Bool.false)))
structure RecOk_f93 (C : Go.Pm.Callee) (R : Recs) : Prop where
  f93 : ∀ (t_Nodes : (List NodeType)) (t_Edges : (List EdgeType)) (a : Int) (b : Int), C.pureC 93 [Go.Pm.PV.agg [Go.Pm.PV.lit (Go.Pm.rows t_Nodes) Go.Pm.fl0, Go.Pm.PV.lit (Go.Pm.rows t_Edges) Go.Pm.fl0], Go.Pm.PV.int Go.IntKind.i64 a, Go.Pm.PV.int Go.IntKind.i64 b] = Option.map (fun r => Go.Pm.PV.bool r) (R.f93 (Types.mk t_Nodes t_Edges) a b)
theorem f93B_ok {C : Go.Pm.Callee} {R : Recs} (hC : Go.Pm.Fix E isRec C) (hR : RecOk_f93 C R) (t_Nodes : (List NodeType)) (t_Edges : (List EdgeType)) (a : Int) (b : Int)  :
    (Go.Pm.level E C).pureC 93 [Go.Pm.PV.agg [Go.Pm.PV.lit (Go.Pm.rows t_Nodes) Go.Pm.fl0, Go.Pm.PV.lit (Go.Pm.rows t_Edges) Go.Pm.fl0], Go.Pm.PV.int Go.IntKind.i64 a, Go.Pm.PV.int Go.IntKind.i64 b] = Option.map (fun r => Go.Pm.PV.bool r) (f93B R (Types.mk t_Nodes t_Edges) a b) := by
  rw [Go.Pm.level_pure C (fn := Tryz.f93) _ rfl rfl rfl]
  simp only [Go.Pm.W0, Go.Pm.W1, Go.Pm.W2, Go.Pm.W3, Go.Pm.W4, Go.Pm.W5, Go.Pm.W6, Go.Pm.W7, Go.Pm.W8, Go.Pm.W9, Go.Pm.Wc, WE, WT, WS, Nat.reduceAdd, Nat.reduceSub, Nat.reduceMul, Nat.reduceBEq, Nat.reduceLeDiff, Nat.reduceEqDiff, Nat.reduceLT, ↓reduceIte, nt93, co93, re93, rk93, Tryz.f93, pa93_1, ir93, hR.f93, f93B]
/-! scarfjoint/scarfjointref04.Few -/
noncomputable def f13_l4 (k_4 : Int) (x7 : Go.S.Attr) (k2 : Int → Option Bool) : Nat → Int → Option Bool
  | 0, _ => none
  | m4 + 1, j_8 =>
    (if (decide (j_8 < (((List.length x7.Names) : Nat) : Int))) then
     (Option.bind (Go.Pm.at? x7.Names j_8) fun x9 =>
     (if (decide ((40 : Int) < (((ByteArray.size x9) : Nat) : Int))) then
     (some Bool.false)
    else (f13_l4 k_4 x7 k2 m4 (Go.Pm.w64 (j_8 + (1 : Int))))))
    else (k2 (Go.Pm.w64 (k_4 + (1 : Int)))))
noncomputable def f13_l2 (t : Types) (n_0 : Int) (i_1 : Int) (x2 : Go.S.NodeType) (k0 : Int → Int → Option Bool) : Nat → Int → Option Bool
  | 0, _ => none
  | m2 + 1, k_4 =>
    (Option.bind (Go.Pm.at? t.Nodes i_1) fun x5 =>
     (if (decide (k_4 < (((List.length x5.Attrs) : Nat) : Int))) then
     (Option.bind (Go.Pm.at? t.Nodes i_1) fun x6 =>
     (Option.bind (Go.Pm.at? x6.Attrs k_4) fun x7 =>
     (if (decide ((40 : Int) < (((ByteArray.size x7.Name) : Nat) : Int))) then
     (some Bool.false)
    else (if (decide ((25 : Int) < (((List.length x7.Names) : Nat) : Int))) then
     (some Bool.false)
    else (f13_l4 k_4 x7 (f13_l2 t n_0 i_1 x2 k0 m2) Go.Pm.loopMax (0 : Int))))))
    else (k0 (Go.Pm.w64 (n_0 + (((List.length x2.Attrs) : Nat) : Int))) (Go.Pm.w64 (i_1 + (1 : Int))))))
noncomputable def f13_l6 (t : Types)  : Nat → Int → Option Bool
  | 0, _ => none
  | m6 + 1, i_10 =>
    (if (decide (i_10 < (((List.length t.Edges) : Nat) : Int))) then
     (Option.bind (Go.Pm.at? t.Edges i_10) fun x11 =>
     (if (decide ((40 : Int) < (((ByteArray.size x11.Name) : Nat) : Int))) then
     (some Bool.false)
    else (f13_l6 t m6 (Go.Pm.w64 (i_10 + (1 : Int))))))
    else (some Bool.true))
noncomputable def f13_l0 (t : Types)  : Nat → Int → Int → Option Bool
  | 0, _, _ => none
  | m0 + 1, n_0, i_1 =>
    (if (decide (i_1 < (((List.length t.Nodes) : Nat) : Int))) then
     (Option.bind (Go.Pm.at? t.Nodes i_1) fun x2 =>
     (if (decide ((30 : Int) < (Go.Pm.w64 (n_0 + (((List.length x2.Attrs) : Nat) : Int))))) then
     (some Bool.false)
    else (Option.bind (Go.Pm.at? t.Nodes i_1) fun x3 =>
     (if (decide ((40 : Int) < (((ByteArray.size x3.Name) : Nat) : Int))) then
     (some Bool.false)
    else (f13_l2 t n_0 i_1 x2 (f13_l0 t m0) Go.Pm.loopMax (0 : Int))))))
    else (f13_l6 t Go.Pm.loopMax (0 : Int)))
noncomputable def f13 (t : Types) : Option Bool :=
  (if (decide ((20 : Int) < (((List.length t.Nodes) : Nat) : Int))) then
   (some Bool.false)
  else (if (decide ((30 : Int) < (((List.length t.Edges) : Nat) : Int))) then
   (some Bool.false)
  else (f13_l0 t Go.Pm.loopMax (0 : Int) (0 : Int))))
theorem f13_l4_ok {C : Go.Pm.Callee} {R : Recs} (hC : Go.Pm.Fix E isRec C) (hR : RecOk C R) {t_Nodes : (List NodeType)} {t_Edges : (List EdgeType)} {n_0 : Int} {i_1 : Int} {x2 : Go.S.NodeType} {k_4 : Int} {x7 : Go.S.Attr} {m2 : Nat} {m0 : Nat} {k2 : Int → Option Bool} (hk2 : ∀ (z2 : Int), Go.Pm.lp (Go.Pm.machP E 13 C) [(Go.Pm.Fr.blk 2), (Go.Pm.Fr.blk 1), (Go.Pm.Fr.seq 0 [1, 1, 0, 0, 1, 0, 1, 1, 1]), (Go.Pm.Fr.loop 0 [0, 0, 1, 0, 1, 1, 1] m0), (Go.Pm.Fr.blk 0), (Go.Pm.Fr.seq 0 [1, 1, 1, 1])] 2 [0, 0, 1, 1, 1, 0, 0, 1, 0, 0, 1, 0, 1, 1, 1] m2 ⟨Go.Pm.PV.undef :: (Go.Pm.PV.ptr 0 0) :: Go.Pm.PV.undef :: Go.Pm.PV.int Go.IntKind.i64 ((Go.Pm.w64 (n_0 + (((List.length x2.Attrs) : Nat) : Int)))) :: Go.Pm.PV.int Go.IntKind.i64 (i_1) :: Go.Pm.PV.int Go.IntKind.i64 z2 :: Go.Pm.PV.undef :: Go.Pm.PV.undef :: Go.Pm.PV.undef :: Go.Pm.PV.undef :: Go.Pm.PV.undef :: Go.Pm.PV.undef :: Go.Pm.PV.undef :: Go.Pm.PV.undef :: Go.Pm.PV.undef :: Go.Pm.PV.undef :: Go.Pm.PV.undef :: Go.Pm.PV.undef :: Go.Pm.PV.undef :: Go.Pm.PV.undef :: Go.Pm.PV.undef :: Go.Pm.PV.undef :: Go.Pm.PV.undef :: Go.Pm.PV.undef :: Go.Pm.PV.undef :: Go.Pm.PV.undef :: Go.Pm.PV.undef :: Go.Pm.PV.undef :: Go.Pm.PV.undef :: Go.Pm.PV.undef :: Go.Pm.PV.undef :: Go.Pm.PV.undef :: Go.Pm.PV.undef :: Go.Pm.PV.undef :: Go.Pm.PV.undef :: Go.Pm.PV.undef :: Go.Pm.PV.undef :: Go.Pm.PV.undef :: Go.Pm.PV.undef :: Go.Pm.PV.undef :: Go.Pm.PV.undef :: Go.Pm.PV.undef :: Go.Pm.PV.undef :: Go.Pm.PV.undef :: Go.Pm.PV.undef :: Go.Pm.PV.undef :: Go.Pm.PV.undef :: Go.Pm.PV.undef :: Go.Pm.PV.undef :: Go.Pm.PV.undef :: Go.Pm.PV.undef :: Go.Pm.PV.undef :: Go.Pm.PV.undef :: Go.Pm.PV.undef :: Go.Pm.PV.undef :: Go.Pm.PV.undef :: Go.Pm.PV.undef :: Go.Pm.PV.undef :: Go.Pm.PV.undef :: Go.Pm.PV.undef :: Go.Pm.PV.undef :: Go.Pm.PV.undef :: Go.Pm.PV.undef :: Go.Pm.PV.undef :: Go.Pm.PV.undef :: Go.Pm.PV.undef :: Go.Pm.PV.undef :: Go.Pm.PV.undef :: Go.Pm.PV.undef :: Go.Pm.PV.undef :: Go.Pm.PV.undef :: Go.Pm.PV.undef :: Go.Pm.PV.undef :: Go.Pm.PV.undef :: Go.Pm.PV.undef :: Go.Pm.PV.undef :: Go.Pm.PV.undef :: Go.Pm.PV.undef :: Go.Pm.PV.undef :: Go.Pm.PV.undef :: Go.Pm.PV.undef :: Go.Pm.PV.undef :: Go.Pm.PV.undef :: Go.Pm.PV.undef :: Go.Pm.PV.undef :: Go.Pm.PV.undef :: Go.Pm.PV.undef :: Go.Pm.PV.undef :: Go.Pm.PV.undef :: Go.Pm.PV.undef :: Go.Pm.PV.undef :: Go.Pm.PV.undef :: Go.Pm.PV.undef :: Go.Pm.PV.undef :: Go.Pm.PV.undef :: Go.Pm.PV.undef :: Go.Pm.PV.undef :: Go.Pm.PV.undef :: Go.Pm.PV.undef :: Go.Pm.PV.undef :: Go.Pm.PV.undef :: Go.Pm.PV.undef :: Go.Pm.PV.undef :: Go.Pm.PV.undef :: Go.Pm.PV.undef :: Go.Pm.PV.undef :: [], [(0, Go.Pm.PObj.box [Go.Pm.PV.lit (Go.Pm.rows (t_Nodes)) Go.Pm.fl0, Go.Pm.PV.lit (Go.Pm.rows (t_Edges)) Go.Pm.fl0])], 1⟩ = Option.map (fun r => Go.Pm.PV.bool r) (k2 z2)) :
    ∀ (m4 : Nat) (j_8 : Int) , Go.Pm.lp (Go.Pm.machP E 13 C) [(Go.Pm.Fr.blk 4), (Go.Pm.Fr.blk 3), (Go.Pm.Fr.seq 2 [1, 1, 0, 0, 1, 1, 1, 0, 0, 1, 0, 0, 1, 0, 1, 1, 1]), (Go.Pm.Fr.loop 2 [0, 0, 1, 1, 1, 0, 0, 1, 0, 0, 1, 0, 1, 1, 1] m2), (Go.Pm.Fr.blk 2), (Go.Pm.Fr.blk 1), (Go.Pm.Fr.seq 0 [1, 1, 0, 0, 1, 0, 1, 1, 1]), (Go.Pm.Fr.loop 0 [0, 0, 1, 0, 1, 1, 1] m0), (Go.Pm.Fr.blk 0), (Go.Pm.Fr.seq 0 [1, 1, 1, 1])] 4 [0, 0, 1, 1, 1, 0, 0, 1, 0, 0, 1, 1, 1, 0, 0, 1, 0, 0, 1, 0, 1, 1, 1] m4 ⟨Go.Pm.PV.undef :: (Go.Pm.PV.ptr 0 0) :: Go.Pm.PV.undef :: Go.Pm.PV.int Go.IntKind.i64 ((Go.Pm.w64 (n_0 + (((List.length x2.Attrs) : Nat) : Int)))) :: Go.Pm.PV.int Go.IntKind.i64 (i_1) :: Go.Pm.PV.int Go.IntKind.i64 (k_4) :: (Go.Pm.PV.ptr 1 0) :: Go.Pm.PV.int Go.IntKind.i64 j_8 :: Go.Pm.PV.undef :: Go.Pm.PV.undef :: Go.Pm.PV.undef :: Go.Pm.PV.undef :: Go.Pm.PV.undef :: Go.Pm.PV.undef :: Go.Pm.PV.undef :: Go.Pm.PV.undef :: Go.Pm.PV.undef :: Go.Pm.PV.undef :: Go.Pm.PV.undef :: Go.Pm.PV.undef :: Go.Pm.PV.undef :: Go.Pm.PV.undef :: Go.Pm.PV.undef :: Go.Pm.PV.undef :: Go.Pm.PV.undef :: Go.Pm.PV.undef :: Go.Pm.PV.undef :: Go.Pm.PV.undef :: Go.Pm.PV.undef :: Go.Pm.PV.undef :: Go.Pm.PV.undef :: Go.Pm.PV.undef :: Go.Pm.PV.undef :: Go.Pm.PV.undef :: Go.Pm.PV.undef :: Go.Pm.PV.undef :: Go.Pm.PV.undef :: Go.Pm.PV.undef :: Go.Pm.PV.undef :: Go.Pm.PV.undef :: Go.Pm.PV.undef :: Go.Pm.PV.undef :: Go.Pm.PV.undef :: Go.Pm.PV.undef :: Go.Pm.PV.undef :: Go.Pm.PV.undef :: Go.Pm.PV.undef :: Go.Pm.PV.undef :: Go.Pm.PV.undef :: Go.Pm.PV.undef :: Go.Pm.PV.undef :: Go.Pm.PV.undef :: Go.Pm.PV.undef :: Go.Pm.PV.undef :: Go.Pm.PV.undef :: Go.Pm.PV.undef :: Go.Pm.PV.undef :: Go.Pm.PV.undef :: Go.Pm.PV.undef :: Go.Pm.PV.undef :: Go.Pm.PV.undef :: Go.Pm.PV.undef :: Go.Pm.PV.undef :: Go.Pm.PV.undef :: Go.Pm.PV.undef :: Go.Pm.PV.undef :: Go.Pm.PV.undef :: Go.Pm.PV.undef :: Go.Pm.PV.undef :: Go.Pm.PV.undef :: Go.Pm.PV.undef :: Go.Pm.PV.undef :: Go.Pm.PV.undef :: Go.Pm.PV.undef :: Go.Pm.PV.undef :: Go.Pm.PV.undef :: Go.Pm.PV.undef :: Go.Pm.PV.undef :: Go.Pm.PV.undef :: Go.Pm.PV.undef :: Go.Pm.PV.undef :: Go.Pm.PV.undef :: Go.Pm.PV.undef :: Go.Pm.PV.undef :: Go.Pm.PV.undef :: Go.Pm.PV.undef :: Go.Pm.PV.undef :: Go.Pm.PV.undef :: Go.Pm.PV.undef :: Go.Pm.PV.undef :: Go.Pm.PV.undef :: Go.Pm.PV.undef :: Go.Pm.PV.undef :: Go.Pm.PV.undef :: Go.Pm.PV.undef :: Go.Pm.PV.undef :: Go.Pm.PV.undef :: Go.Pm.PV.undef :: Go.Pm.PV.undef :: Go.Pm.PV.undef :: Go.Pm.PV.undef :: Go.Pm.PV.undef :: Go.Pm.PV.undef :: Go.Pm.PV.undef :: Go.Pm.PV.undef :: Go.Pm.PV.undef :: [], [(0, Go.Pm.PObj.box [Go.Pm.PV.lit (Go.Pm.rows (t_Nodes)) Go.Pm.fl0, Go.Pm.PV.lit (Go.Pm.rows (t_Edges)) Go.Pm.fl0]), (1, Go.Pm.PObj.box [Go.Pm.PV.str (x7.Name), Go.Pm.PV.int Go.IntKind.i64 (x7.Low), Go.Pm.PV.int Go.IntKind.i64 (x7.High), Go.Pm.PV.lit (Go.Pm.rows (x7.Names)) (Go.Pm.Fl.mk Bool.false Bool.false)])], 2⟩ = Option.map (fun r => Go.Pm.PV.bool r) (f13_l4 k_4 x7 k2 m4 j_8) := by
  intro m4
  induction m4 with
  | zero => intros; rw [Go.Pm.lp_zero]; rfl
  | succ m4 ih =>
    intro j_8
    rw [Go.Pm.lp_succ]
    simp only [Go.Pm.W0, Go.Pm.W1, Go.Pm.W2, Go.Pm.W3, Go.Pm.W4, Go.Pm.W5, Go.Pm.W6, Go.Pm.W7, Go.Pm.W8, Go.Pm.W9, Go.Pm.Wc, WE, WT, WS, Nat.reduceAdd, Nat.reduceSub, Nat.reduceMul, Nat.reduceBEq, Nat.reduceLeDiff, Nat.reduceEqDiff, Nat.reduceLT, ↓reduceIte, nt13, co13, re13, rk13, Tryz.f13, kp13_0, kp13_2, kp13_4, kp13_6, f13_l4, ih, hk2]
theorem f13_l2_ok {C : Go.Pm.Callee} {R : Recs} (hC : Go.Pm.Fix E isRec C) (hR : RecOk C R) {t_Nodes : (List NodeType)} {t_Edges : (List EdgeType)} {n_0 : Int} {i_1 : Int} {x2 : Go.S.NodeType} {m0 : Nat} {k0 : Int → Int → Option Bool} (hk0 : ∀ (z0 : Int) (z1 : Int), Go.Pm.lp (Go.Pm.machP E 13 C) [(Go.Pm.Fr.blk 0), (Go.Pm.Fr.seq 0 [1, 1, 1, 1])] 0 [0, 0, 1, 0, 1, 1, 1] m0 ⟨Go.Pm.PV.undef :: (Go.Pm.PV.ptr 0 0) :: Go.Pm.PV.undef :: Go.Pm.PV.int Go.IntKind.i64 z0 :: Go.Pm.PV.int Go.IntKind.i64 z1 :: Go.Pm.PV.undef :: Go.Pm.PV.undef :: Go.Pm.PV.undef :: Go.Pm.PV.undef :: Go.Pm.PV.undef :: Go.Pm.PV.undef :: Go.Pm.PV.undef :: Go.Pm.PV.undef :: Go.Pm.PV.undef :: Go.Pm.PV.undef :: Go.Pm.PV.undef :: Go.Pm.PV.undef :: Go.Pm.PV.undef :: Go.Pm.PV.undef :: Go.Pm.PV.undef :: Go.Pm.PV.undef :: Go.Pm.PV.undef :: Go.Pm.PV.undef :: Go.Pm.PV.undef :: Go.Pm.PV.undef :: Go.Pm.PV.undef :: Go.Pm.PV.undef :: Go.Pm.PV.undef :: Go.Pm.PV.undef :: Go.Pm.PV.undef :: Go.Pm.PV.undef :: Go.Pm.PV.undef :: Go.Pm.PV.undef :: Go.Pm.PV.undef :: Go.Pm.PV.undef :: Go.Pm.PV.undef :: Go.Pm.PV.undef :: Go.Pm.PV.undef :: Go.Pm.PV.undef :: Go.Pm.PV.undef :: Go.Pm.PV.undef :: Go.Pm.PV.undef :: Go.Pm.PV.undef :: Go.Pm.PV.undef :: Go.Pm.PV.undef :: Go.Pm.PV.undef :: Go.Pm.PV.undef :: Go.Pm.PV.undef :: Go.Pm.PV.undef :: Go.Pm.PV.undef :: Go.Pm.PV.undef :: Go.Pm.PV.undef :: Go.Pm.PV.undef :: Go.Pm.PV.undef :: Go.Pm.PV.undef :: Go.Pm.PV.undef :: Go.Pm.PV.undef :: Go.Pm.PV.undef :: Go.Pm.PV.undef :: Go.Pm.PV.undef :: Go.Pm.PV.undef :: Go.Pm.PV.undef :: Go.Pm.PV.undef :: Go.Pm.PV.undef :: Go.Pm.PV.undef :: Go.Pm.PV.undef :: Go.Pm.PV.undef :: Go.Pm.PV.undef :: Go.Pm.PV.undef :: Go.Pm.PV.undef :: Go.Pm.PV.undef :: Go.Pm.PV.undef :: Go.Pm.PV.undef :: Go.Pm.PV.undef :: Go.Pm.PV.undef :: Go.Pm.PV.undef :: Go.Pm.PV.undef :: Go.Pm.PV.undef :: Go.Pm.PV.undef :: Go.Pm.PV.undef :: Go.Pm.PV.undef :: Go.Pm.PV.undef :: Go.Pm.PV.undef :: Go.Pm.PV.undef :: Go.Pm.PV.undef :: Go.Pm.PV.undef :: Go.Pm.PV.undef :: Go.Pm.PV.undef :: Go.Pm.PV.undef :: Go.Pm.PV.undef :: Go.Pm.PV.undef :: Go.Pm.PV.undef :: Go.Pm.PV.undef :: Go.Pm.PV.undef :: Go.Pm.PV.undef :: Go.Pm.PV.undef :: Go.Pm.PV.undef :: Go.Pm.PV.undef :: Go.Pm.PV.undef :: Go.Pm.PV.undef :: Go.Pm.PV.undef :: Go.Pm.PV.undef :: Go.Pm.PV.undef :: Go.Pm.PV.undef :: Go.Pm.PV.undef :: Go.Pm.PV.undef :: [], [(0, Go.Pm.PObj.box [Go.Pm.PV.lit (Go.Pm.rows (t_Nodes)) Go.Pm.fl0, Go.Pm.PV.lit (Go.Pm.rows (t_Edges)) Go.Pm.fl0])], 1⟩ = Option.map (fun r => Go.Pm.PV.bool r) (k0 z0 z1)) :
    ∀ (m2 : Nat) (k_4 : Int) , Go.Pm.lp (Go.Pm.machP E 13 C) [(Go.Pm.Fr.blk 2), (Go.Pm.Fr.blk 1), (Go.Pm.Fr.seq 0 [1, 1, 0, 0, 1, 0, 1, 1, 1]), (Go.Pm.Fr.loop 0 [0, 0, 1, 0, 1, 1, 1] m0), (Go.Pm.Fr.blk 0), (Go.Pm.Fr.seq 0 [1, 1, 1, 1])] 2 [0, 0, 1, 1, 1, 0, 0, 1, 0, 0, 1, 0, 1, 1, 1] m2 ⟨Go.Pm.PV.undef :: (Go.Pm.PV.ptr 0 0) :: Go.Pm.PV.undef :: Go.Pm.PV.int Go.IntKind.i64 ((Go.Pm.w64 (n_0 + (((List.length x2.Attrs) : Nat) : Int)))) :: Go.Pm.PV.int Go.IntKind.i64 (i_1) :: Go.Pm.PV.int Go.IntKind.i64 k_4 :: Go.Pm.PV.undef :: Go.Pm.PV.undef :: Go.Pm.PV.undef :: Go.Pm.PV.undef :: Go.Pm.PV.undef :: Go.Pm.PV.undef :: Go.Pm.PV.undef :: Go.Pm.PV.undef :: Go.Pm.PV.undef :: Go.Pm.PV.undef :: Go.Pm.PV.undef :: Go.Pm.PV.undef :: Go.Pm.PV.undef :: Go.Pm.PV.undef :: Go.Pm.PV.undef :: Go.Pm.PV.undef :: Go.Pm.PV.undef :: Go.Pm.PV.undef :: Go.Pm.PV.undef :: Go.Pm.PV.undef :: Go.Pm.PV.undef :: Go.Pm.PV.undef :: Go.Pm.PV.undef :: Go.Pm.PV.undef :: Go.Pm.PV.undef :: Go.Pm.PV.undef :: Go.Pm.PV.undef :: Go.Pm.PV.undef :: Go.Pm.PV.undef :: Go.Pm.PV.undef :: Go.Pm.PV.undef :: Go.Pm.PV.undef :: Go.Pm.PV.undef :: Go.Pm.PV.undef :: Go.Pm.PV.undef :: Go.Pm.PV.undef :: Go.Pm.PV.undef :: Go.Pm.PV.undef :: Go.Pm.PV.undef :: Go.Pm.PV.undef :: Go.Pm.PV.undef :: Go.Pm.PV.undef :: Go.Pm.PV.undef :: Go.Pm.PV.undef :: Go.Pm.PV.undef :: Go.Pm.PV.undef :: Go.Pm.PV.undef :: Go.Pm.PV.undef :: Go.Pm.PV.undef :: Go.Pm.PV.undef :: Go.Pm.PV.undef :: Go.Pm.PV.undef :: Go.Pm.PV.undef :: Go.Pm.PV.undef :: Go.Pm.PV.undef :: Go.Pm.PV.undef :: Go.Pm.PV.undef :: Go.Pm.PV.undef :: Go.Pm.PV.undef :: Go.Pm.PV.undef :: Go.Pm.PV.undef :: Go.Pm.PV.undef :: Go.Pm.PV.undef :: Go.Pm.PV.undef :: Go.Pm.PV.undef :: Go.Pm.PV.undef :: Go.Pm.PV.undef :: Go.Pm.PV.undef :: Go.Pm.PV.undef :: Go.Pm.PV.undef :: Go.Pm.PV.undef :: Go.Pm.PV.undef :: Go.Pm.PV.undef :: Go.Pm.PV.undef :: Go.Pm.PV.undef :: Go.Pm.PV.undef :: Go.Pm.PV.undef :: Go.Pm.PV.undef :: Go.Pm.PV.undef :: Go.Pm.PV.undef :: Go.Pm.PV.undef :: Go.Pm.PV.undef :: Go.Pm.PV.undef :: Go.Pm.PV.undef :: Go.Pm.PV.undef :: Go.Pm.PV.undef :: Go.Pm.PV.undef :: Go.Pm.PV.undef :: Go.Pm.PV.undef :: Go.Pm.PV.undef :: Go.Pm.PV.undef :: Go.Pm.PV.undef :: Go.Pm.PV.undef :: Go.Pm.PV.undef :: Go.Pm.PV.undef :: Go.Pm.PV.undef :: Go.Pm.PV.undef :: Go.Pm.PV.undef :: Go.Pm.PV.undef :: Go.Pm.PV.undef :: [], [(0, Go.Pm.PObj.box [Go.Pm.PV.lit (Go.Pm.rows (t_Nodes)) Go.Pm.fl0, Go.Pm.PV.lit (Go.Pm.rows (t_Edges)) Go.Pm.fl0])], 1⟩ = Option.map (fun r => Go.Pm.PV.bool r) (f13_l2 (Types.mk t_Nodes t_Edges) n_0 i_1 x2 k0 m2 k_4) := by
  intro m2
  induction m2 with
  | zero => intros; rw [Go.Pm.lp_zero]; rfl
  | succ m2 ih =>
    intro k_4
    rw [Go.Pm.lp_succ]
    simp only [Go.Pm.W0, Go.Pm.W1, Go.Pm.W2, Go.Pm.W3, Go.Pm.W4, Go.Pm.W5, Go.Pm.W6, Go.Pm.W7, Go.Pm.W8, Go.Pm.W9, Go.Pm.Wc, WE, WT, WS, Nat.reduceAdd, Nat.reduceSub, Nat.reduceMul, Nat.reduceBEq, Nat.reduceLeDiff, Nat.reduceEqDiff, Nat.reduceLT, ↓reduceIte, nt13, co13, re13, rk13, Tryz.f13, kp13_0, kp13_2, kp13_4, kp13_6, f13_l2, ih, hk0, f13_l4_ok hC hR ih]
theorem f13_l6_ok {C : Go.Pm.Callee} {R : Recs} (hC : Go.Pm.Fix E isRec C) (hR : RecOk C R) {t_Nodes : (List NodeType)} {t_Edges : (List EdgeType)}    :
    ∀ (m6 : Nat) (i_10 : Int) , Go.Pm.lp (Go.Pm.machP E 13 C) [(Go.Pm.Fr.blk 6), (Go.Pm.Fr.seq 0 [1, 1, 1, 1, 1])] 6 [0, 0, 1, 0, 1, 1, 1, 1] m6 ⟨Go.Pm.PV.undef :: (Go.Pm.PV.ptr 0 0) :: Go.Pm.PV.undef :: Go.Pm.PV.undef :: Go.Pm.PV.undef :: Go.Pm.PV.undef :: Go.Pm.PV.undef :: Go.Pm.PV.undef :: Go.Pm.PV.int Go.IntKind.i64 i_10 :: Go.Pm.PV.undef :: Go.Pm.PV.undef :: Go.Pm.PV.undef :: Go.Pm.PV.undef :: Go.Pm.PV.undef :: Go.Pm.PV.undef :: Go.Pm.PV.undef :: Go.Pm.PV.undef :: Go.Pm.PV.undef :: Go.Pm.PV.undef :: Go.Pm.PV.undef :: Go.Pm.PV.undef :: Go.Pm.PV.undef :: Go.Pm.PV.undef :: Go.Pm.PV.undef :: Go.Pm.PV.undef :: Go.Pm.PV.undef :: Go.Pm.PV.undef :: Go.Pm.PV.undef :: Go.Pm.PV.undef :: Go.Pm.PV.undef :: Go.Pm.PV.undef :: Go.Pm.PV.undef :: Go.Pm.PV.undef :: Go.Pm.PV.undef :: Go.Pm.PV.undef :: Go.Pm.PV.undef :: Go.Pm.PV.undef :: Go.Pm.PV.undef :: Go.Pm.PV.undef :: Go.Pm.PV.undef :: Go.Pm.PV.undef :: Go.Pm.PV.undef :: Go.Pm.PV.undef :: Go.Pm.PV.undef :: Go.Pm.PV.undef :: Go.Pm.PV.undef :: Go.Pm.PV.undef :: Go.Pm.PV.undef :: Go.Pm.PV.undef :: Go.Pm.PV.undef :: Go.Pm.PV.undef :: Go.Pm.PV.undef :: Go.Pm.PV.undef :: Go.Pm.PV.undef :: Go.Pm.PV.undef :: Go.Pm.PV.undef :: Go.Pm.PV.undef :: Go.Pm.PV.undef :: Go.Pm.PV.undef :: Go.Pm.PV.undef :: Go.Pm.PV.undef :: Go.Pm.PV.undef :: Go.Pm.PV.undef :: Go.Pm.PV.undef :: Go.Pm.PV.undef :: Go.Pm.PV.undef :: Go.Pm.PV.undef :: Go.Pm.PV.undef :: Go.Pm.PV.undef :: Go.Pm.PV.undef :: Go.Pm.PV.undef :: Go.Pm.PV.undef :: Go.Pm.PV.undef :: Go.Pm.PV.undef :: Go.Pm.PV.undef :: Go.Pm.PV.undef :: Go.Pm.PV.undef :: Go.Pm.PV.undef :: Go.Pm.PV.undef :: Go.Pm.PV.undef :: Go.Pm.PV.undef :: Go.Pm.PV.undef :: Go.Pm.PV.undef :: Go.Pm.PV.undef :: Go.Pm.PV.undef :: Go.Pm.PV.undef :: Go.Pm.PV.undef :: Go.Pm.PV.undef :: Go.Pm.PV.undef :: Go.Pm.PV.undef :: Go.Pm.PV.undef :: Go.Pm.PV.undef :: Go.Pm.PV.undef :: Go.Pm.PV.undef :: Go.Pm.PV.undef :: Go.Pm.PV.undef :: Go.Pm.PV.undef :: Go.Pm.PV.undef :: Go.Pm.PV.undef :: Go.Pm.PV.undef :: Go.Pm.PV.undef :: Go.Pm.PV.undef :: Go.Pm.PV.undef :: Go.Pm.PV.undef :: Go.Pm.PV.undef :: Go.Pm.PV.undef :: [], [(0, Go.Pm.PObj.box [Go.Pm.PV.lit (Go.Pm.rows (t_Nodes)) Go.Pm.fl0, Go.Pm.PV.lit (Go.Pm.rows (t_Edges)) Go.Pm.fl0])], 1⟩ = Option.map (fun r => Go.Pm.PV.bool r) (f13_l6 (Types.mk t_Nodes t_Edges) m6 i_10) := by
  intro m6
  induction m6 with
  | zero => intros; rw [Go.Pm.lp_zero]; rfl
  | succ m6 ih =>
    intro i_10
    rw [Go.Pm.lp_succ]
    simp only [Go.Pm.W0, Go.Pm.W1, Go.Pm.W2, Go.Pm.W3, Go.Pm.W4, Go.Pm.W5, Go.Pm.W6, Go.Pm.W7, Go.Pm.W8, Go.Pm.W9, Go.Pm.Wc, WE, WT, WS, Nat.reduceAdd, Nat.reduceSub, Nat.reduceMul, Nat.reduceBEq, Nat.reduceLeDiff, Nat.reduceEqDiff, Nat.reduceLT, ↓reduceIte, nt13, co13, re13, rk13, Tryz.f13, kp13_0, kp13_2, kp13_4, kp13_6, f13_l6, ih]
theorem f13_l0_ok {C : Go.Pm.Callee} {R : Recs} (hC : Go.Pm.Fix E isRec C) (hR : RecOk C R) {t_Nodes : (List NodeType)} {t_Edges : (List EdgeType)}    :
    ∀ (m0 : Nat) (n_0 : Int) (i_1 : Int) , Go.Pm.lp (Go.Pm.machP E 13 C) [(Go.Pm.Fr.blk 0), (Go.Pm.Fr.seq 0 [1, 1, 1, 1])] 0 [0, 0, 1, 0, 1, 1, 1] m0 ⟨Go.Pm.PV.undef :: (Go.Pm.PV.ptr 0 0) :: Go.Pm.PV.undef :: Go.Pm.PV.int Go.IntKind.i64 n_0 :: Go.Pm.PV.int Go.IntKind.i64 i_1 :: Go.Pm.PV.undef :: Go.Pm.PV.undef :: Go.Pm.PV.undef :: Go.Pm.PV.undef :: Go.Pm.PV.undef :: Go.Pm.PV.undef :: Go.Pm.PV.undef :: Go.Pm.PV.undef :: Go.Pm.PV.undef :: Go.Pm.PV.undef :: Go.Pm.PV.undef :: Go.Pm.PV.undef :: Go.Pm.PV.undef :: Go.Pm.PV.undef :: Go.Pm.PV.undef :: Go.Pm.PV.undef :: Go.Pm.PV.undef :: Go.Pm.PV.undef :: Go.Pm.PV.undef :: Go.Pm.PV.undef :: Go.Pm.PV.undef :: Go.Pm.PV.undef :: Go.Pm.PV.undef :: Go.Pm.PV.undef :: Go.Pm.PV.undef :: Go.Pm.PV.undef :: Go.Pm.PV.undef :: Go.Pm.PV.undef :: Go.Pm.PV.undef :: Go.Pm.PV.undef :: Go.Pm.PV.undef :: Go.Pm.PV.undef :: Go.Pm.PV.undef :: Go.Pm.PV.undef :: Go.Pm.PV.undef :: Go.Pm.PV.undef :: Go.Pm.PV.undef :: Go.Pm.PV.undef :: Go.Pm.PV.undef :: Go.Pm.PV.undef :: Go.Pm.PV.undef :: Go.Pm.PV.undef :: Go.Pm.PV.undef :: Go.Pm.PV.undef :: Go.Pm.PV.undef :: Go.Pm.PV.undef :: Go.Pm.PV.undef :: Go.Pm.PV.undef :: Go.Pm.PV.undef :: Go.Pm.PV.undef :: Go.Pm.PV.undef :: Go.Pm.PV.undef :: Go.Pm.PV.undef :: Go.Pm.PV.undef :: Go.Pm.PV.undef :: Go.Pm.PV.undef :: Go.Pm.PV.undef :: Go.Pm.PV.undef :: Go.Pm.PV.undef :: Go.Pm.PV.undef :: Go.Pm.PV.undef :: Go.Pm.PV.undef :: Go.Pm.PV.undef :: Go.Pm.PV.undef :: Go.Pm.PV.undef :: Go.Pm.PV.undef :: Go.Pm.PV.undef :: Go.Pm.PV.undef :: Go.Pm.PV.undef :: Go.Pm.PV.undef :: Go.Pm.PV.undef :: Go.Pm.PV.undef :: Go.Pm.PV.undef :: Go.Pm.PV.undef :: Go.Pm.PV.undef :: Go.Pm.PV.undef :: Go.Pm.PV.undef :: Go.Pm.PV.undef :: Go.Pm.PV.undef :: Go.Pm.PV.undef :: Go.Pm.PV.undef :: Go.Pm.PV.undef :: Go.Pm.PV.undef :: Go.Pm.PV.undef :: Go.Pm.PV.undef :: Go.Pm.PV.undef :: Go.Pm.PV.undef :: Go.Pm.PV.undef :: Go.Pm.PV.undef :: Go.Pm.PV.undef :: Go.Pm.PV.undef :: Go.Pm.PV.undef :: Go.Pm.PV.undef :: Go.Pm.PV.undef :: Go.Pm.PV.undef :: Go.Pm.PV.undef :: Go.Pm.PV.undef :: Go.Pm.PV.undef :: Go.Pm.PV.undef :: Go.Pm.PV.undef :: Go.Pm.PV.undef :: [], [(0, Go.Pm.PObj.box [Go.Pm.PV.lit (Go.Pm.rows (t_Nodes)) Go.Pm.fl0, Go.Pm.PV.lit (Go.Pm.rows (t_Edges)) Go.Pm.fl0])], 1⟩ = Option.map (fun r => Go.Pm.PV.bool r) (f13_l0 (Types.mk t_Nodes t_Edges) m0 n_0 i_1) := by
  intro m0
  induction m0 with
  | zero => intros; rw [Go.Pm.lp_zero]; rfl
  | succ m0 ih =>
    intro n_0 i_1
    rw [Go.Pm.lp_succ]
    simp only [Go.Pm.W0, Go.Pm.W1, Go.Pm.W2, Go.Pm.W3, Go.Pm.W4, Go.Pm.W5, Go.Pm.W6, Go.Pm.W7, Go.Pm.W8, Go.Pm.W9, Go.Pm.Wc, WE, WT, WS, Nat.reduceAdd, Nat.reduceSub, Nat.reduceMul, Nat.reduceBEq, Nat.reduceLeDiff, Nat.reduceEqDiff, Nat.reduceLT, ↓reduceIte, nt13, co13, re13, rk13, Tryz.f13, kp13_0, kp13_2, kp13_4, kp13_6, f13_l0, ih, f13_l2_ok hC hR ih, f13_l6_ok hC hR]
theorem f13_ok {C : Go.Pm.Callee} {R : Recs} (hC : Go.Pm.Fix E isRec C) (hR : RecOk C R) (t_Nodes : (List NodeType)) (t_Edges : (List EdgeType))  :
    C.pureC 13 [Go.Pm.PV.agg [Go.Pm.PV.lit (Go.Pm.rows t_Nodes) Go.Pm.fl0, Go.Pm.PV.lit (Go.Pm.rows t_Edges) Go.Pm.fl0]] = Option.map (fun r => Go.Pm.PV.bool r) (f13 (Types.mk t_Nodes t_Edges)) := by
  rw [Go.Pm.fix_pure hC (fn := Tryz.f13) rfl _ rfl rfl rfl]
  simp only [Go.Pm.W0, Go.Pm.W1, Go.Pm.W2, Go.Pm.W3, Go.Pm.W4, Go.Pm.W5, Go.Pm.W6, Go.Pm.W7, Go.Pm.W8, Go.Pm.W9, Go.Pm.Wc, WE, WT, WS, Nat.reduceAdd, Nat.reduceSub, Nat.reduceMul, Nat.reduceBEq, Nat.reduceLeDiff, Nat.reduceEqDiff, Nat.reduceLT, ↓reduceIte, nt13, co13, re13, rk13, Tryz.f13, kp13_0, kp13_2, kp13_4, kp13_6, f13, f13_l0_ok hC hR]
/-! scarfjoint/scarfjointlaw41.CountingRank$1 -/
noncomputable def f14 (x : Stage) : Option Bool :=
  (if (decide ((50 : Int) < (((List.length x.Weights) : Nat) : Int))) then
   (some Bool.true)
  else (some (decide ((50 : Int) < (((List.length x.Removed) : Nat) : Int)))))
theorem f14_ok {C : Go.Pm.Callee} {R : Recs} (hC : Go.Pm.Fix E isRec C) (hR : RecOk C R) (x_Weights : (List Int)) (x_Removed : (List Int))  :
    C.pureC 14 [Go.Pm.PV.agg [Go.Pm.PV.lit (Go.Pm.rows x_Weights) Go.Pm.fl0, Go.Pm.PV.lit (Go.Pm.rows x_Removed) Go.Pm.fl0]] = Option.map (fun r => Go.Pm.PV.bool r) (f14 (Stage.mk x_Weights x_Removed)) := by
  rw [Go.Pm.fix_pure hC (fn := Tryz.f14) rfl _ rfl rfl rfl]
  simp only [Go.Pm.W0, Go.Pm.W1, Go.Pm.W2, Go.Pm.W3, Go.Pm.W4, Go.Pm.W5, Go.Pm.W6, Go.Pm.W7, Go.Pm.W8, Go.Pm.W9, Go.Pm.Wc, WE, WT, WS, Nat.reduceAdd, Nat.reduceSub, Nat.reduceMul, Nat.reduceBEq, Nat.reduceLeDiff, Nat.reduceEqDiff, Nat.reduceLT, ↓reduceIte, nt14, co14, re14, rk14, Tryz.f14, f14]
/-! slices.IndexFunc[[]scarfjoint/api.Stage,scarfjoint/api.Stage] -/
noncomputable def f29_1_14_l0 (s : (List Stage))  : Nat → Int → Option Int
  | 0, _ => none
  | m0 + 1, v8_0 =>
    (if (decide (v8_0 < (((List.length s) : Nat) : Int))) then
     (Option.bind (Go.Pm.at? s v8_0) fun x1 =>
     (Option.bind (Go.S.f14 x1) fun x2 =>
     (if x2 then
     (some v8_0)
    else (f29_1_14_l0 s m0 (Go.Pm.w64 (v8_0 + (1 : Int)))))))
    else (some (-(1 : Int))))
noncomputable def f29_1_14 (s : (List Stage)) : Option Int :=
  (f29_1_14_l0 s Go.Pm.loopMax (0 : Int))
theorem f29_1_14_l0_ok {C : Go.Pm.Callee} {R : Recs} (hC : Go.Pm.Fix E isRec C) (hR : RecOk C R) {s : (List Stage)}    :
    ∀ (m0 : Nat) (v8_0 : Int) , Go.Pm.lp (Go.Pm.machP E 29 C) [(Go.Pm.Fr.blk 0), (Go.Pm.Fr.seq 0 [1, 1])] 0 [0, 0, 1, 0, 1] m0 ⟨[Go.Pm.PV.lit (Go.Pm.rows (s)) Go.Pm.fl0, Go.Pm.PV.fn 14 [], Go.Pm.PV.undef, Go.Pm.PV.undef, Go.Pm.PV.undef, Go.Pm.PV.undef, Go.Pm.PV.undef, Go.Pm.PV.int Go.IntKind.i64 ((((List.length s) : Nat) : Int)), Go.Pm.PV.int Go.IntKind.i64 v8_0, Go.Pm.PV.undef, Go.Pm.PV.undef, Go.Pm.PV.undef, Go.Pm.PV.undef, Go.Pm.PV.undef, Go.Pm.PV.undef, Go.Pm.PV.undef, Go.Pm.PV.undef, Go.Pm.PV.undef, Go.Pm.PV.undef], [], 0⟩ = Option.map (fun r => Go.Pm.PV.int Go.IntKind.i64 r) (f29_1_14_l0 s m0 v8_0) := by
  intro m0
  induction m0 with
  | zero => intros; rw [Go.Pm.lp_zero]; rfl
  | succ m0 ih =>
    intro v8_0
    rw [Go.Pm.lp_succ]
    simp only [Go.Pm.W0, Go.Pm.W1, Go.Pm.W2, Go.Pm.W3, Go.Pm.W4, Go.Pm.W5, Go.Pm.W6, Go.Pm.W7, Go.Pm.W8, Go.Pm.W9, Go.Pm.Wc, WE, WT, WS, Nat.reduceAdd, Nat.reduceSub, Nat.reduceMul, Nat.reduceBEq, Nat.reduceLeDiff, Nat.reduceEqDiff, Nat.reduceLT, ↓reduceIte, nt29, co29, re29, rk29, Tryz.f29, kp29_0, ir14, rk14, f14_ok hC hR, f29_1_14_l0, ih]
theorem f29_1_14_ok {C : Go.Pm.Callee} {R : Recs} (hC : Go.Pm.Fix E isRec C) (hR : RecOk C R) (s : (List Stage))  :
    C.pureC 29 [Go.Pm.PV.lit (Go.Pm.rows s) Go.Pm.fl0, Go.Pm.PV.fn 14 []] = Option.map (fun r => Go.Pm.PV.int Go.IntKind.i64 r) (f29_1_14 s) := by
  rw [Go.Pm.fix_pure hC (fn := Tryz.f29) rfl _ rfl rfl rfl]
  simp only [Go.Pm.W0, Go.Pm.W1, Go.Pm.W2, Go.Pm.W3, Go.Pm.W4, Go.Pm.W5, Go.Pm.W6, Go.Pm.W7, Go.Pm.W8, Go.Pm.W9, Go.Pm.Wc, WE, WT, WS, Nat.reduceAdd, Nat.reduceSub, Nat.reduceMul, Nat.reduceBEq, Nat.reduceLeDiff, Nat.reduceEqDiff, Nat.reduceLT, ↓reduceIte, nt29, co29, re29, rk29, Tryz.f29, kp29_0, ir14, rk14, f14_ok hC hR, f29_1_14, f29_1_14_l0_ok hC hR]
/-! slices.ContainsFunc[[]scarfjoint/api.Stage,scarfjoint/api.Stage] -/
noncomputable def f8_1_14 (s : (List Stage)) : Option Bool :=
  (Option.bind (Go.S.f29_1_14 s) fun x0 =>
   (some (decide ((0 : Int) ≤ x0))))
theorem f8_1_14_ok {C : Go.Pm.Callee} {R : Recs} (hC : Go.Pm.Fix E isRec C) (hR : RecOk C R) (s : (List Stage))  :
    C.pureC 8 [Go.Pm.PV.lit (Go.Pm.rows s) Go.Pm.fl0, Go.Pm.PV.fn 14 []] = Option.map (fun r => Go.Pm.PV.bool r) (f8_1_14 s) := by
  rw [Go.Pm.fix_pure hC (fn := Tryz.f8) rfl _ rfl rfl rfl]
  simp only [Go.Pm.W0, Go.Pm.W1, Go.Pm.W2, Go.Pm.W3, Go.Pm.W4, Go.Pm.W5, Go.Pm.W6, Go.Pm.W7, Go.Pm.W8, Go.Pm.W9, Go.Pm.Wc, WE, WT, WS, Nat.reduceAdd, Nat.reduceSub, Nat.reduceMul, Nat.reduceBEq, Nat.reduceLeDiff, Nat.reduceEqDiff, Nat.reduceLT, ↓reduceIte, nt8, co8, re8, rk8, Tryz.f8, ir29, rk29, f29_1_14_ok hC hR, f8_1_14]
/-! slices.Clone[[]scarfjoint/api.Stage,scarfjoint/api.Stage] -/
noncomputable def f11 (s : (List Stage)) : Option (List Stage) := Go.Pm.cloneL s
theorem f11_ok {C : Go.Pm.Callee} {R : Recs} (hC : Go.Pm.Fix E isRec C) (hR : RecOk C R) (s : (List Stage)) : C.pureC 11 [Go.Pm.PV.lit (Go.Pm.rows s) Go.Pm.fl0] = Option.map (fun r => Go.Pm.PV.lit (Go.Pm.rows r) ⟨true, false⟩) (f11 s) :=
  Go.Pm.clone_ok hC rfl rfl rfl s
/-! scarfjoint/token.letter -/
noncomputable def f216 (c : Int) : Option Bool :=
  (if (decide ((97 : Int) ≤ c)) then
   (if (decide (c ≤ (122 : Int))) then
   (some Bool.true)
  else (if (decide ((65 : Int) ≤ c)) then
   (some (decide (c ≤ (90 : Int))))
  else (some Bool.false)))
  else (if (decide ((65 : Int) ≤ c)) then
   (some (decide (c ≤ (90 : Int))))
  else (some Bool.false)))
theorem f216_ok {C : Go.Pm.Callee} {R : Recs} (hC : Go.Pm.Fix E isRec C) (hR : RecOk C R) (c : Int)  :
    C.pureC 216 [Go.Pm.PV.int Go.IntKind.u8 c] = Option.map (fun r => Go.Pm.PV.bool r) (f216 c) := by
  rw [Go.Pm.fix_pure hC (fn := Tryz.f216) rfl _ rfl rfl rfl]
  simp only [Go.Pm.W0, Go.Pm.W1, Go.Pm.W2, Go.Pm.W3, Go.Pm.W4, Go.Pm.W5, Go.Pm.W6, Go.Pm.W7, Go.Pm.W8, Go.Pm.W9, Go.Pm.Wc, WE, WT, WS, Nat.reduceAdd, Nat.reduceSub, Nat.reduceMul, Nat.reduceBEq, Nat.reduceLeDiff, Nat.reduceEqDiff, Nat.reduceLT, ↓reduceIte, nt216, co216, re216, rk216, Tryz.f216, f216]
/-! scarfjoint/token.digit -/
noncomputable def f219 (c : Int) : Option Bool :=
  (if (decide ((48 : Int) ≤ c)) then
   (some (decide (c ≤ (57 : Int))))
  else (some Bool.false))
theorem f219_ok {C : Go.Pm.Callee} {R : Recs} (hC : Go.Pm.Fix E isRec C) (hR : RecOk C R) (c : Int)  :
    C.pureC 219 [Go.Pm.PV.int Go.IntKind.u8 c] = Option.map (fun r => Go.Pm.PV.bool r) (f219 c) := by
  rw [Go.Pm.fix_pure hC (fn := Tryz.f219) rfl _ rfl rfl rfl]
  simp only [Go.Pm.W0, Go.Pm.W1, Go.Pm.W2, Go.Pm.W3, Go.Pm.W4, Go.Pm.W5, Go.Pm.W6, Go.Pm.W7, Go.Pm.W8, Go.Pm.W9, Go.Pm.Wc, WE, WT, WS, Nat.reduceAdd, Nat.reduceSub, Nat.reduceMul, Nat.reduceBEq, Nat.reduceLeDiff, Nat.reduceEqDiff, Nat.reduceLT, ↓reduceIte, nt219, co219, re219, rk219, Tryz.f219, f219]
/-! scarfjoint/token.part -/
noncomputable def f218 (c : Int) : Option Bool :=
  (Option.bind (Go.S.f216 c) fun x0 =>
   (if x0 then
   (some Bool.true)
  else (Option.bind (Go.S.f219 c) fun x1 =>
   (if x1 then
   (some Bool.true)
  else (some (c == (95 : Int)))))))
theorem f218_ok {C : Go.Pm.Callee} {R : Recs} (hC : Go.Pm.Fix E isRec C) (hR : RecOk C R) (c : Int)  :
    C.pureC 218 [Go.Pm.PV.int Go.IntKind.u8 c] = Option.map (fun r => Go.Pm.PV.bool r) (f218 c) := by
  rw [Go.Pm.fix_pure hC (fn := Tryz.f218) rfl _ rfl rfl rfl]
  simp only [Go.Pm.W0, Go.Pm.W1, Go.Pm.W2, Go.Pm.W3, Go.Pm.W4, Go.Pm.W5, Go.Pm.W6, Go.Pm.W7, Go.Pm.W8, Go.Pm.W9, Go.Pm.Wc, WE, WT, WS, Nat.reduceAdd, Nat.reduceSub, Nat.reduceMul, Nat.reduceBEq, Nat.reduceLeDiff, Nat.reduceEqDiff, Nat.reduceLT, ↓reduceIte, nt218, co218, re218, rk218, Tryz.f218, ir216, rk216, ir219, rk219, f216_ok hC hR, f219_ok hC hR, f218]
/-! scarfjoint/token.run -/
noncomputable def f217_1_218_l0 (s : ByteArray)  : Nat → Int → Option Int
  | 0, _ => none
  | m0 + 1, n_0 =>
    (if (decide (n_0 < (((ByteArray.size s) : Nat) : Int))) then
     (Option.bind (Go.Pm.byteAt? s n_0) fun x1 =>
     (Option.bind (Go.S.f218 x1) fun x2 =>
     (if x2 then
     (f217_1_218_l0 s m0 (Go.Pm.w64 (n_0 + (1 : Int))))
    else (some n_0))))
    else (some n_0))
noncomputable def f217_1_218 (s : ByteArray) : Option Int :=
  (f217_1_218_l0 s Go.Pm.loopMax (0 : Int))
theorem f217_1_218_l0_ok {C : Go.Pm.Callee} {R : Recs} (hC : Go.Pm.Fix E isRec C) (hR : RecOk C R) {s : ByteArray}    :
    ∀ (m0 : Nat) (n_0 : Int) , Go.Pm.lp (Go.Pm.machP E 217 C) [(Go.Pm.Fr.blk 0), (Go.Pm.Fr.seq 0 [1, 1, 1])] 0 [0, 0, 0, 1, 1] m0 ⟨[Go.Pm.PV.str (s), Go.Pm.PV.fn 218 [], Go.Pm.PV.undef, Go.Pm.PV.undef, Go.Pm.PV.undef, Go.Pm.PV.int Go.IntKind.i64 n_0, Go.Pm.PV.undef, Go.Pm.PV.undef, Go.Pm.PV.undef, Go.Pm.PV.undef, Go.Pm.PV.undef, Go.Pm.PV.undef, Go.Pm.PV.undef, Go.Pm.PV.undef, Go.Pm.PV.undef, Go.Pm.PV.undef, Go.Pm.PV.undef, Go.Pm.PV.undef, Go.Pm.PV.undef, Go.Pm.PV.undef], [], 0⟩ = Option.map (fun r => Go.Pm.PV.int Go.IntKind.i64 r) (f217_1_218_l0 s m0 n_0) := by
  intro m0
  induction m0 with
  | zero => intros; rw [Go.Pm.lp_zero]; rfl
  | succ m0 ih =>
    intro n_0
    rw [Go.Pm.lp_succ]
    simp only [Go.Pm.W0, Go.Pm.W1, Go.Pm.W2, Go.Pm.W3, Go.Pm.W4, Go.Pm.W5, Go.Pm.W6, Go.Pm.W7, Go.Pm.W8, Go.Pm.W9, Go.Pm.Wc, WE, WT, WS, Nat.reduceAdd, Nat.reduceSub, Nat.reduceMul, Nat.reduceBEq, Nat.reduceLeDiff, Nat.reduceEqDiff, Nat.reduceLT, ↓reduceIte, nt217, co217, re217, rk217, Tryz.f217, kp217_0, ir218, rk218, f218_ok hC hR, f217_1_218_l0, ih]
theorem f217_1_218_ok {C : Go.Pm.Callee} {R : Recs} (hC : Go.Pm.Fix E isRec C) (hR : RecOk C R) (s : ByteArray)  :
    C.pureC 217 [Go.Pm.PV.str s, Go.Pm.PV.fn 218 []] = Option.map (fun r => Go.Pm.PV.int Go.IntKind.i64 r) (f217_1_218 s) := by
  rw [Go.Pm.fix_pure hC (fn := Tryz.f217) rfl _ rfl rfl rfl]
  simp only [Go.Pm.W0, Go.Pm.W1, Go.Pm.W2, Go.Pm.W3, Go.Pm.W4, Go.Pm.W5, Go.Pm.W6, Go.Pm.W7, Go.Pm.W8, Go.Pm.W9, Go.Pm.Wc, WE, WT, WS, Nat.reduceAdd, Nat.reduceSub, Nat.reduceMul, Nat.reduceBEq, Nat.reduceLeDiff, Nat.reduceEqDiff, Nat.reduceLT, ↓reduceIte, nt217, co217, re217, rk217, Tryz.f217, kp217_0, ir218, rk218, f218_ok hC hR, f217_1_218, f217_1_218_l0_ok hC hR]
/-! scarfjoint/token.run -/
noncomputable def f217_1_219_l0 (s : ByteArray)  : Nat → Int → Option Int
  | 0, _ => none
  | m0 + 1, n_0 =>
    (if (decide (n_0 < (((ByteArray.size s) : Nat) : Int))) then
     (Option.bind (Go.Pm.byteAt? s n_0) fun x1 =>
     (Option.bind (Go.S.f219 x1) fun x2 =>
     (if x2 then
     (f217_1_219_l0 s m0 (Go.Pm.w64 (n_0 + (1 : Int))))
    else (some n_0))))
    else (some n_0))
noncomputable def f217_1_219 (s : ByteArray) : Option Int :=
  (f217_1_219_l0 s Go.Pm.loopMax (0 : Int))
theorem f217_1_219_l0_ok {C : Go.Pm.Callee} {R : Recs} (hC : Go.Pm.Fix E isRec C) (hR : RecOk C R) {s : ByteArray}    :
    ∀ (m0 : Nat) (n_0 : Int) , Go.Pm.lp (Go.Pm.machP E 217 C) [(Go.Pm.Fr.blk 0), (Go.Pm.Fr.seq 0 [1, 1, 1])] 0 [0, 0, 0, 1, 1] m0 ⟨[Go.Pm.PV.str (s), Go.Pm.PV.fn 219 [], Go.Pm.PV.undef, Go.Pm.PV.undef, Go.Pm.PV.undef, Go.Pm.PV.int Go.IntKind.i64 n_0, Go.Pm.PV.undef, Go.Pm.PV.undef, Go.Pm.PV.undef, Go.Pm.PV.undef, Go.Pm.PV.undef, Go.Pm.PV.undef, Go.Pm.PV.undef, Go.Pm.PV.undef, Go.Pm.PV.undef, Go.Pm.PV.undef, Go.Pm.PV.undef, Go.Pm.PV.undef, Go.Pm.PV.undef, Go.Pm.PV.undef], [], 0⟩ = Option.map (fun r => Go.Pm.PV.int Go.IntKind.i64 r) (f217_1_219_l0 s m0 n_0) := by
  intro m0
  induction m0 with
  | zero => intros; rw [Go.Pm.lp_zero]; rfl
  | succ m0 ih =>
    intro n_0
    rw [Go.Pm.lp_succ]
    simp only [Go.Pm.W0, Go.Pm.W1, Go.Pm.W2, Go.Pm.W3, Go.Pm.W4, Go.Pm.W5, Go.Pm.W6, Go.Pm.W7, Go.Pm.W8, Go.Pm.W9, Go.Pm.Wc, WE, WT, WS, Nat.reduceAdd, Nat.reduceSub, Nat.reduceMul, Nat.reduceBEq, Nat.reduceLeDiff, Nat.reduceEqDiff, Nat.reduceLT, ↓reduceIte, nt217, co217, re217, rk217, Tryz.f217, kp217_0, ir219, rk219, f219_ok hC hR, f217_1_219_l0, ih]
theorem f217_1_219_ok {C : Go.Pm.Callee} {R : Recs} (hC : Go.Pm.Fix E isRec C) (hR : RecOk C R) (s : ByteArray)  :
    C.pureC 217 [Go.Pm.PV.str s, Go.Pm.PV.fn 219 []] = Option.map (fun r => Go.Pm.PV.int Go.IntKind.i64 r) (f217_1_219 s) := by
  rw [Go.Pm.fix_pure hC (fn := Tryz.f217) rfl _ rfl rfl rfl]
  simp only [Go.Pm.W0, Go.Pm.W1, Go.Pm.W2, Go.Pm.W3, Go.Pm.W4, Go.Pm.W5, Go.Pm.W6, Go.Pm.W7, Go.Pm.W8, Go.Pm.W9, Go.Pm.Wc, WE, WT, WS, Nat.reduceAdd, Nat.reduceSub, Nat.reduceMul, Nat.reduceBEq, Nat.reduceLeDiff, Nat.reduceEqDiff, Nat.reduceLT, ↓reduceIte, nt217, co217, re217, rk217, Tryz.f217, kp217_0, ir219, rk219, f219_ok hC hR, f217_1_219, f217_1_219_l0_ok hC hR]
/-! scarfjoint/token.quoted$1 -/
noncomputable def f236 (c : Int) : Option Bool :=
  (if (decide ((32 : Int) ≤ c)) then
   (if (decide (c ≤ (126 : Int))) then
   (some (!(c == (34 : Int))))
  else (some Bool.false))
  else (some Bool.false))
theorem f236_ok {C : Go.Pm.Callee} {R : Recs} (hC : Go.Pm.Fix E isRec C) (hR : RecOk C R) (c : Int)  :
    C.pureC 236 [Go.Pm.PV.int Go.IntKind.u8 c] = Option.map (fun r => Go.Pm.PV.bool r) (f236 c) := by
  rw [Go.Pm.fix_pure hC (fn := Tryz.f236) rfl _ rfl rfl rfl]
  simp only [Go.Pm.W0, Go.Pm.W1, Go.Pm.W2, Go.Pm.W3, Go.Pm.W4, Go.Pm.W5, Go.Pm.W6, Go.Pm.W7, Go.Pm.W8, Go.Pm.W9, Go.Pm.Wc, WE, WT, WS, Nat.reduceAdd, Nat.reduceSub, Nat.reduceMul, Nat.reduceBEq, Nat.reduceLeDiff, Nat.reduceEqDiff, Nat.reduceLT, ↓reduceIte, nt236, co236, re236, rk236, Tryz.f236, f236]
/-! scarfjoint/token.run -/
noncomputable def f217_1_236_l0 (s : ByteArray)  : Nat → Int → Option Int
  | 0, _ => none
  | m0 + 1, n_0 =>
    (if (decide (n_0 < (((ByteArray.size s) : Nat) : Int))) then
     (Option.bind (Go.Pm.byteAt? s n_0) fun x1 =>
     (Option.bind (Go.S.f236 x1) fun x2 =>
     (if x2 then
     (f217_1_236_l0 s m0 (Go.Pm.w64 (n_0 + (1 : Int))))
    else (some n_0))))
    else (some n_0))
noncomputable def f217_1_236 (s : ByteArray) : Option Int :=
  (f217_1_236_l0 s Go.Pm.loopMax (0 : Int))
theorem f217_1_236_l0_ok {C : Go.Pm.Callee} {R : Recs} (hC : Go.Pm.Fix E isRec C) (hR : RecOk C R) {s : ByteArray}    :
    ∀ (m0 : Nat) (n_0 : Int) , Go.Pm.lp (Go.Pm.machP E 217 C) [(Go.Pm.Fr.blk 0), (Go.Pm.Fr.seq 0 [1, 1, 1])] 0 [0, 0, 0, 1, 1] m0 ⟨[Go.Pm.PV.str (s), Go.Pm.PV.fn 236 [], Go.Pm.PV.undef, Go.Pm.PV.undef, Go.Pm.PV.undef, Go.Pm.PV.int Go.IntKind.i64 n_0, Go.Pm.PV.undef, Go.Pm.PV.undef, Go.Pm.PV.undef, Go.Pm.PV.undef, Go.Pm.PV.undef, Go.Pm.PV.undef, Go.Pm.PV.undef, Go.Pm.PV.undef, Go.Pm.PV.undef, Go.Pm.PV.undef, Go.Pm.PV.undef, Go.Pm.PV.undef, Go.Pm.PV.undef, Go.Pm.PV.undef], [], 0⟩ = Option.map (fun r => Go.Pm.PV.int Go.IntKind.i64 r) (f217_1_236_l0 s m0 n_0) := by
  intro m0
  induction m0 with
  | zero => intros; rw [Go.Pm.lp_zero]; rfl
  | succ m0 ih =>
    intro n_0
    rw [Go.Pm.lp_succ]
    simp only [Go.Pm.W0, Go.Pm.W1, Go.Pm.W2, Go.Pm.W3, Go.Pm.W4, Go.Pm.W5, Go.Pm.W6, Go.Pm.W7, Go.Pm.W8, Go.Pm.W9, Go.Pm.Wc, WE, WT, WS, Nat.reduceAdd, Nat.reduceSub, Nat.reduceMul, Nat.reduceBEq, Nat.reduceLeDiff, Nat.reduceEqDiff, Nat.reduceLT, ↓reduceIte, nt217, co217, re217, rk217, Tryz.f217, kp217_0, ir236, rk236, f236_ok hC hR, f217_1_236_l0, ih]
theorem f217_1_236_ok {C : Go.Pm.Callee} {R : Recs} (hC : Go.Pm.Fix E isRec C) (hR : RecOk C R) (s : ByteArray)  :
    C.pureC 217 [Go.Pm.PV.str s, Go.Pm.PV.fn 236 []] = Option.map (fun r => Go.Pm.PV.int Go.IntKind.i64 r) (f217_1_236 s) := by
  rw [Go.Pm.fix_pure hC (fn := Tryz.f217) rfl _ rfl rfl rfl]
  simp only [Go.Pm.W0, Go.Pm.W1, Go.Pm.W2, Go.Pm.W3, Go.Pm.W4, Go.Pm.W5, Go.Pm.W6, Go.Pm.W7, Go.Pm.W8, Go.Pm.W9, Go.Pm.Wc, WE, WT, WS, Nat.reduceAdd, Nat.reduceSub, Nat.reduceMul, Nat.reduceBEq, Nat.reduceLeDiff, Nat.reduceEqDiff, Nat.reduceLT, ↓reduceIte, nt217, co217, re217, rk217, Tryz.f217, kp217_0, ir236, rk236, f236_ok hC hR, f217_1_236, f217_1_236_l0_ok hC hR]
/-! scarfjoint/token.quoted -/
noncomputable def f220 (s : ByteArray) : Option (Int × Int) :=
  (if (decide (((0 : Int) ≤ (1 : Int)) ∧ ((1 : Int) ≤ (((ByteArray.size s) : Nat) : Int)))) then
   (Option.bind (Go.S.f217_1_236 (ByteArray.extract s (Int.toNat (1 : Int)) (ByteArray.size s))) fun x0 =>
   (if ((Go.Pm.w64 ((1 : Int) + x0)) == (((ByteArray.size s) : Nat) : Int)) then
   (some ((0 : Int), (2 : Int)))
  else (Option.bind (Go.Pm.byteAt? s (Go.Pm.w64 ((1 : Int) + x0))) fun x1 =>
   (if (!(x1 == (34 : Int))) then
   (some ((0 : Int), (2 : Int)))
  else (if (decide ((60 : Int) < x0)) then
   (some ((0 : Int), (3 : Int)))
  else (some ((Go.Pm.w64 (x0 + (2 : Int))), (0 : Int))))))))
  else none)
theorem f220_ok {C : Go.Pm.Callee} {R : Recs} (hC : Go.Pm.Fix E isRec C) (hR : RecOk C R) (s : ByteArray)  :
    C.pureC 220 [Go.Pm.PV.str s] = Option.map (fun r => Go.Pm.PV.tup [Go.Pm.PV.int Go.IntKind.i64 r.1, Go.Pm.PV.int Go.IntKind.i64 r.2]) (f220 s) := by
  rw [Go.Pm.fix_pure hC (fn := Tryz.f220) rfl _ rfl rfl rfl]
  simp only [Go.Pm.W0, Go.Pm.W1, Go.Pm.W2, Go.Pm.W3, Go.Pm.W4, Go.Pm.W5, Go.Pm.W6, Go.Pm.W7, Go.Pm.W8, Go.Pm.W9, Go.Pm.Wc, WE, WT, WS, Nat.reduceAdd, Nat.reduceSub, Nat.reduceMul, Nat.reduceBEq, Nat.reduceLeDiff, Nat.reduceEqDiff, Nat.reduceLT, ↓reduceIte, nt220, co220, re220, rk220, Tryz.f220, ir217, rk217, ir236, rk236, f217_1_236_ok hC hR, f220]
/-! slices.Index[[]string,string] -/
noncomputable def f223_l0 (s : (List ByteArray)) (v : ByteArray)  : Nat → Int → Option Int
  | 0, _ => none
  | m0 + 1, v8_0 =>
    (if (decide (v8_0 < (((List.length s) : Nat) : Int))) then
     (Option.bind (Go.Pm.at? s v8_0) fun x1 =>
     (if (decide (v = x1)) then
     (some v8_0)
    else (f223_l0 s v m0 (Go.Pm.w64 (v8_0 + (1 : Int))))))
    else (some (-(1 : Int))))
noncomputable def f223 (s : (List ByteArray)) (v : ByteArray) : Option Int :=
  (f223_l0 s v Go.Pm.loopMax (0 : Int))
theorem f223_l0_ok {C : Go.Pm.Callee} {R : Recs} (hC : Go.Pm.Fix E isRec C) (hR : RecOk C R) {s : (List ByteArray)} {v : ByteArray}    :
    ∀ (m0 : Nat) (v8_0 : Int) , Go.Pm.lp (Go.Pm.machP E 223 C) [(Go.Pm.Fr.blk 0), (Go.Pm.Fr.seq 0 [1, 1])] 0 [0, 0, 1, 0, 1] m0 ⟨[Go.Pm.PV.lit (Go.Pm.rows (s)) Go.Pm.fl0, Go.Pm.PV.str (v), Go.Pm.PV.undef, Go.Pm.PV.undef, Go.Pm.PV.undef, Go.Pm.PV.undef, Go.Pm.PV.undef, Go.Pm.PV.int Go.IntKind.i64 ((((List.length s) : Nat) : Int)), Go.Pm.PV.int Go.IntKind.i64 v8_0, Go.Pm.PV.undef, Go.Pm.PV.undef, Go.Pm.PV.undef, Go.Pm.PV.undef, Go.Pm.PV.undef, Go.Pm.PV.undef, Go.Pm.PV.undef, Go.Pm.PV.undef, Go.Pm.PV.undef, Go.Pm.PV.undef], [], 0⟩ = Option.map (fun r => Go.Pm.PV.int Go.IntKind.i64 r) (f223_l0 s v m0 v8_0) := by
  intro m0
  induction m0 with
  | zero => intros; rw [Go.Pm.lp_zero]; rfl
  | succ m0 ih =>
    intro v8_0
    rw [Go.Pm.lp_succ]
    simp only [Go.Pm.W0, Go.Pm.W1, Go.Pm.W2, Go.Pm.W3, Go.Pm.W4, Go.Pm.W5, Go.Pm.W6, Go.Pm.W7, Go.Pm.W8, Go.Pm.W9, Go.Pm.Wc, WE, WT, WS, Nat.reduceAdd, Nat.reduceSub, Nat.reduceMul, Nat.reduceBEq, Nat.reduceLeDiff, Nat.reduceEqDiff, Nat.reduceLT, ↓reduceIte, nt223, co223, re223, rk223, Tryz.f223, kp223_0, f223_l0, ih]
theorem f223_ok {C : Go.Pm.Callee} {R : Recs} (hC : Go.Pm.Fix E isRec C) (hR : RecOk C R) (s : (List ByteArray)) (v : ByteArray)  :
    C.pureC 223 [Go.Pm.PV.lit (Go.Pm.rows s) Go.Pm.fl0, Go.Pm.PV.str v] = Option.map (fun r => Go.Pm.PV.int Go.IntKind.i64 r) (f223 s v) := by
  rw [Go.Pm.fix_pure hC (fn := Tryz.f223) rfl _ rfl rfl rfl]
  simp only [Go.Pm.W0, Go.Pm.W1, Go.Pm.W2, Go.Pm.W3, Go.Pm.W4, Go.Pm.W5, Go.Pm.W6, Go.Pm.W7, Go.Pm.W8, Go.Pm.W9, Go.Pm.Wc, WE, WT, WS, Nat.reduceAdd, Nat.reduceSub, Nat.reduceMul, Nat.reduceBEq, Nat.reduceLeDiff, Nat.reduceEqDiff, Nat.reduceLT, ↓reduceIte, nt223, co223, re223, rk223, Tryz.f223, kp223_0, f223, f223_l0_ok hC hR]
/-! slices.Contains[[]string,string] -/
noncomputable def f200 (s : (List ByteArray)) (v : ByteArray) : Option Bool :=
  (Option.bind (Go.S.f223 s v) fun x0 =>
   (some (decide ((0 : Int) ≤ x0))))
theorem f200_ok {C : Go.Pm.Callee} {R : Recs} (hC : Go.Pm.Fix E isRec C) (hR : RecOk C R) (s : (List ByteArray)) (v : ByteArray)  :
    C.pureC 200 [Go.Pm.PV.lit (Go.Pm.rows s) Go.Pm.fl0, Go.Pm.PV.str v] = Option.map (fun r => Go.Pm.PV.bool r) (f200 s v) := by
  rw [Go.Pm.fix_pure hC (fn := Tryz.f200) rfl _ rfl rfl rfl]
  simp only [Go.Pm.W0, Go.Pm.W1, Go.Pm.W2, Go.Pm.W3, Go.Pm.W4, Go.Pm.W5, Go.Pm.W6, Go.Pm.W7, Go.Pm.W8, Go.Pm.W9, Go.Pm.Wc, WE, WT, WS, Nat.reduceAdd, Nat.reduceSub, Nat.reduceMul, Nat.reduceBEq, Nat.reduceLeDiff, Nat.reduceEqDiff, Nat.reduceLT, ↓reduceIte, nt200, co200, re200, rk200, Tryz.f200, ir223, rk223, f223_ok hC hR, f200]
/-! scarfjoint/token.pair -/
noncomputable def f221 (s : ByteArray) : Option Bool :=
  (if (decide ((2 : Int) ≤ (((ByteArray.size s) : Nat) : Int))) then
   (if (decide (((0 : Int) ≤ (2 : Int)) ∧ ((2 : Int) ≤ (((ByteArray.size s) : Nat) : Int)))) then
   (Option.bind (Go.S.f200 [(ByteArray.mk (List.toArray [45, 62])), (ByteArray.mk (List.toArray [60, 61])), (ByteArray.mk (List.toArray [62, 61])), (ByteArray.mk (List.toArray [61, 61])), (ByteArray.mk (List.toArray [33, 61]))] (ByteArray.extract s 0 (Int.toNat (2 : Int)))) fun x0 =>
   (some x0))
  else none)
  else (some Bool.false))
theorem f221_ok {C : Go.Pm.Callee} {R : Recs} (hC : Go.Pm.Fix E isRec C) (hR : RecOk C R) (s : ByteArray)  :
    C.pureC 221 [Go.Pm.PV.str s] = Option.map (fun r => Go.Pm.PV.bool r) (f221 s) := by
  have c0 := fun (v : ByteArray) => f200_ok (C := C) (R := R) hC hR (((ByteArray.mk (List.toArray [45, 62])) :: ((ByteArray.mk (List.toArray [60, 61])) :: ((ByteArray.mk (List.toArray [62, 61])) :: ((ByteArray.mk (List.toArray [61, 61])) :: ((ByteArray.mk (List.toArray [33, 61])) :: ([] : List ByteArray))))))) v
  simp only [Go.Pm.rows_nil, Go.Pm.rows_cons, Go.Pm.cells_int, Go.Pm.cells_bool, Go.Pm.cells_str, Go.Pm.cells_list, WS, List.length_nil, List.length_cons, Nat.reduceAdd] at c0
  rw [Go.Pm.fix_pure hC (fn := Tryz.f221) rfl _ rfl rfl rfl]
  simp only [Go.Pm.W0, Go.Pm.W1, Go.Pm.W2, Go.Pm.W3, Go.Pm.W4, Go.Pm.W5, Go.Pm.W6, Go.Pm.W7, Go.Pm.W8, Go.Pm.W9, Go.Pm.Wc, WE, WT, WS, Nat.reduceAdd, Nat.reduceSub, Nat.reduceMul, Nat.reduceBEq, Nat.reduceLeDiff, Nat.reduceEqDiff, Nat.reduceLT, ↓reduceIte, nt221, co221, re221, rk221, Tryz.f221, ir200, rk200, c0, f221]
/-! internal/stringslite.IndexByte -/
noncomputable def f237 (s : ByteArray) (c : Int) : Option Int := some (Go.Lib.indexByte s.data.toList c.toNat.toUInt8)
theorem f237_ok {C : Go.Pm.Callee} {R : Recs} (hC : Go.Pm.Fix E isRec C) (hR : RecOk C R) (s : ByteArray) (c : Int) : C.pureC 237 [Go.Pm.PV.str s, Go.Pm.PV.int Go.IntKind.u8 c] = Option.map (fun r => Go.Pm.PV.int Go.IntKind.i64 r) (f237 s c) := by
  rw [hC.p 237 rfl]; rfl
/-! strings.IndexByte -/
noncomputable def f222 (s : ByteArray) (c : Int) : Option Int :=
  (Option.bind (Go.S.f237 s c) fun x0 =>
   (some x0))
theorem f222_ok {C : Go.Pm.Callee} {R : Recs} (hC : Go.Pm.Fix E isRec C) (hR : RecOk C R) (s : ByteArray) (c : Int)  :
    C.pureC 222 [Go.Pm.PV.str s, Go.Pm.PV.int Go.IntKind.u8 c] = Option.map (fun r => Go.Pm.PV.int Go.IntKind.i64 r) (f222 s c) := by
  rw [Go.Pm.fix_pure hC (fn := Tryz.f222) rfl _ rfl rfl rfl]
  simp only [Go.Pm.W0, Go.Pm.W1, Go.Pm.W2, Go.Pm.W3, Go.Pm.W4, Go.Pm.W5, Go.Pm.W6, Go.Pm.W7, Go.Pm.W8, Go.Pm.W9, Go.Pm.Wc, WE, WT, WS, Nat.reduceAdd, Nat.reduceSub, Nat.reduceMul, Nat.reduceBEq, Nat.reduceLeDiff, Nat.reduceEqDiff, Nat.reduceLT, ↓reduceIte, nt222, co222, re222, rk222, Tryz.f222, ir237, rk237, f237_ok hC hR, f222]
/-! scarfjoint/token.next -/
noncomputable def f198 (s : ByteArray) : Option (Int × Int × Int) :=
  (Option.bind (Go.Pm.byteAt? s (0 : Int)) fun x0 =>
   (Option.bind (Go.S.f216 x0) fun x1 =>
   (if x1 then
   (Option.bind (Go.S.f217_1_218 s) fun x2 =>
   (if (decide ((20 : Int) < x2)) then
   (some ((0 : Int), (0 : Int), (3 : Int)))
  else (some ((1 : Int), x2, (0 : Int)))))
  else (Option.bind (Go.S.f219 x0) fun x3 =>
   (if x3 then
   (Option.bind (Go.S.f217_1_219 s) fun x4 =>
   (if (decide ((9 : Int) < x4)) then
   (some ((0 : Int), (0 : Int), (3 : Int)))
  else (some ((2 : Int), x4, (0 : Int)))))
  else (if (x0 == (34 : Int)) then
   (Option.bind (Go.S.f220 s) fun x5 =>
   (some ((3 : Int), (x5).1, (x5).2)))
  else (Option.bind (Go.S.f221 s) fun x6 =>
   (if x6 then
   (some ((4 : Int), (2 : Int), (0 : Int)))
  else (Option.bind (Go.S.f222 (ByteArray.mk (List.toArray [123, 125, 40, 41, 91, 93, 44, 59, 58, 61, 43, 45, 42, 60, 62, 33, 38, 124, 46, 63])) x0) fun x7 =>
   (if (decide ((0 : Int) ≤ x7)) then
   (some ((4 : Int), (1 : Int), (0 : Int)))
  else (some ((0 : Int), (0 : Int), (2 : Int)))))))))))))
theorem f198_ok {C : Go.Pm.Callee} {R : Recs} (hC : Go.Pm.Fix E isRec C) (hR : RecOk C R) (s : ByteArray)  :
    C.pureC 198 [Go.Pm.PV.str s] = Option.map (fun r => Go.Pm.PV.tup [Go.Pm.PV.int Go.IntKind.i64 r.1, Go.Pm.PV.int Go.IntKind.i64 r.2.1, Go.Pm.PV.int Go.IntKind.i64 r.2.2]) (f198 s) := by
  rw [Go.Pm.fix_pure hC (fn := Tryz.f198) rfl _ rfl rfl rfl]
  simp only [Go.Pm.W0, Go.Pm.W1, Go.Pm.W2, Go.Pm.W3, Go.Pm.W4, Go.Pm.W5, Go.Pm.W6, Go.Pm.W7, Go.Pm.W8, Go.Pm.W9, Go.Pm.Wc, WE, WT, WS, Nat.reduceAdd, Nat.reduceSub, Nat.reduceMul, Nat.reduceBEq, Nat.reduceLeDiff, Nat.reduceEqDiff, Nat.reduceLT, ↓reduceIte, nt198, co198, re198, rk198, Tryz.f198, ir216, rk216, ir217, rk217, ir218, rk218, ir219, rk219, ir220, rk220, ir221, rk221, ir222, rk222, f216_ok hC hR, f217_1_218_ok hC hR, f219_ok hC hR, f217_1_219_ok hC hR, f220_ok hC hR, f221_ok hC hR, f222_ok hC hR, f198]
/-! scarfjoint/token.whole -/
noncomputable def f173 (t : Token) : Option (ByteArray × Bool) :=
  (if (t.Kind == (3 : Int)) then
   none
  else (if (decide (t.Text = (ByteArray.mk (List.toArray [])))) then
   (some ((ByteArray.mk (List.toArray [])), Bool.false))
  else (Option.bind (Go.S.f198 t.Text) fun x0 =>
   (if (((x0).2).2 == (0 : Int)) then
   (if ((x0).1 == t.Kind) then
   (some (t.Text, (((x0).2).1 == (((ByteArray.size t.Text) : Nat) : Int))))
  else (some (t.Text, Bool.false)))
  else (some (t.Text, Bool.false))))))
theorem f173_ok {C : Go.Pm.Callee} {R : Recs} (hC : Go.Pm.Fix E isRec C) (hR : RecOk C R) (t_Kind : Int) (t_Text : ByteArray) (t_Line : Int)  :
    C.pureC 173 [Go.Pm.PV.agg [Go.Pm.PV.int Go.IntKind.i64 t_Kind, Go.Pm.PV.str t_Text, Go.Pm.PV.int Go.IntKind.i64 t_Line]] = Option.map (fun r => Go.Pm.PV.tup [Go.Pm.PV.str r.1, Go.Pm.PV.bool r.2]) (f173 (Token.mk t_Kind t_Text t_Line)) := by
  rw [Go.Pm.fix_pure hC (fn := Tryz.f173) rfl _ rfl rfl rfl]
  simp only [Go.Pm.W0, Go.Pm.W1, Go.Pm.W2, Go.Pm.W3, Go.Pm.W4, Go.Pm.W5, Go.Pm.W6, Go.Pm.W7, Go.Pm.W8, Go.Pm.W9, Go.Pm.Wc, WE, WT, WS, Nat.reduceAdd, Nat.reduceSub, Nat.reduceMul, Nat.reduceBEq, Nat.reduceLeDiff, Nat.reduceEqDiff, Nat.reduceLT, ↓reduceIte, nt173, co173, re173, rk173, Tryz.f173, ir198, rk198, f198_ok hC hR, f173]
/-! scarfjoint/token.IsName -/
noncomputable def f145 (s : ByteArray) : Option Bool :=
  (Option.bind (Go.S.f173 (Go.S.Token.mk (1 : Int) s (0 : Int))) fun x0 =>
   (some (x0).2))
theorem f145_ok {C : Go.Pm.Callee} {R : Recs} (hC : Go.Pm.Fix E isRec C) (hR : RecOk C R) (s : ByteArray)  :
    C.pureC 145 [Go.Pm.PV.str s] = Option.map (fun r => Go.Pm.PV.bool r) (f145 s) := by
  rw [Go.Pm.fix_pure hC (fn := Tryz.f145) rfl _ rfl rfl rfl]
  simp only [Go.Pm.W0, Go.Pm.W1, Go.Pm.W2, Go.Pm.W3, Go.Pm.W4, Go.Pm.W5, Go.Pm.W6, Go.Pm.W7, Go.Pm.W8, Go.Pm.W9, Go.Pm.Wc, WE, WT, WS, Nat.reduceAdd, Nat.reduceSub, Nat.reduceMul, Nat.reduceBEq, Nat.reduceLeDiff, Nat.reduceEqDiff, Nat.reduceLT, ↓reduceIte, nt145, co145, re145, rk145, Tryz.f145, ir173, rk173, f173_ok hC hR, f145]
/-! scarfjoint/types.node$1 -/
noncomputable def f147_1psibl (m : NodeType) (c4 : ByteArray) (c5 : Int) (c6 : Bool) (c7 : (List Go.S.Attr)) : Option Bool :=
  (some (decide (m.Name = c4)))
theorem f147_1psibl_ok {C : Go.Pm.Callee} {R : Recs} (hC : Go.Pm.Fix E isRec C) (hR : RecOk C R) (m_Name : ByteArray) (m_Parent : Int) (m_Abstract : Bool) (m_Attrs : (List Attr)) (c4 : ByteArray) (c5 : Int) (c6 : Bool) (c7 : (List Go.S.Attr))  :
    C.pureC 147 [Go.Pm.PV.agg [Go.Pm.PV.str m_Name, Go.Pm.PV.int Go.IntKind.i64 m_Parent, Go.Pm.PV.bool m_Abstract, Go.Pm.PV.lit (Go.Pm.rows m_Attrs) Go.Pm.fl0], Go.Pm.PV.eptr [[Go.Pm.PV.str c4, Go.Pm.PV.int Go.IntKind.i64 c5, Go.Pm.PV.bool c6, Go.Pm.PV.lit (Go.Pm.rows c7) (Go.Pm.Fl.mk Bool.false Bool.false)]] 0 0] = Option.map (fun r => Go.Pm.PV.bool r) (f147_1psibl (NodeType.mk m_Name m_Parent m_Abstract m_Attrs) c4 c5 c6 c7) := by
  rw [Go.Pm.fix_pure hC (fn := Tryz.f147) rfl _ rfl rfl rfl]
  simp only [Go.Pm.W0, Go.Pm.W1, Go.Pm.W2, Go.Pm.W3, Go.Pm.W4, Go.Pm.W5, Go.Pm.W6, Go.Pm.W7, Go.Pm.W8, Go.Pm.W9, Go.Pm.Wc, WE, WT, WS, Nat.reduceAdd, Nat.reduceSub, Nat.reduceMul, Nat.reduceBEq, Nat.reduceLeDiff, Nat.reduceEqDiff, Nat.reduceLT, ↓reduceIte, nt147, co147, re147, rk147, Tryz.f147, f147_1psibl]
/-! slices.IndexFunc[[]scarfjoint/api.NodeType,scarfjoint/api.NodeType] -/
noncomputable def f174_1_147psibl_l0 (s : (List NodeType)) (c1 : ByteArray) (c2 : Int) (c3 : Bool) (c4 : (List Go.S.Attr))  : Nat → Int → Option Int
  | 0, _ => none
  | m0 + 1, v8_0 =>
    (if (decide (v8_0 < (((List.length s) : Nat) : Int))) then
     (Option.bind (Go.Pm.at? s v8_0) fun x1 =>
     (Option.bind (Go.S.f147_1psibl x1 c1 c2 c3 c4) fun x2 =>
     (if x2 then
     (some v8_0)
    else (f174_1_147psibl_l0 s c1 c2 c3 c4 m0 (Go.Pm.w64 (v8_0 + (1 : Int)))))))
    else (some (-(1 : Int))))
noncomputable def f174_1_147psibl (s : (List NodeType)) (c1 : ByteArray) (c2 : Int) (c3 : Bool) (c4 : (List Go.S.Attr)) : Option Int :=
  (f174_1_147psibl_l0 s c1 c2 c3 c4 Go.Pm.loopMax (0 : Int))
theorem f174_1_147psibl_l0_ok {C : Go.Pm.Callee} {R : Recs} (hC : Go.Pm.Fix E isRec C) (hR : RecOk C R) {s : (List NodeType)} {c1 : ByteArray} {c2 : Int} {c3 : Bool} {c4 : (List Go.S.Attr)}    :
    ∀ (m0 : Nat) (v8_0 : Int) , Go.Pm.lp (Go.Pm.machP E 174 C) [(Go.Pm.Fr.blk 0), (Go.Pm.Fr.seq 0 [1, 1])] 0 [0, 0, 1, 0, 1] m0 ⟨[Go.Pm.PV.lit (Go.Pm.rows (s)) Go.Pm.fl0, Go.Pm.PV.fn 147 [(Go.Pm.PV.eptr [[(Go.Pm.PV.str (c1)), (Go.Pm.PV.int Go.IntKind.i64 (c2)), (Go.Pm.PV.bool (c3)), (Go.Pm.PV.lit (Go.Pm.rows (c4)) (Go.Pm.Fl.mk Bool.false Bool.false))]] 0 0)], Go.Pm.PV.undef, Go.Pm.PV.undef, Go.Pm.PV.undef, Go.Pm.PV.undef, Go.Pm.PV.undef, Go.Pm.PV.int Go.IntKind.i64 ((((List.length s) : Nat) : Int)), Go.Pm.PV.int Go.IntKind.i64 v8_0, Go.Pm.PV.undef, Go.Pm.PV.undef, Go.Pm.PV.undef, Go.Pm.PV.undef, Go.Pm.PV.undef, Go.Pm.PV.undef, Go.Pm.PV.undef, Go.Pm.PV.undef, Go.Pm.PV.undef, Go.Pm.PV.undef], [], 0⟩ = Option.map (fun r => Go.Pm.PV.int Go.IntKind.i64 r) (f174_1_147psibl_l0 s c1 c2 c3 c4 m0 v8_0) := by
  intro m0
  induction m0 with
  | zero => intros; rw [Go.Pm.lp_zero]; rfl
  | succ m0 ih =>
    intro v8_0
    rw [Go.Pm.lp_succ]
    simp only [Go.Pm.W0, Go.Pm.W1, Go.Pm.W2, Go.Pm.W3, Go.Pm.W4, Go.Pm.W5, Go.Pm.W6, Go.Pm.W7, Go.Pm.W8, Go.Pm.W9, Go.Pm.Wc, WE, WT, WS, Nat.reduceAdd, Nat.reduceSub, Nat.reduceMul, Nat.reduceBEq, Nat.reduceLeDiff, Nat.reduceEqDiff, Nat.reduceLT, ↓reduceIte, nt174, co174, re174, rk174, Tryz.f174, kp174_0, ir147, rk147, f147_1psibl_ok hC hR, f174_1_147psibl_l0, ih]
theorem f174_1_147psibl_ok {C : Go.Pm.Callee} {R : Recs} (hC : Go.Pm.Fix E isRec C) (hR : RecOk C R) (s : (List NodeType)) (c1 : ByteArray) (c2 : Int) (c3 : Bool) (c4 : (List Go.S.Attr))  :
    C.pureC 174 [Go.Pm.PV.lit (Go.Pm.rows s) Go.Pm.fl0, Go.Pm.PV.fn 147 [Go.Pm.PV.eptr [[Go.Pm.PV.str c1, Go.Pm.PV.int Go.IntKind.i64 c2, Go.Pm.PV.bool c3, Go.Pm.PV.lit (Go.Pm.rows c4) (Go.Pm.Fl.mk Bool.false Bool.false)]] 0 0]] = Option.map (fun r => Go.Pm.PV.int Go.IntKind.i64 r) (f174_1_147psibl s c1 c2 c3 c4) := by
  rw [Go.Pm.fix_pure hC (fn := Tryz.f174) rfl _ rfl rfl rfl]
  simp only [Go.Pm.W0, Go.Pm.W1, Go.Pm.W2, Go.Pm.W3, Go.Pm.W4, Go.Pm.W5, Go.Pm.W6, Go.Pm.W7, Go.Pm.W8, Go.Pm.W9, Go.Pm.Wc, WE, WT, WS, Nat.reduceAdd, Nat.reduceSub, Nat.reduceMul, Nat.reduceBEq, Nat.reduceLeDiff, Nat.reduceEqDiff, Nat.reduceLT, ↓reduceIte, nt174, co174, re174, rk174, Tryz.f174, kp174_0, ir147, rk147, f147_1psibl_ok hC hR, f174_1_147psibl, f174_1_147psibl_l0_ok hC hR]
/-! slices.ContainsFunc[[]scarfjoint/api.NodeType,scarfjoint/api.NodeType] -/
noncomputable def f146_1_147psibl (s : (List NodeType)) (c1 : ByteArray) (c2 : Int) (c3 : Bool) (c4 : (List Go.S.Attr)) : Option Bool :=
  (Option.bind (Go.S.f174_1_147psibl s c1 c2 c3 c4) fun x0 =>
   (some (decide ((0 : Int) ≤ x0))))
theorem f146_1_147psibl_ok {C : Go.Pm.Callee} {R : Recs} (hC : Go.Pm.Fix E isRec C) (hR : RecOk C R) (s : (List NodeType)) (c1 : ByteArray) (c2 : Int) (c3 : Bool) (c4 : (List Go.S.Attr))  :
    C.pureC 146 [Go.Pm.PV.lit (Go.Pm.rows s) Go.Pm.fl0, Go.Pm.PV.fn 147 [Go.Pm.PV.eptr [[Go.Pm.PV.str c1, Go.Pm.PV.int Go.IntKind.i64 c2, Go.Pm.PV.bool c3, Go.Pm.PV.lit (Go.Pm.rows c4) (Go.Pm.Fl.mk Bool.false Bool.false)]] 0 0]] = Option.map (fun r => Go.Pm.PV.bool r) (f146_1_147psibl s c1 c2 c3 c4) := by
  rw [Go.Pm.fix_pure hC (fn := Tryz.f146) rfl _ rfl rfl rfl]
  simp only [Go.Pm.W0, Go.Pm.W1, Go.Pm.W2, Go.Pm.W3, Go.Pm.W4, Go.Pm.W5, Go.Pm.W6, Go.Pm.W7, Go.Pm.W8, Go.Pm.W9, Go.Pm.Wc, WE, WT, WS, Nat.reduceAdd, Nat.reduceSub, Nat.reduceMul, Nat.reduceBEq, Nat.reduceLeDiff, Nat.reduceEqDiff, Nat.reduceLT, ↓reduceIte, nt146, co146, re146, rk146, Tryz.f146, ir174, rk174, f174_1_147psibl_ok hC hR, f146_1_147psibl]
/-! scarfjoint/types.attribute$1 -/
noncomputable def f176_1psiil (y : Attr) (c4 : ByteArray) (c5 : Int) (c6 : Int) (c7 : (List ByteArray)) : Option Bool :=
  (some (decide (y.Name = c4)))
theorem f176_1psiil_ok {C : Go.Pm.Callee} {R : Recs} (hC : Go.Pm.Fix E isRec C) (hR : RecOk C R) (y_Name : ByteArray) (y_Low : Int) (y_High : Int) (y_Names : (List ByteArray)) (c4 : ByteArray) (c5 : Int) (c6 : Int) (c7 : (List ByteArray))  :
    C.pureC 176 [Go.Pm.PV.agg [Go.Pm.PV.str y_Name, Go.Pm.PV.int Go.IntKind.i64 y_Low, Go.Pm.PV.int Go.IntKind.i64 y_High, Go.Pm.PV.lit (Go.Pm.rows y_Names) Go.Pm.fl0], Go.Pm.PV.eptr [[Go.Pm.PV.str c4, Go.Pm.PV.int Go.IntKind.i64 c5, Go.Pm.PV.int Go.IntKind.i64 c6, Go.Pm.PV.lit (Go.Pm.rows c7) Go.Pm.fl0]] 0 0] = Option.map (fun r => Go.Pm.PV.bool r) (f176_1psiil (Attr.mk y_Name y_Low y_High y_Names) c4 c5 c6 c7) := by
  rw [Go.Pm.fix_pure hC (fn := Tryz.f176) rfl _ rfl rfl rfl]
  simp only [Go.Pm.W0, Go.Pm.W1, Go.Pm.W2, Go.Pm.W3, Go.Pm.W4, Go.Pm.W5, Go.Pm.W6, Go.Pm.W7, Go.Pm.W8, Go.Pm.W9, Go.Pm.Wc, WE, WT, WS, Nat.reduceAdd, Nat.reduceSub, Nat.reduceMul, Nat.reduceBEq, Nat.reduceLeDiff, Nat.reduceEqDiff, Nat.reduceLT, ↓reduceIte, nt176, co176, re176, rk176, Tryz.f176, f176_1psiil]
/-! slices.IndexFunc[[]scarfjoint/api.Attr,scarfjoint/api.Attr] -/
noncomputable def f199_1_176psiil_l0 (s : (List Attr)) (c1 : ByteArray) (c2 : Int) (c3 : Int) (c4 : (List ByteArray))  : Nat → Int → Option Int
  | 0, _ => none
  | m0 + 1, v8_0 =>
    (if (decide (v8_0 < (((List.length s) : Nat) : Int))) then
     (Option.bind (Go.Pm.at? s v8_0) fun x1 =>
     (Option.bind (Go.S.f176_1psiil x1 c1 c2 c3 c4) fun x2 =>
     (if x2 then
     (some v8_0)
    else (f199_1_176psiil_l0 s c1 c2 c3 c4 m0 (Go.Pm.w64 (v8_0 + (1 : Int)))))))
    else (some (-(1 : Int))))
noncomputable def f199_1_176psiil (s : (List Attr)) (c1 : ByteArray) (c2 : Int) (c3 : Int) (c4 : (List ByteArray)) : Option Int :=
  (f199_1_176psiil_l0 s c1 c2 c3 c4 Go.Pm.loopMax (0 : Int))
theorem f199_1_176psiil_l0_ok {C : Go.Pm.Callee} {R : Recs} (hC : Go.Pm.Fix E isRec C) (hR : RecOk C R) {s : (List Attr)} {c1 : ByteArray} {c2 : Int} {c3 : Int} {c4 : (List ByteArray)}    :
    ∀ (m0 : Nat) (v8_0 : Int) , Go.Pm.lp (Go.Pm.machP E 199 C) [(Go.Pm.Fr.blk 0), (Go.Pm.Fr.seq 0 [1, 1])] 0 [0, 0, 1, 0, 1] m0 ⟨[Go.Pm.PV.lit (Go.Pm.rows (s)) Go.Pm.fl0, Go.Pm.PV.fn 176 [(Go.Pm.PV.eptr [[(Go.Pm.PV.str (c1)), (Go.Pm.PV.int Go.IntKind.i64 (c2)), (Go.Pm.PV.int Go.IntKind.i64 (c3)), (Go.Pm.PV.lit (Go.Pm.rows (c4)) Go.Pm.fl0)]] 0 0)], Go.Pm.PV.undef, Go.Pm.PV.undef, Go.Pm.PV.undef, Go.Pm.PV.undef, Go.Pm.PV.undef, Go.Pm.PV.int Go.IntKind.i64 ((((List.length s) : Nat) : Int)), Go.Pm.PV.int Go.IntKind.i64 v8_0, Go.Pm.PV.undef, Go.Pm.PV.undef, Go.Pm.PV.undef, Go.Pm.PV.undef, Go.Pm.PV.undef, Go.Pm.PV.undef, Go.Pm.PV.undef, Go.Pm.PV.undef, Go.Pm.PV.undef, Go.Pm.PV.undef], [], 0⟩ = Option.map (fun r => Go.Pm.PV.int Go.IntKind.i64 r) (f199_1_176psiil_l0 s c1 c2 c3 c4 m0 v8_0) := by
  intro m0
  induction m0 with
  | zero => intros; rw [Go.Pm.lp_zero]; rfl
  | succ m0 ih =>
    intro v8_0
    rw [Go.Pm.lp_succ]
    simp only [Go.Pm.W0, Go.Pm.W1, Go.Pm.W2, Go.Pm.W3, Go.Pm.W4, Go.Pm.W5, Go.Pm.W6, Go.Pm.W7, Go.Pm.W8, Go.Pm.W9, Go.Pm.Wc, WE, WT, WS, Nat.reduceAdd, Nat.reduceSub, Nat.reduceMul, Nat.reduceBEq, Nat.reduceLeDiff, Nat.reduceEqDiff, Nat.reduceLT, ↓reduceIte, nt199, co199, re199, rk199, Tryz.f199, kp199_0, ir176, rk176, f176_1psiil_ok hC hR, f199_1_176psiil_l0, ih]
theorem f199_1_176psiil_ok {C : Go.Pm.Callee} {R : Recs} (hC : Go.Pm.Fix E isRec C) (hR : RecOk C R) (s : (List Attr)) (c1 : ByteArray) (c2 : Int) (c3 : Int) (c4 : (List ByteArray))  :
    C.pureC 199 [Go.Pm.PV.lit (Go.Pm.rows s) Go.Pm.fl0, Go.Pm.PV.fn 176 [Go.Pm.PV.eptr [[Go.Pm.PV.str c1, Go.Pm.PV.int Go.IntKind.i64 c2, Go.Pm.PV.int Go.IntKind.i64 c3, Go.Pm.PV.lit (Go.Pm.rows c4) Go.Pm.fl0]] 0 0]] = Option.map (fun r => Go.Pm.PV.int Go.IntKind.i64 r) (f199_1_176psiil s c1 c2 c3 c4) := by
  rw [Go.Pm.fix_pure hC (fn := Tryz.f199) rfl _ rfl rfl rfl]
  simp only [Go.Pm.W0, Go.Pm.W1, Go.Pm.W2, Go.Pm.W3, Go.Pm.W4, Go.Pm.W5, Go.Pm.W6, Go.Pm.W7, Go.Pm.W8, Go.Pm.W9, Go.Pm.Wc, WE, WT, WS, Nat.reduceAdd, Nat.reduceSub, Nat.reduceMul, Nat.reduceBEq, Nat.reduceLeDiff, Nat.reduceEqDiff, Nat.reduceLT, ↓reduceIte, nt199, co199, re199, rk199, Tryz.f199, kp199_0, ir176, rk176, f176_1psiil_ok hC hR, f199_1_176psiil, f199_1_176psiil_l0_ok hC hR]
/-! slices.ContainsFunc[[]scarfjoint/api.Attr,scarfjoint/api.Attr] -/
noncomputable def f175_1_176psiil (s : (List Attr)) (c1 : ByteArray) (c2 : Int) (c3 : Int) (c4 : (List ByteArray)) : Option Bool :=
  (Option.bind (Go.S.f199_1_176psiil s c1 c2 c3 c4) fun x0 =>
   (some (decide ((0 : Int) ≤ x0))))
theorem f175_1_176psiil_ok {C : Go.Pm.Callee} {R : Recs} (hC : Go.Pm.Fix E isRec C) (hR : RecOk C R) (s : (List Attr)) (c1 : ByteArray) (c2 : Int) (c3 : Int) (c4 : (List ByteArray))  :
    C.pureC 175 [Go.Pm.PV.lit (Go.Pm.rows s) Go.Pm.fl0, Go.Pm.PV.fn 176 [Go.Pm.PV.eptr [[Go.Pm.PV.str c1, Go.Pm.PV.int Go.IntKind.i64 c2, Go.Pm.PV.int Go.IntKind.i64 c3, Go.Pm.PV.lit (Go.Pm.rows c4) Go.Pm.fl0]] 0 0]] = Option.map (fun r => Go.Pm.PV.bool r) (f175_1_176psiil s c1 c2 c3 c4) := by
  rw [Go.Pm.fix_pure hC (fn := Tryz.f175) rfl _ rfl rfl rfl]
  simp only [Go.Pm.W0, Go.Pm.W1, Go.Pm.W2, Go.Pm.W3, Go.Pm.W4, Go.Pm.W5, Go.Pm.W6, Go.Pm.W7, Go.Pm.W8, Go.Pm.W9, Go.Pm.Wc, WE, WT, WS, Nat.reduceAdd, Nat.reduceSub, Nat.reduceMul, Nat.reduceBEq, Nat.reduceLeDiff, Nat.reduceEqDiff, Nat.reduceLT, ↓reduceIte, nt175, co175, re175, rk175, Tryz.f175, ir199, rk199, f199_1_176psiil_ok hC hR, f175_1_176psiil]
/-! scarfjoint/types.names -/
noncomputable def f177_l0 (l : (List ByteArray))  : Nat → Int → Option Int
  | 0, _ => none
  | m0 + 1, v10_0 =>
    (if (decide (v10_0 < (((List.length l) : Nat) : Int))) then
     (Option.bind (Go.Pm.at? l v10_0) fun x1 =>
     (Option.bind (Go.S.f145 x1) fun x2 =>
     (if (!x2) then
     (some (2 : Int))
    else (if (decide (((0 : Int) ≤ v10_0) ∧ (v10_0 ≤ (((List.length l) : Nat) : Int)))) then
     (Option.bind (Go.S.f200 (List.take (Int.toNat v10_0) l) x1) fun x3 =>
     (if x3 then
     (some (5 : Int))
    else (f177_l0 l m0 (Go.Pm.w64 (v10_0 + (1 : Int))))))
    else none))))
    else (some (0 : Int)))
noncomputable def f177 (l : (List ByteArray)) : Option Int :=
  (if (decide ((20 : Int) < (((List.length l) : Nat) : Int))) then
   (some (3 : Int))
  else (f177_l0 l Go.Pm.loopMax (0 : Int)))
theorem f177_l0_ok {C : Go.Pm.Callee} {R : Recs} (hC : Go.Pm.Fix E isRec C) (hR : RecOk C R) {l : (List ByteArray)}    :
    ∀ (m0 : Nat) (v10_0 : Int) , Go.Pm.lp (Go.Pm.machP E 177 C) [(Go.Pm.Fr.blk 0), (Go.Pm.Fr.seq 0 [1, 1, 1])] 0 [0, 0, 1, 0, 1, 1] m0 ⟨[Go.Pm.PV.lit (Go.Pm.rows (l)) Go.Pm.fl0, Go.Pm.PV.undef, Go.Pm.PV.undef, Go.Pm.PV.undef, Go.Pm.PV.undef, Go.Pm.PV.undef, Go.Pm.PV.undef, Go.Pm.PV.undef, Go.Pm.PV.lit (Go.Pm.rows (l)) Go.Pm.fl0, Go.Pm.PV.int Go.IntKind.i64 ((((List.length l) : Nat) : Int)), Go.Pm.PV.int Go.IntKind.i64 v10_0, Go.Pm.PV.undef, Go.Pm.PV.undef, Go.Pm.PV.undef, Go.Pm.PV.undef, Go.Pm.PV.undef, Go.Pm.PV.undef, Go.Pm.PV.undef, Go.Pm.PV.undef, Go.Pm.PV.undef, Go.Pm.PV.undef, Go.Pm.PV.undef, Go.Pm.PV.undef, Go.Pm.PV.undef, Go.Pm.PV.undef, Go.Pm.PV.undef], [], 0⟩ = Option.map (fun r => Go.Pm.PV.int Go.IntKind.i64 r) (f177_l0 l m0 v10_0) := by
  intro m0
  induction m0 with
  | zero => intros; rw [Go.Pm.lp_zero]; rfl
  | succ m0 ih =>
    intro v10_0
    rw [Go.Pm.lp_succ]
    simp only [Go.Pm.W0, Go.Pm.W1, Go.Pm.W2, Go.Pm.W3, Go.Pm.W4, Go.Pm.W5, Go.Pm.W6, Go.Pm.W7, Go.Pm.W8, Go.Pm.W9, Go.Pm.Wc, WE, WT, WS, Nat.reduceAdd, Nat.reduceSub, Nat.reduceMul, Nat.reduceBEq, Nat.reduceLeDiff, Nat.reduceEqDiff, Nat.reduceLT, ↓reduceIte, nt177, co177, re177, rk177, Tryz.f177, kp177_0, ir145, rk145, ir200, rk200, f145_ok hC hR, f200_ok hC hR, f177_l0, ih]
theorem f177_ok {C : Go.Pm.Callee} {R : Recs} (hC : Go.Pm.Fix E isRec C) (hR : RecOk C R) (l : (List ByteArray))  :
    C.pureC 177 [Go.Pm.PV.lit (Go.Pm.rows l) Go.Pm.fl0] = Option.map (fun r => Go.Pm.PV.int Go.IntKind.i64 r) (f177 l) := by
  rw [Go.Pm.fix_pure hC (fn := Tryz.f177) rfl _ rfl rfl rfl]
  simp only [Go.Pm.W0, Go.Pm.W1, Go.Pm.W2, Go.Pm.W3, Go.Pm.W4, Go.Pm.W5, Go.Pm.W6, Go.Pm.W7, Go.Pm.W8, Go.Pm.W9, Go.Pm.Wc, WE, WT, WS, Nat.reduceAdd, Nat.reduceSub, Nat.reduceMul, Nat.reduceBEq, Nat.reduceLeDiff, Nat.reduceEqDiff, Nat.reduceLT, ↓reduceIte, nt177, co177, re177, rk177, Tryz.f177, kp177_0, ir145, rk145, ir200, rk200, f145_ok hC hR, f200_ok hC hR, f177, f177_l0_ok hC hR]
/-! scarfjoint/types.attribute -/
noncomputable def f149 (x : Attr) (before : (List Attr)) : Option Int :=
  (Option.bind (Go.S.f145 x.Name) fun x0 =>
   (if (!x0) then
   (some (2 : Int))
  else (Option.bind (Go.S.f175_1_176psiil before x.Name x.Low x.High x.Names) fun x1 =>
   (if x1 then
   (some (5 : Int))
  else (Option.bind (Go.S.f177 x.Names) fun x2 =>
   (if (!(x2 == (0 : Int))) then
   (some x2)
  else (if (decide ((-(1000000 : Int)) ≤ x.Low)) then
   (if (decide (x.Low ≤ x.High)) then
   (if (decide ((0 : Int) < (((List.length x.Names) : Nat) : Int))) then
   (if (x.Low == (0 : Int)) then
   (if (!(x.High == (Go.Pm.w64 ((((List.length x.Names) : Nat) : Int) - (1 : Int))))) then
   (some (6 : Int))
  else (some (0 : Int)))
  else (some (6 : Int)))
  else (if (!(decide (x.High ≤ (1000000 : Int)))) then
   (some (6 : Int))
  else (some (0 : Int))))
  else (if (decide ((0 : Int) < (((List.length x.Names) : Nat) : Int))) then
   (if (x.Low == (0 : Int)) then
   (if (!(x.High == (Go.Pm.w64 ((((List.length x.Names) : Nat) : Int) - (1 : Int))))) then
   (some (6 : Int))
  else (some (0 : Int)))
  else (some (6 : Int)))
  else (some (6 : Int))))
  else (if (decide ((0 : Int) < (((List.length x.Names) : Nat) : Int))) then
   (if (x.Low == (0 : Int)) then
   (if (!(x.High == (Go.Pm.w64 ((((List.length x.Names) : Nat) : Int) - (1 : Int))))) then
   (some (6 : Int))
  else (some (0 : Int)))
  else (some (6 : Int)))
  else (some (6 : Int))))))))))
theorem f149_ok {C : Go.Pm.Callee} {R : Recs} (hC : Go.Pm.Fix E isRec C) (hR : RecOk C R) (x_Name : ByteArray) (x_Low : Int) (x_High : Int) (x_Names : (List ByteArray)) (before : (List Attr))  :
    C.pureC 149 [Go.Pm.PV.agg [Go.Pm.PV.str x_Name, Go.Pm.PV.int Go.IntKind.i64 x_Low, Go.Pm.PV.int Go.IntKind.i64 x_High, Go.Pm.PV.lit (Go.Pm.rows x_Names) Go.Pm.fl0], Go.Pm.PV.lit (Go.Pm.rows before) Go.Pm.fl0] = Option.map (fun r => Go.Pm.PV.int Go.IntKind.i64 r) (f149 (Attr.mk x_Name x_Low x_High x_Names) before) := by
  rw [Go.Pm.fix_pure hC (fn := Tryz.f149) rfl _ rfl rfl rfl]
  simp only [Go.Pm.W0, Go.Pm.W1, Go.Pm.W2, Go.Pm.W3, Go.Pm.W4, Go.Pm.W5, Go.Pm.W6, Go.Pm.W7, Go.Pm.W8, Go.Pm.W9, Go.Pm.Wc, WE, WT, WS, Nat.reduceAdd, Nat.reduceSub, Nat.reduceMul, Nat.reduceBEq, Nat.reduceLeDiff, Nat.reduceEqDiff, Nat.reduceLT, ↓reduceIte, nt149, co149, re149, rk149, Tryz.f149, ir145, rk145, ir175, rk175, ir176, rk176, ir177, rk177, f145_ok hC hR, f175_1_176psiil_ok hC hR, f177_ok hC hR, f149]
/-! scarfjoint/types.node -/
noncomputable def f116_l1 (x3 : (List Go.S.Attr))  : Nat → Int → Option Int
  | 0, _ => none
  | m1 + 1, k_4 =>
    (if (decide (k_4 < (((List.length x3) : Nat) : Int))) then
     (if ((decide ((0 : Int) ≤ k_4)) && (decide (k_4 < (((List.length x3) : Nat) : Int)))) then
     (Option.bind (x3[(Int.toNat k_4)]?) fun x5 =>
     (if (decide (((0 : Int) ≤ k_4) ∧ (k_4 ≤ (((List.length x3) : Nat) : Int)))) then
     (if (decide ((Int.toNat k_4) ≤ (List.length x3))) then
     (Option.bind (Go.S.f149 x5 (List.take (Int.toNat k_4) x3)) fun x6 =>
     (if (!(x6 == (0 : Int))) then
     (some x6)
    else (f116_l1 x3 m1 (Go.Pm.w64 (k_4 + (1 : Int))))))
    else none)
    else none))
    else none)
    else (some (0 : Int)))
noncomputable def f116 (R : Recs) (t : Types) (i : Int) : Option Int :=
  (Option.bind (Go.Pm.at? t.Nodes i) fun x0 =>
   (Option.bind (Go.S.f145 x0.Name) fun x1 =>
   (if (!x1) then
   (some (2 : Int))
  else (if (decide (((0 : Int) ≤ i) ∧ (i ≤ (((List.length t.Nodes) : Nat) : Int)))) then
   (Option.bind (Go.S.f146_1_147psibl (List.take (Int.toNat i) t.Nodes) x0.Name x0.Parent x0.Abstract x0.Attrs) fun x2 =>
   (if x2 then
   (some (5 : Int))
  else (if (decide (x0.Parent < (-(1 : Int)))) then
   (some (6 : Int))
  else (if (decide (i ≤ x0.Parent)) then
   (some (6 : Int))
  else (if (decide ((4 : Int) < (((List.length x0.Attrs) : Nat) : Int))) then
   (some (3 : Int))
  else (Option.bind (Go.S.Recs.f148 R t i) fun x3 =>
   (if (decide ((8 : Int) < (((List.length x3) : Nat) : Int))) then
   (some (3 : Int))
  else (f116_l1 x3 Go.Pm.loopMax (Go.Pm.w64 ((((List.length x3) : Nat) : Int) - (((List.length x0.Attrs) : Nat) : Int)))))))))))
  else none))))
theorem f116_l1_ok {C : Go.Pm.Callee} {R : Recs} (hC : Go.Pm.Fix E isRec C) (hR : RecOk C R) {x3 : (List Go.S.Attr)}    :
    ∀ (m1 : Nat) (k_4 : Int) , Go.Pm.lp (Go.Pm.machP E 116 C) [(Go.Pm.Fr.blk 1), (Go.Pm.Fr.seq 0 [1, 1, 1, 1, 1, 1])] 1 [0, 0, 1, 0, 1, 1, 1, 1, 1] m1 ⟨Go.Pm.PV.undef :: Go.Pm.PV.undef :: Go.Pm.PV.undef :: Go.Pm.PV.undef :: Go.Pm.PV.undef :: Go.Pm.PV.undef :: Go.Pm.PV.own 0 4 0 (List.length x3) :: Go.Pm.PV.int Go.IntKind.i64 k_4 :: Go.Pm.PV.undef :: Go.Pm.PV.undef :: Go.Pm.PV.undef :: Go.Pm.PV.undef :: Go.Pm.PV.undef :: Go.Pm.PV.undef :: Go.Pm.PV.undef :: Go.Pm.PV.undef :: Go.Pm.PV.undef :: Go.Pm.PV.undef :: Go.Pm.PV.undef :: Go.Pm.PV.undef :: Go.Pm.PV.undef :: Go.Pm.PV.undef :: Go.Pm.PV.undef :: Go.Pm.PV.undef :: Go.Pm.PV.undef :: Go.Pm.PV.undef :: Go.Pm.PV.undef :: Go.Pm.PV.undef :: Go.Pm.PV.undef :: Go.Pm.PV.undef :: Go.Pm.PV.undef :: Go.Pm.PV.undef :: Go.Pm.PV.undef :: Go.Pm.PV.undef :: Go.Pm.PV.undef :: Go.Pm.PV.undef :: Go.Pm.PV.undef :: Go.Pm.PV.undef :: Go.Pm.PV.undef :: Go.Pm.PV.undef :: Go.Pm.PV.undef :: Go.Pm.PV.undef :: Go.Pm.PV.undef :: Go.Pm.PV.undef :: Go.Pm.PV.undef :: Go.Pm.PV.undef :: Go.Pm.PV.undef :: Go.Pm.PV.undef :: Go.Pm.PV.undef :: Go.Pm.PV.undef :: Go.Pm.PV.undef :: Go.Pm.PV.undef :: Go.Pm.PV.undef :: Go.Pm.PV.undef :: Go.Pm.PV.undef :: Go.Pm.PV.undef :: Go.Pm.PV.undef :: Go.Pm.PV.undef :: Go.Pm.PV.undef :: Go.Pm.PV.undef :: Go.Pm.PV.undef :: Go.Pm.PV.undef :: Go.Pm.PV.undef :: Go.Pm.PV.undef :: Go.Pm.PV.undef :: Go.Pm.PV.undef :: Go.Pm.PV.undef :: Go.Pm.PV.undef :: Go.Pm.PV.undef :: Go.Pm.PV.undef :: [], [(0, Go.Pm.PObj.arr 4 (Go.Pm.rows (x3)) Bool.false Bool.false)], 1⟩ = Option.map (fun r => Go.Pm.PV.int Go.IntKind.i64 r) (f116_l1 x3 m1 k_4) := by
  intro m1
  induction m1 with
  | zero => intros; rw [Go.Pm.lp_zero]; rfl
  | succ m1 ih =>
    intro k_4
    rw [Go.Pm.lp_succ]
    simp only [Go.Pm.W0, Go.Pm.W1, Go.Pm.W2, Go.Pm.W3, Go.Pm.W4, Go.Pm.W5, Go.Pm.W6, Go.Pm.W7, Go.Pm.W8, Go.Pm.W9, Go.Pm.Wc, WE, WT, WS, Nat.reduceAdd, Nat.reduceSub, Nat.reduceMul, Nat.reduceBEq, Nat.reduceLeDiff, Nat.reduceEqDiff, Nat.reduceLT, ↓reduceIte, nt116, co116, re116, rk116, Tryz.f116, kp116_1, pa116_16, ir145, rk145, ir146, rk146, ir147, rk147, ir148, rk148, ir149, rk149, hR.f148, f145_ok hC hR, f146_1_147psibl_ok hC hR, f149_ok hC hR, f116_l1, ih]
theorem f116_ok {C : Go.Pm.Callee} {R : Recs} (hC : Go.Pm.Fix E isRec C) (hR : RecOk C R) (t_Nodes : (List NodeType)) (t_Edges : (List EdgeType)) (i : Int)  :
    C.pureC 116 [Go.Pm.PV.agg [Go.Pm.PV.lit (Go.Pm.rows t_Nodes) Go.Pm.fl0, Go.Pm.PV.lit (Go.Pm.rows t_Edges) Go.Pm.fl0], Go.Pm.PV.int Go.IntKind.i64 i] = Option.map (fun r => Go.Pm.PV.int Go.IntKind.i64 r) (f116 R (Types.mk t_Nodes t_Edges) i) := by
  rw [Go.Pm.fix_pure hC (fn := Tryz.f116) rfl _ rfl rfl rfl]
  simp only [Go.Pm.W0, Go.Pm.W1, Go.Pm.W2, Go.Pm.W3, Go.Pm.W4, Go.Pm.W5, Go.Pm.W6, Go.Pm.W7, Go.Pm.W8, Go.Pm.W9, Go.Pm.Wc, WE, WT, WS, Nat.reduceAdd, Nat.reduceSub, Nat.reduceMul, Nat.reduceBEq, Nat.reduceLeDiff, Nat.reduceEqDiff, Nat.reduceLT, ↓reduceIte, nt116, co116, re116, rk116, Tryz.f116, kp116_1, pa116_16, ir145, rk145, ir146, rk146, ir147, rk147, ir148, rk148, ir149, rk149, hR.f148, f145_ok hC hR, f146_1_147psibl_ok hC hR, f149_ok hC hR, f116, f116_l1_ok hC hR]
/-! scarfjoint/types.edge$2 -/
noncomputable def f152_1psiiiiii (y : EdgeType) (c7 : ByteArray) (c8 : Int) (c9 : Int) (c10 : Int) (c11 : Int) (c12 : Int) (c13 : Int) : Option Bool :=
  (some (decide (y.Name = c7)))
theorem f152_1psiiiiii_ok {C : Go.Pm.Callee} {R : Recs} (hC : Go.Pm.Fix E isRec C) (hR : RecOk C R) (y_Name : ByteArray) (y_From : Int) (y_To : Int) (y_OutLow : Int) (y_OutHigh : Int) (y_InLow : Int) (y_InHigh : Int) (c7 : ByteArray) (c8 : Int) (c9 : Int) (c10 : Int) (c11 : Int) (c12 : Int) (c13 : Int)  :
    C.pureC 152 [Go.Pm.PV.agg [Go.Pm.PV.str y_Name, Go.Pm.PV.int Go.IntKind.i64 y_From, Go.Pm.PV.int Go.IntKind.i64 y_To, Go.Pm.PV.int Go.IntKind.i64 y_OutLow, Go.Pm.PV.int Go.IntKind.i64 y_OutHigh, Go.Pm.PV.int Go.IntKind.i64 y_InLow, Go.Pm.PV.int Go.IntKind.i64 y_InHigh], Go.Pm.PV.eptr [[Go.Pm.PV.str c7, Go.Pm.PV.int Go.IntKind.i64 c8, Go.Pm.PV.int Go.IntKind.i64 c9, Go.Pm.PV.int Go.IntKind.i64 c10, Go.Pm.PV.int Go.IntKind.i64 c11, Go.Pm.PV.int Go.IntKind.i64 c12, Go.Pm.PV.int Go.IntKind.i64 c13]] 0 0] = Option.map (fun r => Go.Pm.PV.bool r) (f152_1psiiiiii (EdgeType.mk y_Name y_From y_To y_OutLow y_OutHigh y_InLow y_InHigh) c7 c8 c9 c10 c11 c12 c13) := by
  rw [Go.Pm.fix_pure hC (fn := Tryz.f152) rfl _ rfl rfl rfl]
  simp only [Go.Pm.W0, Go.Pm.W1, Go.Pm.W2, Go.Pm.W3, Go.Pm.W4, Go.Pm.W5, Go.Pm.W6, Go.Pm.W7, Go.Pm.W8, Go.Pm.W9, Go.Pm.Wc, WE, WT, WS, Nat.reduceAdd, Nat.reduceSub, Nat.reduceMul, Nat.reduceBEq, Nat.reduceLeDiff, Nat.reduceEqDiff, Nat.reduceLT, ↓reduceIte, nt152, co152, re152, rk152, Tryz.f152, f152_1psiiiiii]
/-! slices.IndexFunc[[]scarfjoint/api.EdgeType,scarfjoint/api.EdgeType] -/
noncomputable def f178_1_152psiiiiii_l0 (s : (List EdgeType)) (c1 : ByteArray) (c2 : Int) (c3 : Int) (c4 : Int) (c5 : Int) (c6 : Int) (c7 : Int)  : Nat → Int → Option Int
  | 0, _ => none
  | m0 + 1, v8_0 =>
    (if (decide (v8_0 < (((List.length s) : Nat) : Int))) then
     (Option.bind (Go.Pm.at? s v8_0) fun x1 =>
     (Option.bind (Go.S.f152_1psiiiiii x1 c1 c2 c3 c4 c5 c6 c7) fun x2 =>
     (if x2 then
     (some v8_0)
    else (f178_1_152psiiiiii_l0 s c1 c2 c3 c4 c5 c6 c7 m0 (Go.Pm.w64 (v8_0 + (1 : Int)))))))
    else (some (-(1 : Int))))
noncomputable def f178_1_152psiiiiii (s : (List EdgeType)) (c1 : ByteArray) (c2 : Int) (c3 : Int) (c4 : Int) (c5 : Int) (c6 : Int) (c7 : Int) : Option Int :=
  (f178_1_152psiiiiii_l0 s c1 c2 c3 c4 c5 c6 c7 Go.Pm.loopMax (0 : Int))
theorem f178_1_152psiiiiii_l0_ok {C : Go.Pm.Callee} {R : Recs} (hC : Go.Pm.Fix E isRec C) (hR : RecOk C R) {s : (List EdgeType)} {c1 : ByteArray} {c2 : Int} {c3 : Int} {c4 : Int} {c5 : Int} {c6 : Int} {c7 : Int}    :
    ∀ (m0 : Nat) (v8_0 : Int) , Go.Pm.lp (Go.Pm.machP E 178 C) [(Go.Pm.Fr.blk 0), (Go.Pm.Fr.seq 0 [1, 1])] 0 [0, 0, 1, 0, 1] m0 ⟨[Go.Pm.PV.lit (Go.Pm.rows (s)) Go.Pm.fl0, Go.Pm.PV.fn 152 [(Go.Pm.PV.eptr [[(Go.Pm.PV.str (c1)), (Go.Pm.PV.int Go.IntKind.i64 (c2)), (Go.Pm.PV.int Go.IntKind.i64 (c3)), (Go.Pm.PV.int Go.IntKind.i64 (c4)), (Go.Pm.PV.int Go.IntKind.i64 (c5)), (Go.Pm.PV.int Go.IntKind.i64 (c6)), (Go.Pm.PV.int Go.IntKind.i64 (c7))]] 0 0)], Go.Pm.PV.undef, Go.Pm.PV.undef, Go.Pm.PV.undef, Go.Pm.PV.undef, Go.Pm.PV.undef, Go.Pm.PV.int Go.IntKind.i64 ((((List.length s) : Nat) : Int)), Go.Pm.PV.int Go.IntKind.i64 v8_0, Go.Pm.PV.undef, Go.Pm.PV.undef, Go.Pm.PV.undef, Go.Pm.PV.undef, Go.Pm.PV.undef, Go.Pm.PV.undef, Go.Pm.PV.undef, Go.Pm.PV.undef, Go.Pm.PV.undef, Go.Pm.PV.undef], [], 0⟩ = Option.map (fun r => Go.Pm.PV.int Go.IntKind.i64 r) (f178_1_152psiiiiii_l0 s c1 c2 c3 c4 c5 c6 c7 m0 v8_0) := by
  intro m0
  induction m0 with
  | zero => intros; rw [Go.Pm.lp_zero]; rfl
  | succ m0 ih =>
    intro v8_0
    rw [Go.Pm.lp_succ]
    simp only [Go.Pm.W0, Go.Pm.W1, Go.Pm.W2, Go.Pm.W3, Go.Pm.W4, Go.Pm.W5, Go.Pm.W6, Go.Pm.W7, Go.Pm.W8, Go.Pm.W9, Go.Pm.Wc, WE, WT, WS, Nat.reduceAdd, Nat.reduceSub, Nat.reduceMul, Nat.reduceBEq, Nat.reduceLeDiff, Nat.reduceEqDiff, Nat.reduceLT, ↓reduceIte, nt178, co178, re178, rk178, Tryz.f178, kp178_0, ir152, rk152, f152_1psiiiiii_ok hC hR, f178_1_152psiiiiii_l0, ih]
theorem f178_1_152psiiiiii_ok {C : Go.Pm.Callee} {R : Recs} (hC : Go.Pm.Fix E isRec C) (hR : RecOk C R) (s : (List EdgeType)) (c1 : ByteArray) (c2 : Int) (c3 : Int) (c4 : Int) (c5 : Int) (c6 : Int) (c7 : Int)  :
    C.pureC 178 [Go.Pm.PV.lit (Go.Pm.rows s) Go.Pm.fl0, Go.Pm.PV.fn 152 [Go.Pm.PV.eptr [[Go.Pm.PV.str c1, Go.Pm.PV.int Go.IntKind.i64 c2, Go.Pm.PV.int Go.IntKind.i64 c3, Go.Pm.PV.int Go.IntKind.i64 c4, Go.Pm.PV.int Go.IntKind.i64 c5, Go.Pm.PV.int Go.IntKind.i64 c6, Go.Pm.PV.int Go.IntKind.i64 c7]] 0 0]] = Option.map (fun r => Go.Pm.PV.int Go.IntKind.i64 r) (f178_1_152psiiiiii s c1 c2 c3 c4 c5 c6 c7) := by
  rw [Go.Pm.fix_pure hC (fn := Tryz.f178) rfl _ rfl rfl rfl]
  simp only [Go.Pm.W0, Go.Pm.W1, Go.Pm.W2, Go.Pm.W3, Go.Pm.W4, Go.Pm.W5, Go.Pm.W6, Go.Pm.W7, Go.Pm.W8, Go.Pm.W9, Go.Pm.Wc, WE, WT, WS, Nat.reduceAdd, Nat.reduceSub, Nat.reduceMul, Nat.reduceBEq, Nat.reduceLeDiff, Nat.reduceEqDiff, Nat.reduceLT, ↓reduceIte, nt178, co178, re178, rk178, Tryz.f178, kp178_0, ir152, rk152, f152_1psiiiiii_ok hC hR, f178_1_152psiiiiii, f178_1_152psiiiiii_l0_ok hC hR]
/-! slices.ContainsFunc[[]scarfjoint/api.EdgeType,scarfjoint/api.EdgeType] -/
noncomputable def f151_1_152psiiiiii (s : (List EdgeType)) (c1 : ByteArray) (c2 : Int) (c3 : Int) (c4 : Int) (c5 : Int) (c6 : Int) (c7 : Int) : Option Bool :=
  (Option.bind (Go.S.f178_1_152psiiiiii s c1 c2 c3 c4 c5 c6 c7) fun x0 =>
   (some (decide ((0 : Int) ≤ x0))))
theorem f151_1_152psiiiiii_ok {C : Go.Pm.Callee} {R : Recs} (hC : Go.Pm.Fix E isRec C) (hR : RecOk C R) (s : (List EdgeType)) (c1 : ByteArray) (c2 : Int) (c3 : Int) (c4 : Int) (c5 : Int) (c6 : Int) (c7 : Int)  :
    C.pureC 151 [Go.Pm.PV.lit (Go.Pm.rows s) Go.Pm.fl0, Go.Pm.PV.fn 152 [Go.Pm.PV.eptr [[Go.Pm.PV.str c1, Go.Pm.PV.int Go.IntKind.i64 c2, Go.Pm.PV.int Go.IntKind.i64 c3, Go.Pm.PV.int Go.IntKind.i64 c4, Go.Pm.PV.int Go.IntKind.i64 c5, Go.Pm.PV.int Go.IntKind.i64 c6, Go.Pm.PV.int Go.IntKind.i64 c7]] 0 0]] = Option.map (fun r => Go.Pm.PV.bool r) (f151_1_152psiiiiii s c1 c2 c3 c4 c5 c6 c7) := by
  rw [Go.Pm.fix_pure hC (fn := Tryz.f151) rfl _ rfl rfl rfl]
  simp only [Go.Pm.W0, Go.Pm.W1, Go.Pm.W2, Go.Pm.W3, Go.Pm.W4, Go.Pm.W5, Go.Pm.W6, Go.Pm.W7, Go.Pm.W8, Go.Pm.W9, Go.Pm.Wc, WE, WT, WS, Nat.reduceAdd, Nat.reduceSub, Nat.reduceMul, Nat.reduceBEq, Nat.reduceLeDiff, Nat.reduceEqDiff, Nat.reduceLT, ↓reduceIte, nt151, co151, re151, rk151, Tryz.f151, ir178, rk178, f178_1_152psiiiiii_ok hC hR, f151_1_152psiiiiii]
/-! scarfjoint/types.edge$1 -/
noncomputable def f150_1pll (n : Int) (c1 : (List Go.S.NodeType)) (c2 : (List Go.S.EdgeType)) : Option Bool :=
  (if (decide ((0 : Int) ≤ n)) then
   (some (decide (n < (((List.length c1) : Nat) : Int))))
  else (some Bool.false))
theorem f150_1pll_ok {C : Go.Pm.Callee} {R : Recs} (hC : Go.Pm.Fix E isRec C) (hR : RecOk C R) (n : Int) (c1 : (List Go.S.NodeType)) (c2 : (List Go.S.EdgeType))  :
    C.pureC 150 [Go.Pm.PV.int Go.IntKind.i64 n, Go.Pm.PV.eptr [[Go.Pm.PV.lit (Go.Pm.rows c1) Go.Pm.fl0, Go.Pm.PV.lit (Go.Pm.rows c2) Go.Pm.fl0]] 0 0] = Option.map (fun r => Go.Pm.PV.bool r) (f150_1pll n c1 c2) := by
  rw [Go.Pm.fix_pure hC (fn := Tryz.f150) rfl _ rfl rfl rfl]
  simp only [Go.Pm.W0, Go.Pm.W1, Go.Pm.W2, Go.Pm.W3, Go.Pm.W4, Go.Pm.W5, Go.Pm.W6, Go.Pm.W7, Go.Pm.W8, Go.Pm.W9, Go.Pm.Wc, WE, WT, WS, Nat.reduceAdd, Nat.reduceSub, Nat.reduceMul, Nat.reduceBEq, Nat.reduceLeDiff, Nat.reduceEqDiff, Nat.reduceLT, ↓reduceIte, nt150, co150, re150, rk150, Tryz.f150, f150_1pll]
/-! scarfjoint/types.bounded -/
noncomputable def f153 (low : Int) (high : Int) : Option Bool :=
  (if (decide ((0 : Int) ≤ low)) then
   (if (decide (low ≤ (40 : Int))) then
   (if (high == (-(1 : Int))) then
   (some Bool.true)
  else (if (decide (low ≤ high)) then
   (some (decide (high ≤ (40 : Int))))
  else (some Bool.false)))
  else (some Bool.false))
  else (some Bool.false))
theorem f153_ok {C : Go.Pm.Callee} {R : Recs} (hC : Go.Pm.Fix E isRec C) (hR : RecOk C R) (low : Int) (high : Int)  :
    C.pureC 153 [Go.Pm.PV.int Go.IntKind.i64 low, Go.Pm.PV.int Go.IntKind.i64 high] = Option.map (fun r => Go.Pm.PV.bool r) (f153 low high) := by
  rw [Go.Pm.fix_pure hC (fn := Tryz.f153) rfl _ rfl rfl rfl]
  simp only [Go.Pm.W0, Go.Pm.W1, Go.Pm.W2, Go.Pm.W3, Go.Pm.W4, Go.Pm.W5, Go.Pm.W6, Go.Pm.W7, Go.Pm.W8, Go.Pm.W9, Go.Pm.Wc, WE, WT, WS, Nat.reduceAdd, Nat.reduceSub, Nat.reduceMul, Nat.reduceBEq, Nat.reduceLeDiff, Nat.reduceEqDiff, Nat.reduceLT, ↓reduceIte, nt153, co153, re153, rk153, Tryz.f153, f153]
/-! scarfjoint/types.edge -/
noncomputable def f117 (t : Types) (i : Int) : Option Int :=
  (Option.bind (Go.Pm.at? t.Edges i) fun x0 =>
   (Option.bind (Go.S.f145 x0.Name) fun x1 =>
   (if (!x1) then
   (some (2 : Int))
  else (if (decide (((0 : Int) ≤ i) ∧ (i ≤ (((List.length t.Edges) : Nat) : Int)))) then
   (Option.bind (Go.S.f151_1_152psiiiiii (List.take (Int.toNat i) t.Edges) x0.Name x0.From x0.To x0.OutLow x0.OutHigh x0.InLow x0.InHigh) fun x2 =>
   (if x2 then
   (some (5 : Int))
  else (Option.bind (Go.S.f150_1pll x0.From t.Nodes t.Edges) fun x3 =>
   (if (!x3) then
   (some (6 : Int))
  else (Option.bind (Go.S.f150_1pll x0.To t.Nodes t.Edges) fun x4 =>
   (if (!x4) then
   (if (!x4) then
   (some (6 : Int))
  else (some (0 : Int)))
  else (Option.bind (Go.S.f153 x0.OutLow x0.OutHigh) fun x5 =>
   (if (!x5) then
   (some (6 : Int))
  else (Option.bind (Go.S.f153 x0.InLow x0.InHigh) fun x6 =>
   (if (!x6) then
   (some (6 : Int))
  else (some (0 : Int))))))))))))
  else none))))
theorem f117_ok {C : Go.Pm.Callee} {R : Recs} (hC : Go.Pm.Fix E isRec C) (hR : RecOk C R) (t_Nodes : (List NodeType)) (t_Edges : (List EdgeType)) (i : Int)  :
    C.pureC 117 [Go.Pm.PV.agg [Go.Pm.PV.lit (Go.Pm.rows t_Nodes) Go.Pm.fl0, Go.Pm.PV.lit (Go.Pm.rows t_Edges) Go.Pm.fl0], Go.Pm.PV.int Go.IntKind.i64 i] = Option.map (fun r => Go.Pm.PV.int Go.IntKind.i64 r) (f117 (Types.mk t_Nodes t_Edges) i) := by
  rw [Go.Pm.fix_pure hC (fn := Tryz.f117) rfl _ rfl rfl rfl]
  simp only [Go.Pm.W0, Go.Pm.W1, Go.Pm.W2, Go.Pm.W3, Go.Pm.W4, Go.Pm.W5, Go.Pm.W6, Go.Pm.W7, Go.Pm.W8, Go.Pm.W9, Go.Pm.Wc, WE, WT, WS, Nat.reduceAdd, Nat.reduceSub, Nat.reduceMul, Nat.reduceBEq, Nat.reduceLeDiff, Nat.reduceEqDiff, Nat.reduceLT, ↓reduceIte, nt117, co117, re117, rk117, Tryz.f117, ir145, rk145, ir150, rk150, ir151, rk151, ir152, rk152, ir153, rk153, f145_ok hC hR, f151_1_152psiiiiii_ok hC hR, f150_1pll_ok hC hR, f153_ok hC hR, f117]
/-! scarfjoint/types.Valid -/
noncomputable def f78_l3 (t : Types)  : Nat → Int → Option (ByteArray × Int)
  | 0, _ => none
  | m3 + 1, v46_3 =>
    (if (decide (v46_3 < (((List.length t.Edges) : Nat) : Int))) then
     (Option.bind (Go.Pm.at? t.Edges v46_3) fun x4 =>
     (Option.bind (Go.S.f117 t v46_3) fun x5 =>
     (if (!(x5 == (0 : Int))) then
     (some (x4.Name, x5))
    else (f78_l3 t m3 (Go.Pm.w64 (v46_3 + (1 : Int)))))))
    else (some ((ByteArray.mk (List.toArray [])), (0 : Int))))
noncomputable def f78_l1 (R : Recs) (t : Types)  : Nat → Int → Option (ByteArray × Int)
  | 0, _ => none
  | m1 + 1, v29_0 =>
    (if (decide (v29_0 < (((List.length t.Nodes) : Nat) : Int))) then
     (Option.bind (Go.Pm.at? t.Nodes v29_0) fun x1 =>
     (Option.bind (Go.S.f116 R t v29_0) fun x2 =>
     (if (!(x2 == (0 : Int))) then
     (some (x1.Name, x2))
    else (f78_l1 R t m1 (Go.Pm.w64 (v29_0 + (1 : Int)))))))
    else (f78_l3 t Go.Pm.loopMax (0 : Int)))
noncomputable def f78 (R : Recs) (t : Types) : Option (ByteArray × Int) :=
  (if ((((List.length t.Nodes) : Nat) : Int) == (0 : Int)) then
   (some ((ByteArray.mk (List.toArray [])), (7 : Int)))
  else (if (decide ((12 : Int) < (((List.length t.Nodes) : Nat) : Int))) then
   (some ((ByteArray.mk (List.toArray [])), (3 : Int)))
  else (if (decide ((20 : Int) < (((List.length t.Edges) : Nat) : Int))) then
   (some ((ByteArray.mk (List.toArray [])), (3 : Int)))
  else (f78_l1 R t Go.Pm.loopMax (0 : Int)))))
theorem f78_l3_ok {C : Go.Pm.Callee} {R : Recs} (hC : Go.Pm.Fix E isRec C) (hR : RecOk C R) {t_Nodes : (List NodeType)} {t_Edges : (List EdgeType)}    :
    ∀ (m3 : Nat) (v46_3 : Int) , Go.Pm.lp (Go.Pm.machP E 78 C) [(Go.Pm.Fr.blk 3), (Go.Pm.Fr.seq 0 [1, 1, 1, 1])] 3 [0, 0, 1, 0, 1, 1, 1] m3 ⟨[Go.Pm.PV.undef, (Go.Pm.PV.ptr 0 0), Go.Pm.PV.undef, Go.Pm.PV.undef, Go.Pm.PV.undef, Go.Pm.PV.undef, Go.Pm.PV.undef, Go.Pm.PV.undef, Go.Pm.PV.undef, Go.Pm.PV.undef, Go.Pm.PV.undef, Go.Pm.PV.undef, Go.Pm.PV.undef, Go.Pm.PV.undef, Go.Pm.PV.undef, Go.Pm.PV.undef, Go.Pm.PV.undef, Go.Pm.PV.undef, Go.Pm.PV.undef, Go.Pm.PV.undef, Go.Pm.PV.undef, Go.Pm.PV.undef, Go.Pm.PV.undef, Go.Pm.PV.undef, Go.Pm.PV.undef, Go.Pm.PV.undef, Go.Pm.PV.undef, Go.Pm.PV.undef, Go.Pm.PV.undef, Go.Pm.PV.undef, Go.Pm.PV.undef, Go.Pm.PV.undef, Go.Pm.PV.undef, Go.Pm.PV.undef, Go.Pm.PV.undef, Go.Pm.PV.undef, Go.Pm.PV.undef, Go.Pm.PV.undef, Go.Pm.PV.undef, Go.Pm.PV.undef, Go.Pm.PV.undef, Go.Pm.PV.undef, Go.Pm.PV.undef, Go.Pm.PV.undef, Go.Pm.PV.lit (Go.Pm.rows (t_Edges)) Go.Pm.fl0, Go.Pm.PV.int Go.IntKind.i64 ((((List.length t_Edges) : Nat) : Int)), Go.Pm.PV.int Go.IntKind.i64 v46_3, Go.Pm.PV.undef, Go.Pm.PV.undef, Go.Pm.PV.undef, Go.Pm.PV.undef, Go.Pm.PV.undef, Go.Pm.PV.undef, Go.Pm.PV.undef, Go.Pm.PV.undef, Go.Pm.PV.undef, Go.Pm.PV.undef, Go.Pm.PV.undef, Go.Pm.PV.undef, Go.Pm.PV.undef], [(0, Go.Pm.PObj.box [Go.Pm.PV.lit (Go.Pm.rows (t_Nodes)) Go.Pm.fl0, Go.Pm.PV.lit (Go.Pm.rows (t_Edges)) Go.Pm.fl0])], 1⟩ = Option.map (fun r => Go.Pm.PV.tup [Go.Pm.PV.str r.1, Go.Pm.PV.int Go.IntKind.i64 r.2]) (f78_l3 (Types.mk t_Nodes t_Edges) m3 v46_3) := by
  intro m3
  induction m3 with
  | zero => intros; rw [Go.Pm.lp_zero]; rfl
  | succ m3 ih =>
    intro v46_3
    rw [Go.Pm.lp_succ]
    simp only [Go.Pm.W0, Go.Pm.W1, Go.Pm.W2, Go.Pm.W3, Go.Pm.W4, Go.Pm.W5, Go.Pm.W6, Go.Pm.W7, Go.Pm.W8, Go.Pm.W9, Go.Pm.Wc, WE, WT, WS, Nat.reduceAdd, Nat.reduceSub, Nat.reduceMul, Nat.reduceBEq, Nat.reduceLeDiff, Nat.reduceEqDiff, Nat.reduceLT, ↓reduceIte, nt78, co78, re78, rk78, Tryz.f78, kp78_1, kp78_3, ir116, rk116, ir117, rk117, f116_ok hC hR, f117_ok hC hR, f78_l3, ih]
theorem f78_l1_ok {C : Go.Pm.Callee} {R : Recs} (hC : Go.Pm.Fix E isRec C) (hR : RecOk C R) {t_Nodes : (List NodeType)} {t_Edges : (List EdgeType)}    :
    ∀ (m1 : Nat) (v29_0 : Int) , Go.Pm.lp (Go.Pm.machP E 78 C) [(Go.Pm.Fr.blk 1), (Go.Pm.Fr.seq 0 [1, 1, 1])] 1 [0, 0, 1, 0, 1, 1] m1 ⟨[Go.Pm.PV.undef, (Go.Pm.PV.ptr 0 0), Go.Pm.PV.undef, Go.Pm.PV.undef, Go.Pm.PV.undef, Go.Pm.PV.undef, Go.Pm.PV.undef, Go.Pm.PV.undef, Go.Pm.PV.undef, Go.Pm.PV.undef, Go.Pm.PV.undef, Go.Pm.PV.undef, Go.Pm.PV.undef, Go.Pm.PV.undef, Go.Pm.PV.undef, Go.Pm.PV.undef, Go.Pm.PV.undef, Go.Pm.PV.undef, Go.Pm.PV.undef, Go.Pm.PV.undef, Go.Pm.PV.undef, Go.Pm.PV.undef, Go.Pm.PV.undef, Go.Pm.PV.undef, Go.Pm.PV.undef, Go.Pm.PV.undef, Go.Pm.PV.undef, Go.Pm.PV.lit (Go.Pm.rows (t_Nodes)) Go.Pm.fl0, Go.Pm.PV.int Go.IntKind.i64 ((((List.length t_Nodes) : Nat) : Int)), Go.Pm.PV.int Go.IntKind.i64 v29_0, Go.Pm.PV.undef, Go.Pm.PV.undef, Go.Pm.PV.undef, Go.Pm.PV.undef, Go.Pm.PV.undef, Go.Pm.PV.undef, Go.Pm.PV.undef, Go.Pm.PV.undef, Go.Pm.PV.undef, Go.Pm.PV.undef, Go.Pm.PV.undef, Go.Pm.PV.undef, Go.Pm.PV.undef, Go.Pm.PV.undef, Go.Pm.PV.undef, Go.Pm.PV.undef, Go.Pm.PV.undef, Go.Pm.PV.undef, Go.Pm.PV.undef, Go.Pm.PV.undef, Go.Pm.PV.undef, Go.Pm.PV.undef, Go.Pm.PV.undef, Go.Pm.PV.undef, Go.Pm.PV.undef, Go.Pm.PV.undef, Go.Pm.PV.undef, Go.Pm.PV.undef, Go.Pm.PV.undef, Go.Pm.PV.undef], [(0, Go.Pm.PObj.box [Go.Pm.PV.lit (Go.Pm.rows (t_Nodes)) Go.Pm.fl0, Go.Pm.PV.lit (Go.Pm.rows (t_Edges)) Go.Pm.fl0])], 1⟩ = Option.map (fun r => Go.Pm.PV.tup [Go.Pm.PV.str r.1, Go.Pm.PV.int Go.IntKind.i64 r.2]) (f78_l1 R (Types.mk t_Nodes t_Edges) m1 v29_0) := by
  intro m1
  induction m1 with
  | zero => intros; rw [Go.Pm.lp_zero]; rfl
  | succ m1 ih =>
    intro v29_0
    rw [Go.Pm.lp_succ]
    simp only [Go.Pm.W0, Go.Pm.W1, Go.Pm.W2, Go.Pm.W3, Go.Pm.W4, Go.Pm.W5, Go.Pm.W6, Go.Pm.W7, Go.Pm.W8, Go.Pm.W9, Go.Pm.Wc, WE, WT, WS, Nat.reduceAdd, Nat.reduceSub, Nat.reduceMul, Nat.reduceBEq, Nat.reduceLeDiff, Nat.reduceEqDiff, Nat.reduceLT, ↓reduceIte, nt78, co78, re78, rk78, Tryz.f78, kp78_1, kp78_3, ir116, rk116, ir117, rk117, f116_ok hC hR, f117_ok hC hR, f78_l1, ih, f78_l3_ok hC hR]
theorem f78_ok {C : Go.Pm.Callee} {R : Recs} (hC : Go.Pm.Fix E isRec C) (hR : RecOk C R) (t_Nodes : (List NodeType)) (t_Edges : (List EdgeType))  :
    C.pureC 78 [Go.Pm.PV.agg [Go.Pm.PV.lit (Go.Pm.rows t_Nodes) Go.Pm.fl0, Go.Pm.PV.lit (Go.Pm.rows t_Edges) Go.Pm.fl0]] = Option.map (fun r => Go.Pm.PV.tup [Go.Pm.PV.str r.1, Go.Pm.PV.int Go.IntKind.i64 r.2]) (f78 R (Types.mk t_Nodes t_Edges)) := by
  rw [Go.Pm.fix_pure hC (fn := Tryz.f78) rfl _ rfl rfl rfl]
  simp only [Go.Pm.W0, Go.Pm.W1, Go.Pm.W2, Go.Pm.W3, Go.Pm.W4, Go.Pm.W5, Go.Pm.W6, Go.Pm.W7, Go.Pm.W8, Go.Pm.W9, Go.Pm.Wc, WE, WT, WS, Nat.reduceAdd, Nat.reduceSub, Nat.reduceMul, Nat.reduceBEq, Nat.reduceLeDiff, Nat.reduceEqDiff, Nat.reduceLT, ↓reduceIte, nt78, co78, re78, rk78, Tryz.f78, kp78_1, kp78_3, ir116, rk116, ir117, rk117, f116_ok hC hR, f117_ok hC hR, f78, f78_l1_ok hC hR]
/-! scarfjoint/graph.within -/
noncomputable def f122 (n : Int) (most : Int) : Option Bool :=
  (if (decide ((0 : Int) ≤ n)) then
   (some (decide (n ≤ most)))
  else (some Bool.false))
theorem f122_ok {C : Go.Pm.Callee} {R : Recs} (hC : Go.Pm.Fix E isRec C) (hR : RecOk C R) (n : Int) (most : Int)  :
    C.pureC 122 [Go.Pm.PV.int Go.IntKind.i64 n, Go.Pm.PV.int Go.IntKind.i64 most] = Option.map (fun r => Go.Pm.PV.bool r) (f122 n most) := by
  rw [Go.Pm.fix_pure hC (fn := Tryz.f122) rfl _ rfl rfl rfl]
  simp only [Go.Pm.W0, Go.Pm.W1, Go.Pm.W2, Go.Pm.W3, Go.Pm.W4, Go.Pm.W5, Go.Pm.W6, Go.Pm.W7, Go.Pm.W8, Go.Pm.W9, Go.Pm.Wc, WE, WT, WS, Nat.reduceAdd, Nat.reduceSub, Nat.reduceMul, Nat.reduceBEq, Nat.reduceLeDiff, Nat.reduceEqDiff, Nat.reduceLT, ↓reduceIte, nt122, co122, re122, rk122, Tryz.f122, f122]
/-! scarfjoint/graph.Valid$1 -/
noncomputable def f121 (t : Int) : Option Bool :=
  (Option.bind (Go.S.f122 t (99 : Int)) fun x0 =>
   (some (!x0)))
theorem f121_ok {C : Go.Pm.Callee} {R : Recs} (hC : Go.Pm.Fix E isRec C) (hR : RecOk C R) (t : Int)  :
    C.pureC 121 [Go.Pm.PV.int Go.IntKind.i64 t] = Option.map (fun r => Go.Pm.PV.bool r) (f121 t) := by
  rw [Go.Pm.fix_pure hC (fn := Tryz.f121) rfl _ rfl rfl rfl]
  simp only [Go.Pm.W0, Go.Pm.W1, Go.Pm.W2, Go.Pm.W3, Go.Pm.W4, Go.Pm.W5, Go.Pm.W6, Go.Pm.W7, Go.Pm.W8, Go.Pm.W9, Go.Pm.Wc, WE, WT, WS, Nat.reduceAdd, Nat.reduceSub, Nat.reduceMul, Nat.reduceBEq, Nat.reduceLeDiff, Nat.reduceEqDiff, Nat.reduceLT, ↓reduceIte, nt121, co121, re121, rk121, Tryz.f121, ir122, rk122, f122_ok hC hR, f121]
/-! slices.IndexFunc[[]int,int] -/
noncomputable def f49_1_121_l0 (s : (List Int))  : Nat → Int → Option Int
  | 0, _ => none
  | m0 + 1, v8_0 =>
    (if (decide (v8_0 < (((List.length s) : Nat) : Int))) then
     (Option.bind (Go.Pm.at? s v8_0) fun x1 =>
     (Option.bind (Go.S.f121 x1) fun x2 =>
     (if x2 then
     (some v8_0)
    else (f49_1_121_l0 s m0 (Go.Pm.w64 (v8_0 + (1 : Int)))))))
    else (some (-(1 : Int))))
noncomputable def f49_1_121 (s : (List Int)) : Option Int :=
  (f49_1_121_l0 s Go.Pm.loopMax (0 : Int))
theorem f49_1_121_l0_ok {C : Go.Pm.Callee} {R : Recs} (hC : Go.Pm.Fix E isRec C) (hR : RecOk C R) {s : (List Int)}    :
    ∀ (m0 : Nat) (v8_0 : Int) , Go.Pm.lp (Go.Pm.machP E 49 C) [(Go.Pm.Fr.blk 0), (Go.Pm.Fr.seq 0 [1, 1])] 0 [0, 0, 1, 0, 1] m0 ⟨[Go.Pm.PV.lit (Go.Pm.rows (s)) Go.Pm.fl0, Go.Pm.PV.fn 121 [], Go.Pm.PV.undef, Go.Pm.PV.undef, Go.Pm.PV.undef, Go.Pm.PV.undef, Go.Pm.PV.undef, Go.Pm.PV.int Go.IntKind.i64 ((((List.length s) : Nat) : Int)), Go.Pm.PV.int Go.IntKind.i64 v8_0, Go.Pm.PV.undef, Go.Pm.PV.undef, Go.Pm.PV.undef, Go.Pm.PV.undef, Go.Pm.PV.undef, Go.Pm.PV.undef, Go.Pm.PV.undef, Go.Pm.PV.undef, Go.Pm.PV.undef, Go.Pm.PV.undef], [], 0⟩ = Option.map (fun r => Go.Pm.PV.int Go.IntKind.i64 r) (f49_1_121_l0 s m0 v8_0) := by
  intro m0
  induction m0 with
  | zero => intros; rw [Go.Pm.lp_zero]; rfl
  | succ m0 ih =>
    intro v8_0
    rw [Go.Pm.lp_succ]
    simp only [Go.Pm.W0, Go.Pm.W1, Go.Pm.W2, Go.Pm.W3, Go.Pm.W4, Go.Pm.W5, Go.Pm.W6, Go.Pm.W7, Go.Pm.W8, Go.Pm.W9, Go.Pm.Wc, WE, WT, WS, Nat.reduceAdd, Nat.reduceSub, Nat.reduceMul, Nat.reduceBEq, Nat.reduceLeDiff, Nat.reduceEqDiff, Nat.reduceLT, ↓reduceIte, nt49, co49, re49, rk49, Tryz.f49, kp49_0, ir121, rk121, f121_ok hC hR, f49_1_121_l0, ih]
theorem f49_1_121_ok {C : Go.Pm.Callee} {R : Recs} (hC : Go.Pm.Fix E isRec C) (hR : RecOk C R) (s : (List Int))  :
    C.pureC 49 [Go.Pm.PV.lit (Go.Pm.rows s) Go.Pm.fl0, Go.Pm.PV.fn 121 []] = Option.map (fun r => Go.Pm.PV.int Go.IntKind.i64 r) (f49_1_121 s) := by
  rw [Go.Pm.fix_pure hC (fn := Tryz.f49) rfl _ rfl rfl rfl]
  simp only [Go.Pm.W0, Go.Pm.W1, Go.Pm.W2, Go.Pm.W3, Go.Pm.W4, Go.Pm.W5, Go.Pm.W6, Go.Pm.W7, Go.Pm.W8, Go.Pm.W9, Go.Pm.Wc, WE, WT, WS, Nat.reduceAdd, Nat.reduceSub, Nat.reduceMul, Nat.reduceBEq, Nat.reduceLeDiff, Nat.reduceEqDiff, Nat.reduceLT, ↓reduceIte, nt49, co49, re49, rk49, Tryz.f49, kp49_0, ir121, rk121, f121_ok hC hR, f49_1_121, f49_1_121_l0_ok hC hR]
/-! slices.ContainsFunc[[]int,int] -/
noncomputable def f31_1_121 (s : (List Int)) : Option Bool :=
  (Option.bind (Go.S.f49_1_121 s) fun x0 =>
   (some (decide ((0 : Int) ≤ x0))))
theorem f31_1_121_ok {C : Go.Pm.Callee} {R : Recs} (hC : Go.Pm.Fix E isRec C) (hR : RecOk C R) (s : (List Int))  :
    C.pureC 31 [Go.Pm.PV.lit (Go.Pm.rows s) Go.Pm.fl0, Go.Pm.PV.fn 121 []] = Option.map (fun r => Go.Pm.PV.bool r) (f31_1_121 s) := by
  rw [Go.Pm.fix_pure hC (fn := Tryz.f31) rfl _ rfl rfl rfl]
  simp only [Go.Pm.W0, Go.Pm.W1, Go.Pm.W2, Go.Pm.W3, Go.Pm.W4, Go.Pm.W5, Go.Pm.W6, Go.Pm.W7, Go.Pm.W8, Go.Pm.W9, Go.Pm.Wc, WE, WT, WS, Nat.reduceAdd, Nat.reduceSub, Nat.reduceMul, Nat.reduceBEq, Nat.reduceLeDiff, Nat.reduceEqDiff, Nat.reduceLT, ↓reduceIte, nt31, co31, re31, rk31, Tryz.f31, ir49, rk49, f49_1_121_ok hC hR, f31_1_121]
/-! scarfjoint/graph.fits -/
noncomputable def f125 (e : Edge) (nodes : Int) : Option Bool :=
  (Option.bind (Go.S.f122 e.Type_ (99 : Int)) fun x0 =>
   (if x0 then
   (Option.bind (Go.S.f122 e.From (Go.Pm.w64 (nodes - (1 : Int)))) fun x1 =>
   (if x1 then
   (Option.bind (Go.S.f122 e.To (Go.Pm.w64 (nodes - (1 : Int)))) fun x2 =>
   (some x2))
  else (some Bool.false)))
  else (some Bool.false)))
theorem f125_ok {C : Go.Pm.Callee} {R : Recs} (hC : Go.Pm.Fix E isRec C) (hR : RecOk C R) (e_Type_ : Int) (e_From : Int) (e_To : Int) (nodes : Int)  :
    C.pureC 125 [Go.Pm.PV.agg [Go.Pm.PV.int Go.IntKind.i64 e_Type_, Go.Pm.PV.int Go.IntKind.i64 e_From, Go.Pm.PV.int Go.IntKind.i64 e_To], Go.Pm.PV.int Go.IntKind.i64 nodes] = Option.map (fun r => Go.Pm.PV.bool r) (f125 (Edge.mk e_Type_ e_From e_To) nodes) := by
  rw [Go.Pm.fix_pure hC (fn := Tryz.f125) rfl _ rfl rfl rfl]
  simp only [Go.Pm.W0, Go.Pm.W1, Go.Pm.W2, Go.Pm.W3, Go.Pm.W4, Go.Pm.W5, Go.Pm.W6, Go.Pm.W7, Go.Pm.W8, Go.Pm.W9, Go.Pm.Wc, WE, WT, WS, Nat.reduceAdd, Nat.reduceSub, Nat.reduceMul, Nat.reduceBEq, Nat.reduceLeDiff, Nat.reduceEqDiff, Nat.reduceLT, ↓reduceIte, nt125, co125, re125, rk125, Tryz.f125, ir122, rk122, f122_ok hC hR, f125]
/-! scarfjoint/graph.Valid$2 -/
noncomputable def f124_1pll (e : Edge) (c3 : (List Int)) (c4 : (List Go.S.Edge)) : Option Bool :=
  (Option.bind (Go.S.f125 e (((List.length c3) : Nat) : Int)) fun x0 =>
   (some (!x0)))
theorem f124_1pll_ok {C : Go.Pm.Callee} {R : Recs} (hC : Go.Pm.Fix E isRec C) (hR : RecOk C R) (e_Type_ : Int) (e_From : Int) (e_To : Int) (c3 : (List Int)) (c4 : (List Go.S.Edge))  :
    C.pureC 124 [Go.Pm.PV.agg [Go.Pm.PV.int Go.IntKind.i64 e_Type_, Go.Pm.PV.int Go.IntKind.i64 e_From, Go.Pm.PV.int Go.IntKind.i64 e_To], Go.Pm.PV.eptr [[Go.Pm.PV.lit (Go.Pm.rows c3) Go.Pm.fl0, Go.Pm.PV.lit (Go.Pm.rows c4) Go.Pm.fl0]] 0 0] = Option.map (fun r => Go.Pm.PV.bool r) (f124_1pll (Edge.mk e_Type_ e_From e_To) c3 c4) := by
  rw [Go.Pm.fix_pure hC (fn := Tryz.f124) rfl _ rfl rfl rfl]
  simp only [Go.Pm.W0, Go.Pm.W1, Go.Pm.W2, Go.Pm.W3, Go.Pm.W4, Go.Pm.W5, Go.Pm.W6, Go.Pm.W7, Go.Pm.W8, Go.Pm.W9, Go.Pm.Wc, WE, WT, WS, Nat.reduceAdd, Nat.reduceSub, Nat.reduceMul, Nat.reduceBEq, Nat.reduceLeDiff, Nat.reduceEqDiff, Nat.reduceLT, ↓reduceIte, nt124, co124, re124, rk124, Tryz.f124, ir125, rk125, f125_ok hC hR, f124_1pll]
/-! slices.IndexFunc[[]scarfjoint/api.Edge,scarfjoint/api.Edge] -/
noncomputable def f157_1_124pll_l0 (s : (List Edge)) (c1 : (List Int)) (c2 : (List Go.S.Edge))  : Nat → Int → Option Int
  | 0, _ => none
  | m0 + 1, v8_0 =>
    (if (decide (v8_0 < (((List.length s) : Nat) : Int))) then
     (Option.bind (Go.Pm.at? s v8_0) fun x1 =>
     (Option.bind (Go.S.f124_1pll x1 c1 c2) fun x2 =>
     (if x2 then
     (some v8_0)
    else (f157_1_124pll_l0 s c1 c2 m0 (Go.Pm.w64 (v8_0 + (1 : Int)))))))
    else (some (-(1 : Int))))
noncomputable def f157_1_124pll (s : (List Edge)) (c1 : (List Int)) (c2 : (List Go.S.Edge)) : Option Int :=
  (f157_1_124pll_l0 s c1 c2 Go.Pm.loopMax (0 : Int))
theorem f157_1_124pll_l0_ok {C : Go.Pm.Callee} {R : Recs} (hC : Go.Pm.Fix E isRec C) (hR : RecOk C R) {s : (List Edge)} {c1 : (List Int)} {c2 : (List Go.S.Edge)}    :
    ∀ (m0 : Nat) (v8_0 : Int) , Go.Pm.lp (Go.Pm.machP E 157 C) [(Go.Pm.Fr.blk 0), (Go.Pm.Fr.seq 0 [1, 1])] 0 [0, 0, 1, 0, 1] m0 ⟨[Go.Pm.PV.lit (Go.Pm.rows (s)) Go.Pm.fl0, Go.Pm.PV.fn 124 [(Go.Pm.PV.eptr [[(Go.Pm.PV.lit (Go.Pm.rows (c1)) Go.Pm.fl0), (Go.Pm.PV.lit (Go.Pm.rows (c2)) Go.Pm.fl0)]] 0 0)], Go.Pm.PV.undef, Go.Pm.PV.undef, Go.Pm.PV.undef, Go.Pm.PV.undef, Go.Pm.PV.undef, Go.Pm.PV.int Go.IntKind.i64 ((((List.length s) : Nat) : Int)), Go.Pm.PV.int Go.IntKind.i64 v8_0, Go.Pm.PV.undef, Go.Pm.PV.undef, Go.Pm.PV.undef, Go.Pm.PV.undef, Go.Pm.PV.undef, Go.Pm.PV.undef, Go.Pm.PV.undef, Go.Pm.PV.undef, Go.Pm.PV.undef, Go.Pm.PV.undef], [], 0⟩ = Option.map (fun r => Go.Pm.PV.int Go.IntKind.i64 r) (f157_1_124pll_l0 s c1 c2 m0 v8_0) := by
  intro m0
  induction m0 with
  | zero => intros; rw [Go.Pm.lp_zero]; rfl
  | succ m0 ih =>
    intro v8_0
    rw [Go.Pm.lp_succ]
    simp only [Go.Pm.W0, Go.Pm.W1, Go.Pm.W2, Go.Pm.W3, Go.Pm.W4, Go.Pm.W5, Go.Pm.W6, Go.Pm.W7, Go.Pm.W8, Go.Pm.W9, Go.Pm.Wc, WE, WT, WS, Nat.reduceAdd, Nat.reduceSub, Nat.reduceMul, Nat.reduceBEq, Nat.reduceLeDiff, Nat.reduceEqDiff, Nat.reduceLT, ↓reduceIte, nt157, co157, re157, rk157, Tryz.f157, kp157_0, ir124, rk124, f124_1pll_ok hC hR, f157_1_124pll_l0, ih]
theorem f157_1_124pll_ok {C : Go.Pm.Callee} {R : Recs} (hC : Go.Pm.Fix E isRec C) (hR : RecOk C R) (s : (List Edge)) (c1 : (List Int)) (c2 : (List Go.S.Edge))  :
    C.pureC 157 [Go.Pm.PV.lit (Go.Pm.rows s) Go.Pm.fl0, Go.Pm.PV.fn 124 [Go.Pm.PV.eptr [[Go.Pm.PV.lit (Go.Pm.rows c1) Go.Pm.fl0, Go.Pm.PV.lit (Go.Pm.rows c2) Go.Pm.fl0]] 0 0]] = Option.map (fun r => Go.Pm.PV.int Go.IntKind.i64 r) (f157_1_124pll s c1 c2) := by
  rw [Go.Pm.fix_pure hC (fn := Tryz.f157) rfl _ rfl rfl rfl]
  simp only [Go.Pm.W0, Go.Pm.W1, Go.Pm.W2, Go.Pm.W3, Go.Pm.W4, Go.Pm.W5, Go.Pm.W6, Go.Pm.W7, Go.Pm.W8, Go.Pm.W9, Go.Pm.Wc, WE, WT, WS, Nat.reduceAdd, Nat.reduceSub, Nat.reduceMul, Nat.reduceBEq, Nat.reduceLeDiff, Nat.reduceEqDiff, Nat.reduceLT, ↓reduceIte, nt157, co157, re157, rk157, Tryz.f157, kp157_0, ir124, rk124, f124_1pll_ok hC hR, f157_1_124pll, f157_1_124pll_l0_ok hC hR]
/-! slices.ContainsFunc[[]scarfjoint/api.Edge,scarfjoint/api.Edge] -/
noncomputable def f123_1_124pll (s : (List Edge)) (c1 : (List Int)) (c2 : (List Go.S.Edge)) : Option Bool :=
  (Option.bind (Go.S.f157_1_124pll s c1 c2) fun x0 =>
   (some (decide ((0 : Int) ≤ x0))))
theorem f123_1_124pll_ok {C : Go.Pm.Callee} {R : Recs} (hC : Go.Pm.Fix E isRec C) (hR : RecOk C R) (s : (List Edge)) (c1 : (List Int)) (c2 : (List Go.S.Edge))  :
    C.pureC 123 [Go.Pm.PV.lit (Go.Pm.rows s) Go.Pm.fl0, Go.Pm.PV.fn 124 [Go.Pm.PV.eptr [[Go.Pm.PV.lit (Go.Pm.rows c1) Go.Pm.fl0, Go.Pm.PV.lit (Go.Pm.rows c2) Go.Pm.fl0]] 0 0]] = Option.map (fun r => Go.Pm.PV.bool r) (f123_1_124pll s c1 c2) := by
  rw [Go.Pm.fix_pure hC (fn := Tryz.f123) rfl _ rfl rfl rfl]
  simp only [Go.Pm.W0, Go.Pm.W1, Go.Pm.W2, Go.Pm.W3, Go.Pm.W4, Go.Pm.W5, Go.Pm.W6, Go.Pm.W7, Go.Pm.W8, Go.Pm.W9, Go.Pm.Wc, WE, WT, WS, Nat.reduceAdd, Nat.reduceSub, Nat.reduceMul, Nat.reduceBEq, Nat.reduceLeDiff, Nat.reduceEqDiff, Nat.reduceLT, ↓reduceIte, nt123, co123, re123, rk123, Tryz.f123, ir157, rk157, f157_1_124pll_ok hC hR, f123_1_124pll]
/-! scarfjoint/graph.Valid -/
noncomputable def f81 (g : Graph) : Option Int :=
  (if (decide ((40 : Int) < (((List.length g.Nodes) : Nat) : Int))) then
   (some (3 : Int))
  else (if (decide ((80 : Int) < (((List.length g.Edges) : Nat) : Int))) then
   (some (3 : Int))
  else (Option.bind (Go.S.f31_1_121 g.Nodes) fun x0 =>
   (if x0 then
   (some (6 : Int))
  else (Option.bind (Go.S.f123_1_124pll g.Edges g.Nodes g.Edges) fun x1 =>
   (if x1 then
   (some (6 : Int))
  else (some (0 : Int))))))))
theorem f81_ok {C : Go.Pm.Callee} {R : Recs} (hC : Go.Pm.Fix E isRec C) (hR : RecOk C R) (g_Nodes : (List Int)) (g_Edges : (List Edge))  :
    C.pureC 81 [Go.Pm.PV.agg [Go.Pm.PV.lit (Go.Pm.rows g_Nodes) Go.Pm.fl0, Go.Pm.PV.lit (Go.Pm.rows g_Edges) Go.Pm.fl0]] = Option.map (fun r => Go.Pm.PV.int Go.IntKind.i64 r) (f81 (Graph.mk g_Nodes g_Edges)) := by
  rw [Go.Pm.fix_pure hC (fn := Tryz.f81) rfl _ rfl rfl rfl]
  simp only [Go.Pm.W0, Go.Pm.W1, Go.Pm.W2, Go.Pm.W3, Go.Pm.W4, Go.Pm.W5, Go.Pm.W6, Go.Pm.W7, Go.Pm.W8, Go.Pm.W9, Go.Pm.Wc, WE, WT, WS, Nat.reduceAdd, Nat.reduceSub, Nat.reduceMul, Nat.reduceBEq, Nat.reduceLeDiff, Nat.reduceEqDiff, Nat.reduceLT, ↓reduceIte, nt81, co81, re81, rk81, Tryz.f81, ir31, rk31, ir121, rk121, ir123, rk123, ir124, rk124, f31_1_121_ok hC hR, f123_1_124pll_ok hC hR, f81]
/-! scarfjoint/types.given$1 -/
noncomputable def f158_1pll (a : Int) (c1 : (List Go.S.NodeType)) (c2 : (List Go.S.EdgeType)) : Option Bool :=
  (if (decide (a < (0 : Int))) then
   (some Bool.true)
  else (some (decide ((((List.length c1) : Nat) : Int) ≤ a))))
theorem f158_1pll_ok {C : Go.Pm.Callee} {R : Recs} (hC : Go.Pm.Fix E isRec C) (hR : RecOk C R) (a : Int) (c1 : (List Go.S.NodeType)) (c2 : (List Go.S.EdgeType))  :
    C.pureC 158 [Go.Pm.PV.int Go.IntKind.i64 a, Go.Pm.PV.eptr [[Go.Pm.PV.lit (Go.Pm.rows c1) Go.Pm.fl0, Go.Pm.PV.lit (Go.Pm.rows c2) Go.Pm.fl0]] 0 0] = Option.map (fun r => Go.Pm.PV.bool r) (f158_1pll a c1 c2) := by
  rw [Go.Pm.fix_pure hC (fn := Tryz.f158) rfl _ rfl rfl rfl]
  simp only [Go.Pm.W0, Go.Pm.W1, Go.Pm.W2, Go.Pm.W3, Go.Pm.W4, Go.Pm.W5, Go.Pm.W6, Go.Pm.W7, Go.Pm.W8, Go.Pm.W9, Go.Pm.Wc, WE, WT, WS, Nat.reduceAdd, Nat.reduceSub, Nat.reduceMul, Nat.reduceBEq, Nat.reduceLeDiff, Nat.reduceEqDiff, Nat.reduceLT, ↓reduceIte, nt158, co158, re158, rk158, Tryz.f158, f158_1pll]
/-! slices.IndexFunc[[]int,int] -/
noncomputable def f49_1_158pll_l0 (s : (List Int)) (c1 : (List Go.S.NodeType)) (c2 : (List Go.S.EdgeType))  : Nat → Int → Option Int
  | 0, _ => none
  | m0 + 1, v8_0 =>
    (if (decide (v8_0 < (((List.length s) : Nat) : Int))) then
     (Option.bind (Go.Pm.at? s v8_0) fun x1 =>
     (Option.bind (Go.S.f158_1pll x1 c1 c2) fun x2 =>
     (if x2 then
     (some v8_0)
    else (f49_1_158pll_l0 s c1 c2 m0 (Go.Pm.w64 (v8_0 + (1 : Int)))))))
    else (some (-(1 : Int))))
noncomputable def f49_1_158pll (s : (List Int)) (c1 : (List Go.S.NodeType)) (c2 : (List Go.S.EdgeType)) : Option Int :=
  (f49_1_158pll_l0 s c1 c2 Go.Pm.loopMax (0 : Int))
theorem f49_1_158pll_l0_ok {C : Go.Pm.Callee} {R : Recs} (hC : Go.Pm.Fix E isRec C) (hR : RecOk C R) {s : (List Int)} {c1 : (List Go.S.NodeType)} {c2 : (List Go.S.EdgeType)}    :
    ∀ (m0 : Nat) (v8_0 : Int) , Go.Pm.lp (Go.Pm.machP E 49 C) [(Go.Pm.Fr.blk 0), (Go.Pm.Fr.seq 0 [1, 1])] 0 [0, 0, 1, 0, 1] m0 ⟨[Go.Pm.PV.lit (Go.Pm.rows (s)) Go.Pm.fl0, Go.Pm.PV.fn 158 [(Go.Pm.PV.eptr [[(Go.Pm.PV.lit (Go.Pm.rows (c1)) Go.Pm.fl0), (Go.Pm.PV.lit (Go.Pm.rows (c2)) Go.Pm.fl0)]] 0 0)], Go.Pm.PV.undef, Go.Pm.PV.undef, Go.Pm.PV.undef, Go.Pm.PV.undef, Go.Pm.PV.undef, Go.Pm.PV.int Go.IntKind.i64 ((((List.length s) : Nat) : Int)), Go.Pm.PV.int Go.IntKind.i64 v8_0, Go.Pm.PV.undef, Go.Pm.PV.undef, Go.Pm.PV.undef, Go.Pm.PV.undef, Go.Pm.PV.undef, Go.Pm.PV.undef, Go.Pm.PV.undef, Go.Pm.PV.undef, Go.Pm.PV.undef, Go.Pm.PV.undef], [], 0⟩ = Option.map (fun r => Go.Pm.PV.int Go.IntKind.i64 r) (f49_1_158pll_l0 s c1 c2 m0 v8_0) := by
  intro m0
  induction m0 with
  | zero => intros; rw [Go.Pm.lp_zero]; rfl
  | succ m0 ih =>
    intro v8_0
    rw [Go.Pm.lp_succ]
    simp only [Go.Pm.W0, Go.Pm.W1, Go.Pm.W2, Go.Pm.W3, Go.Pm.W4, Go.Pm.W5, Go.Pm.W6, Go.Pm.W7, Go.Pm.W8, Go.Pm.W9, Go.Pm.Wc, WE, WT, WS, Nat.reduceAdd, Nat.reduceSub, Nat.reduceMul, Nat.reduceBEq, Nat.reduceLeDiff, Nat.reduceEqDiff, Nat.reduceLT, ↓reduceIte, nt49, co49, re49, rk49, Tryz.f49, kp49_0, ir158, rk158, f158_1pll_ok hC hR, f49_1_158pll_l0, ih]
theorem f49_1_158pll_ok {C : Go.Pm.Callee} {R : Recs} (hC : Go.Pm.Fix E isRec C) (hR : RecOk C R) (s : (List Int)) (c1 : (List Go.S.NodeType)) (c2 : (List Go.S.EdgeType))  :
    C.pureC 49 [Go.Pm.PV.lit (Go.Pm.rows s) Go.Pm.fl0, Go.Pm.PV.fn 158 [Go.Pm.PV.eptr [[Go.Pm.PV.lit (Go.Pm.rows c1) Go.Pm.fl0, Go.Pm.PV.lit (Go.Pm.rows c2) Go.Pm.fl0]] 0 0]] = Option.map (fun r => Go.Pm.PV.int Go.IntKind.i64 r) (f49_1_158pll s c1 c2) := by
  rw [Go.Pm.fix_pure hC (fn := Tryz.f49) rfl _ rfl rfl rfl]
  simp only [Go.Pm.W0, Go.Pm.W1, Go.Pm.W2, Go.Pm.W3, Go.Pm.W4, Go.Pm.W5, Go.Pm.W6, Go.Pm.W7, Go.Pm.W8, Go.Pm.W9, Go.Pm.Wc, WE, WT, WS, Nat.reduceAdd, Nat.reduceSub, Nat.reduceMul, Nat.reduceBEq, Nat.reduceLeDiff, Nat.reduceEqDiff, Nat.reduceLT, ↓reduceIte, nt49, co49, re49, rk49, Tryz.f49, kp49_0, ir158, rk158, f158_1pll_ok hC hR, f49_1_158pll, f49_1_158pll_l0_ok hC hR]
/-! slices.ContainsFunc[[]int,int] -/
noncomputable def f31_1_158pll (s : (List Int)) (c1 : (List Go.S.NodeType)) (c2 : (List Go.S.EdgeType)) : Option Bool :=
  (Option.bind (Go.S.f49_1_158pll s c1 c2) fun x0 =>
   (some (decide ((0 : Int) ≤ x0))))
theorem f31_1_158pll_ok {C : Go.Pm.Callee} {R : Recs} (hC : Go.Pm.Fix E isRec C) (hR : RecOk C R) (s : (List Int)) (c1 : (List Go.S.NodeType)) (c2 : (List Go.S.EdgeType))  :
    C.pureC 31 [Go.Pm.PV.lit (Go.Pm.rows s) Go.Pm.fl0, Go.Pm.PV.fn 158 [Go.Pm.PV.eptr [[Go.Pm.PV.lit (Go.Pm.rows c1) Go.Pm.fl0, Go.Pm.PV.lit (Go.Pm.rows c2) Go.Pm.fl0]] 0 0]] = Option.map (fun r => Go.Pm.PV.bool r) (f31_1_158pll s c1 c2) := by
  rw [Go.Pm.fix_pure hC (fn := Tryz.f31) rfl _ rfl rfl rfl]
  simp only [Go.Pm.W0, Go.Pm.W1, Go.Pm.W2, Go.Pm.W3, Go.Pm.W4, Go.Pm.W5, Go.Pm.W6, Go.Pm.W7, Go.Pm.W8, Go.Pm.W9, Go.Pm.Wc, WE, WT, WS, Nat.reduceAdd, Nat.reduceSub, Nat.reduceMul, Nat.reduceBEq, Nat.reduceLeDiff, Nat.reduceEqDiff, Nat.reduceLT, ↓reduceIte, nt31, co31, re31, rk31, Tryz.f31, ir49, rk49, f49_1_158pll_ok hC hR, f31_1_158pll]
/-! scarfjoint/types.given -/
noncomputable def f126 (R : Recs) (t : Types) (l : (List Int)) : Option Int :=
  (Option.bind (Go.S.f78 R t) fun x0 =>
   (if (!((x0).2 == (0 : Int))) then
   (some (x0).2)
  else (Option.bind (Go.S.f31_1_158pll l t.Nodes t.Edges) fun x1 =>
   (if x1 then
   (some (6 : Int))
  else (some (0 : Int))))))
theorem f126_ok {C : Go.Pm.Callee} {R : Recs} (hC : Go.Pm.Fix E isRec C) (hR : RecOk C R) (t_Nodes : (List NodeType)) (t_Edges : (List EdgeType)) (l : (List Int))  :
    C.pureC 126 [Go.Pm.PV.agg [Go.Pm.PV.lit (Go.Pm.rows t_Nodes) Go.Pm.fl0, Go.Pm.PV.lit (Go.Pm.rows t_Edges) Go.Pm.fl0], Go.Pm.PV.lit (Go.Pm.rows l) Go.Pm.fl0] = Option.map (fun r => Go.Pm.PV.int Go.IntKind.i64 r) (f126 R (Types.mk t_Nodes t_Edges) l) := by
  rw [Go.Pm.fix_pure hC (fn := Tryz.f126) rfl _ rfl rfl rfl]
  simp only [Go.Pm.W0, Go.Pm.W1, Go.Pm.W2, Go.Pm.W3, Go.Pm.W4, Go.Pm.W5, Go.Pm.W6, Go.Pm.W7, Go.Pm.W8, Go.Pm.W9, Go.Pm.Wc, WE, WT, WS, Nat.reduceAdd, Nat.reduceSub, Nat.reduceMul, Nat.reduceBEq, Nat.reduceLeDiff, Nat.reduceEqDiff, Nat.reduceLT, ↓reduceIte, nt126, co126, re126, rk126, Tryz.f126, ir31, rk31, ir78, rk78, ir158, rk158, f78_ok hC hR, f31_1_158pll_ok hC hR, f126]
/-! slices.Reverse[[]int,int] -/
noncomputable def f186_r0_l0   : Nat → (List Int) → Int → Int → Option ((List Int))
  | 0, _, _, _ => none
  | m0 + 1, s_0, i_1, j_2 =>
    (if (decide (i_1 < j_2)) then
     (if ((decide ((0 : Int) ≤ j_2)) && (decide (j_2 < (((List.length s_0) : Nat) : Int)))) then
     (Option.bind (s_0[(Int.toNat j_2)]?) fun x3 =>
     (if ((decide ((0 : Int) ≤ i_1)) && (decide (i_1 < (((List.length s_0) : Nat) : Int)))) then
     (Option.bind (s_0[(Int.toNat i_1)]?) fun x4 =>
     (if ((decide ((0 : Int) ≤ i_1)) && (decide (i_1 < (((List.length s_0) : Nat) : Int)))) then
     (Option.bind (s_0[(Int.toNat i_1)]?) fun x5 =>
     (if ((decide ((0 : Int) ≤ j_2)) && (decide (j_2 < (((List.length s_0) : Nat) : Int)))) then
     (Option.bind ((List.set s_0 (Int.toNat i_1) x3)[(Int.toNat j_2)]?) fun x6 =>
     (f186_r0_l0 m0 (List.set (List.set s_0 (Int.toNat i_1) x3) (Int.toNat j_2) x4) (Go.Pm.w64 (i_1 + (1 : Int))) (Go.Pm.w64 (j_2 - (1 : Int)))))
    else none))
    else none))
    else none))
    else none)
    else (some (s_0)))
noncomputable def f186_r0 (s_p0 : (List Int)) : Option ((List Int)) :=
  (f186_r0_l0 Go.Pm.loopMax s_p0 (0 : Int) (Go.Pm.w64 ((((List.length s_p0) : Nat) : Int) - (1 : Int))))
theorem f186_r0_l0_ok {C : Go.Pm.Callee} {R : Recs} (hC : Go.Pm.Fix E isRec C) (hR : RecOk C R)     :
    ∀ (m0 : Nat) (s_0 : (List Int)) (i_1 : Int) (j_2 : Int) (ns_0 : Nat), ns_0 = List.length s_0 → Go.Pm.lp (Go.Pm.machR E 186 1 C) [(Go.Pm.Fr.blk 0)] 0 [0, 0, 1] m0 ⟨[Go.Pm.PV.own 0 1 0 ns_0, Go.Pm.PV.undef, Go.Pm.PV.int Go.IntKind.i64 i_1, Go.Pm.PV.int Go.IntKind.i64 j_2, Go.Pm.PV.undef, Go.Pm.PV.undef, Go.Pm.PV.undef, Go.Pm.PV.undef, Go.Pm.PV.undef, Go.Pm.PV.undef, Go.Pm.PV.undef, Go.Pm.PV.undef, Go.Pm.PV.undef, Go.Pm.PV.undef, Go.Pm.PV.undef, Go.Pm.PV.undef, Go.Pm.PV.undef, Go.Pm.PV.undef, Go.Pm.PV.undef, Go.Pm.PV.undef, Go.Pm.PV.undef, Go.Pm.PV.undef, Go.Pm.PV.undef, Go.Pm.PV.undef, Go.Pm.PV.undef, Go.Pm.PV.undef, Go.Pm.PV.undef, Go.Pm.PV.undef], [(0, Go.Pm.PObj.arr 1 (Go.Pm.rows s_0) Bool.false Bool.false)], 1⟩ = Option.map (fun r => ((Go.Pm.PV.tup []), [(0, Go.Pm.PObj.arr 1 (Go.Pm.rows r) Bool.false Bool.false)], 1)) (f186_r0_l0 m0 s_0 i_1 j_2) := by
  intro m0
  induction m0 with
  | zero => intros; rw [Go.Pm.lp_zero]; rfl
  | succ m0 ih =>
    intro s_0 i_1 j_2 ns_0 hs_0
    subst hs_0
    rw [Go.Pm.lp_succ]
    simp only [Go.Pm.W0, Go.Pm.W1, Go.Pm.W2, Go.Pm.W3, Go.Pm.W4, Go.Pm.W5, Go.Pm.W6, Go.Pm.W7, Go.Pm.W8, Go.Pm.W9, Go.Pm.Wc, WE, WT, WS, Nat.reduceAdd, Nat.reduceSub, Nat.reduceMul, Nat.reduceBEq, Nat.reduceLeDiff, Nat.reduceEqDiff, Nat.reduceLT, ↓reduceIte, nt186, co186, re186, rk186, Tryz.f186, kp186_0, pa186_3, f186_r0_l0, ih]
theorem f186_r0_ok {C : Go.Pm.Callee} {R : Recs} (hC : Go.Pm.Fix E isRec C) (hR : RecOk C R) (s_p0 : (List Int)) (ns_p0 : Nat) (hs_p0 : ns_p0 = List.length s_p0) :
    Go.Pm.refS C 186 1 ⟨[Go.Pm.PV.own 0 1 0 ns_p0], [(0, Go.Pm.PObj.arr 1 (Go.Pm.rows s_p0) Bool.false Bool.false)], 1⟩ = Option.map (fun r => ((Go.Pm.PV.tup []), [(0, Go.Pm.PObj.arr 1 (Go.Pm.rows r) Bool.false Bool.false)], 1)) (f186_r0 s_p0) := by
  subst hs_p0
  rw [Go.Pm.fix_ref hC (fn := Tryz.f186) rfl _ _ _ rfl rfl rfl rfl]
  simp only [Go.Pm.W0, Go.Pm.W1, Go.Pm.W2, Go.Pm.W3, Go.Pm.W4, Go.Pm.W5, Go.Pm.W6, Go.Pm.W7, Go.Pm.W8, Go.Pm.W9, Go.Pm.Wc, WE, WT, WS, Nat.reduceAdd, Nat.reduceSub, Nat.reduceMul, Nat.reduceBEq, Nat.reduceLeDiff, Nat.reduceEqDiff, Nat.reduceLT, ↓reduceIte, nt186, co186, re186, rk186, Tryz.f186, kp186_0, pa186_3, f186_r0, f186_r0_l0_ok hC hR]
/-! scarfjoint/types.line -/
noncomputable def f160_l0 (t : Types)  : Nat → (List Int) → Int → Option (List Int)
  | 0, _, _ => none
  | m0 + 1, out_0, a_1 =>
    (if (decide ((0 : Int) ≤ a_1)) then
     (if (decide ((List.length (out_0 ++ [a_1])) ≤ Go.Pm.bound)) then
     (Option.bind (Go.Pm.at? t.Nodes a_1) fun x2 =>
     (f160_l0 t m0 (out_0 ++ [a_1]) x2.Parent))
    else none)
    else (Option.bind (Go.S.f186_r0 out_0) fun x3 =>
     (if (decide ((List.length out_0) ≤ (List.length x3))) then
     (some (List.take (List.length out_0) x3))
    else none)))
noncomputable def f160 (t : Types) (a : Int) : Option (List Int) :=
  (f160_l0 t Go.Pm.loopMax ([] : List Int) a)
theorem f160_l0_ok {C : Go.Pm.Callee} {R : Recs} (hC : Go.Pm.Fix E isRec C) (hR : RecOk C R) {t_Nodes : (List NodeType)} {t_Edges : (List EdgeType)}    :
    ∀ (m0 : Nat) (out_0 : (List Int)) (a_1 : Int) (nout_0 : Nat), nout_0 = List.length out_0 → Go.Pm.lp (Go.Pm.machP E 160 C) [(Go.Pm.Fr.blk 0), (Go.Pm.Fr.seq 0 [1, 1, 1])] 0 [0, 0, 0, 1, 1] m0 ⟨[Go.Pm.PV.undef, Go.Pm.PV.int Go.IntKind.i64 a_1, (Go.Pm.PV.ptr 0 0), Go.Pm.PV.undef, Go.Pm.PV.undef, Go.Pm.PV.own 1 1 0 nout_0, Go.Pm.PV.undef, Go.Pm.PV.undef, Go.Pm.PV.undef, Go.Pm.PV.undef, Go.Pm.PV.undef, Go.Pm.PV.undef, Go.Pm.PV.undef, Go.Pm.PV.undef, Go.Pm.PV.undef, Go.Pm.PV.undef, Go.Pm.PV.undef, Go.Pm.PV.undef, Go.Pm.PV.undef, Go.Pm.PV.undef, Go.Pm.PV.undef], [(0, Go.Pm.PObj.box [Go.Pm.PV.lit (Go.Pm.rows (t_Nodes)) Go.Pm.fl0, Go.Pm.PV.lit (Go.Pm.rows (t_Edges)) Go.Pm.fl0]), (1, Go.Pm.PObj.arr 1 (Go.Pm.rows out_0) Bool.false Bool.false)], 2⟩ = Option.map (fun r => Go.Pm.PV.lit (Go.Pm.rows r) ⟨true, false⟩) (f160_l0 (Types.mk t_Nodes t_Edges) m0 out_0 a_1) := by
  intro m0
  induction m0 with
  | zero => intros; rw [Go.Pm.lp_zero]; rfl
  | succ m0 ih =>
    intro out_0 a_1 nout_0 hout_0
    subst hout_0
    rw [Go.Pm.lp_succ]
    simp only [Go.Pm.W0, Go.Pm.W1, Go.Pm.W2, Go.Pm.W3, Go.Pm.W4, Go.Pm.W5, Go.Pm.W6, Go.Pm.W7, Go.Pm.W8, Go.Pm.W9, Go.Pm.Wc, WE, WT, WS, Nat.reduceAdd, Nat.reduceSub, Nat.reduceMul, Nat.reduceBEq, Nat.reduceLeDiff, Nat.reduceEqDiff, Nat.reduceLT, ↓reduceIte, nt160, co160, re160, rk160, Tryz.f160, kp160_0, ir186, rk186, f186_r0_ok hC hR, Go.Pm.xpO_p, f160_l0, ih]
theorem f160_ok {C : Go.Pm.Callee} {R : Recs} (hC : Go.Pm.Fix E isRec C) (hR : RecOk C R) (t_Nodes : (List NodeType)) (t_Edges : (List EdgeType)) (a : Int)  :
    C.pureC 160 [Go.Pm.PV.agg [Go.Pm.PV.lit (Go.Pm.rows t_Nodes) Go.Pm.fl0, Go.Pm.PV.lit (Go.Pm.rows t_Edges) Go.Pm.fl0], Go.Pm.PV.int Go.IntKind.i64 a] = Option.map (fun r => Go.Pm.PV.lit (Go.Pm.rows r) ⟨true, false⟩) (f160 (Types.mk t_Nodes t_Edges) a) := by
  have e_0_0 := fun (t_Nodes : (List NodeType)) (t_Edges : (List EdgeType)) (e1 : Int) => f160_l0_ok (C := C) (R := R) (t_Nodes := t_Nodes) (t_Edges := t_Edges) hC hR Go.Pm.loopMax (([] : List Int)) e1 _ rfl
  simp only [Go.Pm.rows_nil, Go.Pm.rows_cons, Go.Pm.cells_int, Go.Pm.cells_bool, Go.Pm.cells_str, Go.Pm.cells_list, WS, List.length_nil, List.length_cons, Nat.reduceAdd] at e_0_0
  rw [Go.Pm.fix_pure hC (fn := Tryz.f160) rfl _ rfl rfl rfl]
  simp only [Go.Pm.W0, Go.Pm.W1, Go.Pm.W2, Go.Pm.W3, Go.Pm.W4, Go.Pm.W5, Go.Pm.W6, Go.Pm.W7, Go.Pm.W8, Go.Pm.W9, Go.Pm.Wc, WE, WT, WS, Nat.reduceAdd, Nat.reduceSub, Nat.reduceMul, Nat.reduceBEq, Nat.reduceLeDiff, Nat.reduceEqDiff, Nat.reduceLT, ↓reduceIte, nt160, co160, re160, rk160, Tryz.f160, kp160_0, ir186, rk186, f186_r0_ok hC hR, Go.Pm.xpO_p, f160, e_0_0]
/-! slices.Index[[]int,int] -/
noncomputable def f185_l0 (s : (List Int)) (v : Int)  : Nat → Int → Option Int
  | 0, _ => none
  | m0 + 1, v8_0 =>
    (if (decide (v8_0 < (((List.length s) : Nat) : Int))) then
     (Option.bind (Go.Pm.at? s v8_0) fun x1 =>
     (if (v == x1) then
     (some v8_0)
    else (f185_l0 s v m0 (Go.Pm.w64 (v8_0 + (1 : Int))))))
    else (some (-(1 : Int))))
noncomputable def f185 (s : (List Int)) (v : Int) : Option Int :=
  (f185_l0 s v Go.Pm.loopMax (0 : Int))
theorem f185_l0_ok {C : Go.Pm.Callee} {R : Recs} (hC : Go.Pm.Fix E isRec C) (hR : RecOk C R) {s : (List Int)} {v : Int}    :
    ∀ (m0 : Nat) (v8_0 : Int) , Go.Pm.lp (Go.Pm.machP E 185 C) [(Go.Pm.Fr.blk 0), (Go.Pm.Fr.seq 0 [1, 1])] 0 [0, 0, 1, 0, 1] m0 ⟨[Go.Pm.PV.lit (Go.Pm.rows (s)) Go.Pm.fl0, Go.Pm.PV.int Go.IntKind.i64 (v), Go.Pm.PV.undef, Go.Pm.PV.undef, Go.Pm.PV.undef, Go.Pm.PV.undef, Go.Pm.PV.undef, Go.Pm.PV.int Go.IntKind.i64 ((((List.length s) : Nat) : Int)), Go.Pm.PV.int Go.IntKind.i64 v8_0, Go.Pm.PV.undef, Go.Pm.PV.undef, Go.Pm.PV.undef, Go.Pm.PV.undef, Go.Pm.PV.undef, Go.Pm.PV.undef, Go.Pm.PV.undef, Go.Pm.PV.undef, Go.Pm.PV.undef, Go.Pm.PV.undef], [], 0⟩ = Option.map (fun r => Go.Pm.PV.int Go.IntKind.i64 r) (f185_l0 s v m0 v8_0) := by
  intro m0
  induction m0 with
  | zero => intros; rw [Go.Pm.lp_zero]; rfl
  | succ m0 ih =>
    intro v8_0
    rw [Go.Pm.lp_succ]
    simp only [Go.Pm.W0, Go.Pm.W1, Go.Pm.W2, Go.Pm.W3, Go.Pm.W4, Go.Pm.W5, Go.Pm.W6, Go.Pm.W7, Go.Pm.W8, Go.Pm.W9, Go.Pm.Wc, WE, WT, WS, Nat.reduceAdd, Nat.reduceSub, Nat.reduceMul, Nat.reduceBEq, Nat.reduceLeDiff, Nat.reduceEqDiff, Nat.reduceLT, ↓reduceIte, nt185, co185, re185, rk185, Tryz.f185, kp185_0, f185_l0, ih]
theorem f185_ok {C : Go.Pm.Callee} {R : Recs} (hC : Go.Pm.Fix E isRec C) (hR : RecOk C R) (s : (List Int)) (v : Int)  :
    C.pureC 185 [Go.Pm.PV.lit (Go.Pm.rows s) Go.Pm.fl0, Go.Pm.PV.int Go.IntKind.i64 v] = Option.map (fun r => Go.Pm.PV.int Go.IntKind.i64 r) (f185 s v) := by
  rw [Go.Pm.fix_pure hC (fn := Tryz.f185) rfl _ rfl rfl rfl]
  simp only [Go.Pm.W0, Go.Pm.W1, Go.Pm.W2, Go.Pm.W3, Go.Pm.W4, Go.Pm.W5, Go.Pm.W6, Go.Pm.W7, Go.Pm.W8, Go.Pm.W9, Go.Pm.Wc, WE, WT, WS, Nat.reduceAdd, Nat.reduceSub, Nat.reduceMul, Nat.reduceBEq, Nat.reduceLeDiff, Nat.reduceEqDiff, Nat.reduceLT, ↓reduceIte, nt185, co185, re185, rk185, Tryz.f185, kp185_0, f185, f185_l0_ok hC hR]
/-! slices.Contains[[]int,int] -/
noncomputable def f159 (s : (List Int)) (v : Int) : Option Bool :=
  (Option.bind (Go.S.f185 s v) fun x0 =>
   (some (decide ((0 : Int) ≤ x0))))
theorem f159_ok {C : Go.Pm.Callee} {R : Recs} (hC : Go.Pm.Fix E isRec C) (hR : RecOk C R) (s : (List Int)) (v : Int)  :
    C.pureC 159 [Go.Pm.PV.lit (Go.Pm.rows s) Go.Pm.fl0, Go.Pm.PV.int Go.IntKind.i64 v] = Option.map (fun r => Go.Pm.PV.bool r) (f159 s v) := by
  rw [Go.Pm.fix_pure hC (fn := Tryz.f159) rfl _ rfl rfl rfl]
  simp only [Go.Pm.W0, Go.Pm.W1, Go.Pm.W2, Go.Pm.W3, Go.Pm.W4, Go.Pm.W5, Go.Pm.W6, Go.Pm.W7, Go.Pm.W8, Go.Pm.W9, Go.Pm.Wc, WE, WT, WS, Nat.reduceAdd, Nat.reduceSub, Nat.reduceMul, Nat.reduceBEq, Nat.reduceLeDiff, Nat.reduceEqDiff, Nat.reduceLT, ↓reduceIte, nt159, co159, re159, rk159, Tryz.f159, ir185, rk185, f185_ok hC hR, f159]
/-! scarfjoint/types.is -/
noncomputable def f127 (t : Types) (a : Int) (b : Int) : Option Bool :=
  (Option.bind (Go.S.f160 t a) fun x0 =>
   (Option.bind (Go.S.f159 x0 b) fun x1 =>
   (some x1)))
theorem f127_ok {C : Go.Pm.Callee} {R : Recs} (hC : Go.Pm.Fix E isRec C) (hR : RecOk C R) (t_Nodes : (List NodeType)) (t_Edges : (List EdgeType)) (a : Int) (b : Int)  :
    C.pureC 127 [Go.Pm.PV.agg [Go.Pm.PV.lit (Go.Pm.rows t_Nodes) Go.Pm.fl0, Go.Pm.PV.lit (Go.Pm.rows t_Edges) Go.Pm.fl0], Go.Pm.PV.int Go.IntKind.i64 a, Go.Pm.PV.int Go.IntKind.i64 b] = Option.map (fun r => Go.Pm.PV.bool r) (f127 (Types.mk t_Nodes t_Edges) a b) := by
  rw [Go.Pm.fix_pure hC (fn := Tryz.f127) rfl _ rfl rfl rfl]
  simp only [Go.Pm.W0, Go.Pm.W1, Go.Pm.W2, Go.Pm.W3, Go.Pm.W4, Go.Pm.W5, Go.Pm.W6, Go.Pm.W7, Go.Pm.W8, Go.Pm.W9, Go.Pm.Wc, WE, WT, WS, Nat.reduceAdd, Nat.reduceSub, Nat.reduceMul, Nat.reduceBEq, Nat.reduceLeDiff, Nat.reduceEqDiff, Nat.reduceLT, ↓reduceIte, nt127, co127, re127, rk127, Tryz.f127, ir159, rk159, ir160, rk160, f160_ok hC hR, f159_ok hC hR, f127]
/-! scarfjoint/types.Fits -/
noncomputable def f82 (R : Recs) (t : Types) (edge : Int) (from_ : Int) (to : Int) : Option Bool :=
  (Option.bind (Go.S.f126 R t [from_, to]) fun x0 =>
   (if (!(x0 == (0 : Int))) then
   (some Bool.false)
  else (if (decide (edge < (0 : Int))) then
   (some Bool.false)
  else (if (decide ((((List.length t.Edges) : Nat) : Int) ≤ edge)) then
   (some Bool.false)
  else (Option.bind (Go.Pm.at? t.Edges edge) fun x1 =>
   (Option.bind (Go.S.f127 t from_ x1.From) fun x2 =>
   (if x2 then
   (Option.bind (Go.Pm.at? t.Edges edge) fun x3 =>
   (Option.bind (Go.S.f127 t to x3.To) fun x4 =>
   (some x4)))
  else (some Bool.false))))))))
theorem f82_ok {C : Go.Pm.Callee} {R : Recs} (hC : Go.Pm.Fix E isRec C) (hR : RecOk C R) (t_Nodes : (List NodeType)) (t_Edges : (List EdgeType)) (edge : Int) (from_ : Int) (to : Int)  :
    C.pureC 82 [Go.Pm.PV.agg [Go.Pm.PV.lit (Go.Pm.rows t_Nodes) Go.Pm.fl0, Go.Pm.PV.lit (Go.Pm.rows t_Edges) Go.Pm.fl0], Go.Pm.PV.int Go.IntKind.i64 edge, Go.Pm.PV.int Go.IntKind.i64 from_, Go.Pm.PV.int Go.IntKind.i64 to] = Option.map (fun r => Go.Pm.PV.bool r) (f82 R (Types.mk t_Nodes t_Edges) edge from_ to) := by
  have c0 := fun (w0 : Int) (w1 : Int) (t_Nodes : (List NodeType)) (t_Edges : (List EdgeType)) => f126_ok (C := C) (R := R) hC hR t_Nodes t_Edges ((w0 :: (w1 :: ([] : List Int))))
  simp only [Go.Pm.rows_nil, Go.Pm.rows_cons, Go.Pm.cells_int, Go.Pm.cells_bool, Go.Pm.cells_str, Go.Pm.cells_list, WS, List.length_nil, List.length_cons, Nat.reduceAdd] at c0
  rw [Go.Pm.fix_pure hC (fn := Tryz.f82) rfl _ rfl rfl rfl]
  simp only [Go.Pm.W0, Go.Pm.W1, Go.Pm.W2, Go.Pm.W3, Go.Pm.W4, Go.Pm.W5, Go.Pm.W6, Go.Pm.W7, Go.Pm.W8, Go.Pm.W9, Go.Pm.Wc, WE, WT, WS, Nat.reduceAdd, Nat.reduceSub, Nat.reduceMul, Nat.reduceBEq, Nat.reduceLeDiff, Nat.reduceEqDiff, Nat.reduceLT, ↓reduceIte, nt82, co82, re82, rk82, Tryz.f82, pa82_3, ir126, rk126, ir127, rk127, c0, f127_ok hC hR, f82]
/-! scarfjoint/statistic.typed -/
noncomputable def f53_l2 (R : Recs) (t : Types) (g : Graph)  : Nat → Int → Option Int
  | 0, _ => none
  | m2 + 1, v41_4 =>
    (if (decide (v41_4 < (((List.length g.Edges) : Nat) : Int))) then
     (Option.bind (Go.Pm.at? g.Edges v41_4) fun x5 =>
     (if (decide ((((List.length t.Edges) : Nat) : Int) ≤ x5.Type_)) then
     (some (6 : Int))
    else (Option.bind (Go.Pm.at? g.Nodes x5.From) fun x6 =>
     (Option.bind (Go.Pm.at? g.Nodes x5.To) fun x7 =>
     (Option.bind (Go.S.f82 R t x5.Type_ x6 x7) fun x8 =>
     (if (!x8) then
     (some (13 : Int))
    else (f53_l2 R t g m2 (Go.Pm.w64 (v41_4 + (1 : Int))))))))))
    else (some (0 : Int)))
noncomputable def f53_l0 (R : Recs) (t : Types) (g : Graph)  : Nat → Int → Option Int
  | 0, _ => none
  | m0 + 1, v28_2 =>
    (if (decide (v28_2 < (((List.length g.Nodes) : Nat) : Int))) then
     (Option.bind (Go.Pm.at? g.Nodes v28_2) fun x3 =>
     (if (decide ((((List.length t.Nodes) : Nat) : Int) ≤ x3)) then
     (some (6 : Int))
    else (f53_l0 R t g m0 (Go.Pm.w64 (v28_2 + (1 : Int))))))
    else (f53_l2 R t g Go.Pm.loopMax (0 : Int)))
noncomputable def f53 (R : Recs) (t : Types) (g : Graph) : Option Int :=
  (Option.bind (Go.S.f78 R t) fun x0 =>
   (if (!((x0).2 == (0 : Int))) then
   (some (x0).2)
  else (Option.bind (Go.S.f81 g) fun x1 =>
   (if (!(x1 == (0 : Int))) then
   (some x1)
  else (f53_l0 R t g Go.Pm.loopMax (0 : Int))))))
theorem f53_l2_ok {C : Go.Pm.Callee} {R : Recs} (hC : Go.Pm.Fix E isRec C) (hR : RecOk C R) {t_Nodes : (List NodeType)} {t_Edges : (List EdgeType)} {g_Nodes : (List Int)} {g_Edges : (List Edge)}    :
    ∀ (m2 : Nat) (v41_4 : Int) , Go.Pm.lp (Go.Pm.machP E 53 C) [(Go.Pm.Fr.blk 2), (Go.Pm.Fr.seq 0 [1, 1, 1, 1, 1])] 2 [0, 0, 1, 0, 1, 1, 1, 1] m2 ⟨Go.Pm.PV.undef :: Go.Pm.PV.undef :: (Go.Pm.PV.ptr 0 0) :: (Go.Pm.PV.ptr 1 0) :: Go.Pm.PV.undef :: Go.Pm.PV.undef :: Go.Pm.PV.undef :: Go.Pm.PV.undef :: Go.Pm.PV.undef :: Go.Pm.PV.undef :: Go.Pm.PV.undef :: Go.Pm.PV.undef :: Go.Pm.PV.undef :: Go.Pm.PV.undef :: Go.Pm.PV.undef :: Go.Pm.PV.undef :: Go.Pm.PV.undef :: Go.Pm.PV.undef :: Go.Pm.PV.undef :: Go.Pm.PV.undef :: Go.Pm.PV.undef :: Go.Pm.PV.undef :: Go.Pm.PV.undef :: Go.Pm.PV.undef :: Go.Pm.PV.undef :: Go.Pm.PV.undef :: Go.Pm.PV.undef :: Go.Pm.PV.undef :: Go.Pm.PV.undef :: Go.Pm.PV.undef :: Go.Pm.PV.undef :: Go.Pm.PV.undef :: Go.Pm.PV.undef :: Go.Pm.PV.undef :: Go.Pm.PV.undef :: Go.Pm.PV.undef :: Go.Pm.PV.undef :: Go.Pm.PV.undef :: Go.Pm.PV.undef :: Go.Pm.PV.lit (Go.Pm.rows (g_Edges)) Go.Pm.fl0 :: Go.Pm.PV.int Go.IntKind.i64 ((((List.length g_Edges) : Nat) : Int)) :: Go.Pm.PV.int Go.IntKind.i64 v41_4 :: Go.Pm.PV.undef :: Go.Pm.PV.undef :: Go.Pm.PV.undef :: Go.Pm.PV.undef :: Go.Pm.PV.undef :: Go.Pm.PV.undef :: Go.Pm.PV.undef :: Go.Pm.PV.undef :: Go.Pm.PV.undef :: Go.Pm.PV.undef :: Go.Pm.PV.undef :: Go.Pm.PV.undef :: Go.Pm.PV.undef :: Go.Pm.PV.undef :: Go.Pm.PV.undef :: Go.Pm.PV.undef :: Go.Pm.PV.undef :: Go.Pm.PV.undef :: Go.Pm.PV.undef :: Go.Pm.PV.undef :: Go.Pm.PV.undef :: Go.Pm.PV.undef :: Go.Pm.PV.undef :: Go.Pm.PV.undef :: Go.Pm.PV.undef :: Go.Pm.PV.undef :: Go.Pm.PV.undef :: [], [(0, Go.Pm.PObj.box [Go.Pm.PV.lit (Go.Pm.rows (t_Nodes)) Go.Pm.fl0, Go.Pm.PV.lit (Go.Pm.rows (t_Edges)) Go.Pm.fl0]), (1, Go.Pm.PObj.box [Go.Pm.PV.lit (Go.Pm.rows (g_Nodes)) Go.Pm.fl0, Go.Pm.PV.lit (Go.Pm.rows (g_Edges)) Go.Pm.fl0])], 2⟩ = Option.map (fun r => Go.Pm.PV.int Go.IntKind.i64 r) (f53_l2 R (Types.mk t_Nodes t_Edges) (Graph.mk g_Nodes g_Edges) m2 v41_4) := by
  intro m2
  induction m2 with
  | zero => intros; rw [Go.Pm.lp_zero]; rfl
  | succ m2 ih =>
    intro v41_4
    rw [Go.Pm.lp_succ]
    simp only [Go.Pm.W0, Go.Pm.W1, Go.Pm.W2, Go.Pm.W3, Go.Pm.W4, Go.Pm.W5, Go.Pm.W6, Go.Pm.W7, Go.Pm.W8, Go.Pm.W9, Go.Pm.Wc, WE, WT, WS, Nat.reduceAdd, Nat.reduceSub, Nat.reduceMul, Nat.reduceBEq, Nat.reduceLeDiff, Nat.reduceEqDiff, Nat.reduceLT, ↓reduceIte, nt53, co53, re53, rk53, Tryz.f53, kp53_0, kp53_2, pa53_18, ir78, rk78, ir81, rk81, ir82, rk82, f78_ok hC hR, f81_ok hC hR, f82_ok hC hR, f53_l2, ih]
theorem f53_l0_ok {C : Go.Pm.Callee} {R : Recs} (hC : Go.Pm.Fix E isRec C) (hR : RecOk C R) {t_Nodes : (List NodeType)} {t_Edges : (List EdgeType)} {g_Nodes : (List Int)} {g_Edges : (List Edge)}    :
    ∀ (m0 : Nat) (v28_2 : Int) , Go.Pm.lp (Go.Pm.machP E 53 C) [(Go.Pm.Fr.blk 0), (Go.Pm.Fr.seq 0 [1, 1, 1, 1])] 0 [0, 0, 1, 0, 1, 1, 1] m0 ⟨Go.Pm.PV.undef :: Go.Pm.PV.undef :: (Go.Pm.PV.ptr 0 0) :: (Go.Pm.PV.ptr 1 0) :: Go.Pm.PV.undef :: Go.Pm.PV.undef :: Go.Pm.PV.undef :: Go.Pm.PV.undef :: Go.Pm.PV.undef :: Go.Pm.PV.undef :: Go.Pm.PV.undef :: Go.Pm.PV.undef :: Go.Pm.PV.undef :: Go.Pm.PV.undef :: Go.Pm.PV.undef :: Go.Pm.PV.undef :: Go.Pm.PV.undef :: Go.Pm.PV.undef :: Go.Pm.PV.undef :: Go.Pm.PV.undef :: Go.Pm.PV.undef :: Go.Pm.PV.undef :: Go.Pm.PV.undef :: Go.Pm.PV.undef :: Go.Pm.PV.undef :: Go.Pm.PV.undef :: Go.Pm.PV.lit (Go.Pm.rows (g_Nodes)) Go.Pm.fl0 :: Go.Pm.PV.int Go.IntKind.i64 ((((List.length g_Nodes) : Nat) : Int)) :: Go.Pm.PV.int Go.IntKind.i64 v28_2 :: Go.Pm.PV.undef :: Go.Pm.PV.undef :: Go.Pm.PV.undef :: Go.Pm.PV.undef :: Go.Pm.PV.undef :: Go.Pm.PV.undef :: Go.Pm.PV.undef :: Go.Pm.PV.undef :: Go.Pm.PV.undef :: Go.Pm.PV.undef :: Go.Pm.PV.undef :: Go.Pm.PV.undef :: Go.Pm.PV.undef :: Go.Pm.PV.undef :: Go.Pm.PV.undef :: Go.Pm.PV.undef :: Go.Pm.PV.undef :: Go.Pm.PV.undef :: Go.Pm.PV.undef :: Go.Pm.PV.undef :: Go.Pm.PV.undef :: Go.Pm.PV.undef :: Go.Pm.PV.undef :: Go.Pm.PV.undef :: Go.Pm.PV.undef :: Go.Pm.PV.undef :: Go.Pm.PV.undef :: Go.Pm.PV.undef :: Go.Pm.PV.undef :: Go.Pm.PV.undef :: Go.Pm.PV.undef :: Go.Pm.PV.undef :: Go.Pm.PV.undef :: Go.Pm.PV.undef :: Go.Pm.PV.undef :: Go.Pm.PV.undef :: Go.Pm.PV.undef :: Go.Pm.PV.undef :: Go.Pm.PV.undef :: Go.Pm.PV.undef :: [], [(0, Go.Pm.PObj.box [Go.Pm.PV.lit (Go.Pm.rows (t_Nodes)) Go.Pm.fl0, Go.Pm.PV.lit (Go.Pm.rows (t_Edges)) Go.Pm.fl0]), (1, Go.Pm.PObj.box [Go.Pm.PV.lit (Go.Pm.rows (g_Nodes)) Go.Pm.fl0, Go.Pm.PV.lit (Go.Pm.rows (g_Edges)) Go.Pm.fl0])], 2⟩ = Option.map (fun r => Go.Pm.PV.int Go.IntKind.i64 r) (f53_l0 R (Types.mk t_Nodes t_Edges) (Graph.mk g_Nodes g_Edges) m0 v28_2) := by
  intro m0
  induction m0 with
  | zero => intros; rw [Go.Pm.lp_zero]; rfl
  | succ m0 ih =>
    intro v28_2
    rw [Go.Pm.lp_succ]
    simp only [Go.Pm.W0, Go.Pm.W1, Go.Pm.W2, Go.Pm.W3, Go.Pm.W4, Go.Pm.W5, Go.Pm.W6, Go.Pm.W7, Go.Pm.W8, Go.Pm.W9, Go.Pm.Wc, WE, WT, WS, Nat.reduceAdd, Nat.reduceSub, Nat.reduceMul, Nat.reduceBEq, Nat.reduceLeDiff, Nat.reduceEqDiff, Nat.reduceLT, ↓reduceIte, nt53, co53, re53, rk53, Tryz.f53, kp53_0, kp53_2, pa53_18, ir78, rk78, ir81, rk81, ir82, rk82, f78_ok hC hR, f81_ok hC hR, f82_ok hC hR, f53_l0, ih, f53_l2_ok hC hR]
theorem f53_ok {C : Go.Pm.Callee} {R : Recs} (hC : Go.Pm.Fix E isRec C) (hR : RecOk C R) (t_Nodes : (List NodeType)) (t_Edges : (List EdgeType)) (g_Nodes : (List Int)) (g_Edges : (List Edge))  :
    C.pureC 53 [Go.Pm.PV.agg [Go.Pm.PV.lit (Go.Pm.rows t_Nodes) Go.Pm.fl0, Go.Pm.PV.lit (Go.Pm.rows t_Edges) Go.Pm.fl0], Go.Pm.PV.agg [Go.Pm.PV.lit (Go.Pm.rows g_Nodes) Go.Pm.fl0, Go.Pm.PV.lit (Go.Pm.rows g_Edges) Go.Pm.fl0]] = Option.map (fun r => Go.Pm.PV.int Go.IntKind.i64 r) (f53 R (Types.mk t_Nodes t_Edges) (Graph.mk g_Nodes g_Edges)) := by
  rw [Go.Pm.fix_pure hC (fn := Tryz.f53) rfl _ rfl rfl rfl]
  simp only [Go.Pm.W0, Go.Pm.W1, Go.Pm.W2, Go.Pm.W3, Go.Pm.W4, Go.Pm.W5, Go.Pm.W6, Go.Pm.W7, Go.Pm.W8, Go.Pm.W9, Go.Pm.Wc, WE, WT, WS, Nat.reduceAdd, Nat.reduceSub, Nat.reduceMul, Nat.reduceBEq, Nat.reduceLeDiff, Nat.reduceEqDiff, Nat.reduceLT, ↓reduceIte, nt53, co53, re53, rk53, Tryz.f53, kp53_0, kp53_2, pa53_18, ir78, rk78, ir81, rk81, ir82, rk82, f78_ok hC hR, f81_ok hC hR, f82_ok hC hR, f53, f53_l0_ok hC hR]
/-! slices.Clone[[]scarfjoint/api.Count,scarfjoint/api.Count] -/
noncomputable def f83 (s : (List Count)) : Option (List Count) := Go.Pm.cloneL s
theorem f83_ok {C : Go.Pm.Callee} {R : Recs} (hC : Go.Pm.Fix E isRec C) (hR : RecOk C R) (s : (List Count)) : C.pureC 83 [Go.Pm.PV.lit (Go.Pm.rows s) Go.Pm.fl0] = Option.map (fun r => Go.Pm.PV.lit (Go.Pm.rows r) ⟨true, false⟩) (f83 s) :=
  Go.Pm.clone_ok hC rfl rfl rfl s
/-! cmp.Or[int] -/
noncomputable def f128_l0 (vals : (List Int))  : Nat → Int → Int → Option Int
  | 0, _, _ => none
  | m0 + 1, zero_0, v8_1 =>
    (if (decide (v8_1 < (((List.length vals) : Nat) : Int))) then
     (Option.bind (Go.Pm.at? vals v8_1) fun x2 =>
     (if (!(x2 == zero_0)) then
     (some x2)
    else (f128_l0 vals m0 zero_0 (Go.Pm.w64 (v8_1 + (1 : Int))))))
    else (some zero_0))
noncomputable def f128 (vals : (List Int)) : Option Int :=
  (f128_l0 vals Go.Pm.loopMax (0 : Int) (0 : Int))
theorem f128_l0_ok {C : Go.Pm.Callee} {R : Recs} (hC : Go.Pm.Fix E isRec C) (hR : RecOk C R) {vals : (List Int)}    :
    ∀ (m0 : Nat) (zero_0 : Int) (v8_1 : Int) , Go.Pm.lp (Go.Pm.machP E 128 C) [(Go.Pm.Fr.blk 0), (Go.Pm.Fr.seq 0 [1, 1, 1])] 0 [0, 0, 1, 0, 1, 1] m0 ⟨[Go.Pm.PV.undef, Go.Pm.PV.undef, Go.Pm.PV.undef, Go.Pm.PV.int Go.IntKind.i64 zero_0, Go.Pm.PV.undef, Go.Pm.PV.undef, Go.Pm.PV.lit (Go.Pm.rows (vals)) Go.Pm.fl0, Go.Pm.PV.int Go.IntKind.i64 ((((List.length vals) : Nat) : Int)), Go.Pm.PV.int Go.IntKind.i64 v8_1, Go.Pm.PV.undef, Go.Pm.PV.undef, Go.Pm.PV.undef, Go.Pm.PV.undef, Go.Pm.PV.undef, Go.Pm.PV.undef, Go.Pm.PV.undef, Go.Pm.PV.undef, Go.Pm.PV.undef], [], 0⟩ = Option.map (fun r => Go.Pm.PV.int Go.IntKind.i64 r) (f128_l0 vals m0 zero_0 v8_1) := by
  intro m0
  induction m0 with
  | zero => intros; rw [Go.Pm.lp_zero]; rfl
  | succ m0 ih =>
    intro zero_0 v8_1
    rw [Go.Pm.lp_succ]
    simp only [Go.Pm.W0, Go.Pm.W1, Go.Pm.W2, Go.Pm.W3, Go.Pm.W4, Go.Pm.W5, Go.Pm.W6, Go.Pm.W7, Go.Pm.W8, Go.Pm.W9, Go.Pm.Wc, WE, WT, WS, Nat.reduceAdd, Nat.reduceSub, Nat.reduceMul, Nat.reduceBEq, Nat.reduceLeDiff, Nat.reduceEqDiff, Nat.reduceLT, ↓reduceIte, nt128, co128, re128, rk128, Tryz.f128, kp128_0, f128_l0, ih]
theorem f128_ok {C : Go.Pm.Callee} {R : Recs} (hC : Go.Pm.Fix E isRec C) (hR : RecOk C R) (vals : (List Int))  :
    C.pureC 128 [Go.Pm.PV.lit (Go.Pm.rows vals) Go.Pm.fl0] = Option.map (fun r => Go.Pm.PV.int Go.IntKind.i64 r) (f128 vals) := by
  rw [Go.Pm.fix_pure hC (fn := Tryz.f128) rfl _ rfl rfl rfl]
  simp only [Go.Pm.W0, Go.Pm.W1, Go.Pm.W2, Go.Pm.W3, Go.Pm.W4, Go.Pm.W5, Go.Pm.W6, Go.Pm.W7, Go.Pm.W8, Go.Pm.W9, Go.Pm.Wc, WE, WT, WS, Nat.reduceAdd, Nat.reduceSub, Nat.reduceMul, Nat.reduceBEq, Nat.reduceLeDiff, Nat.reduceEqDiff, Nat.reduceLT, ↓reduceIte, nt128, co128, re128, rk128, Tryz.f128, kp128_0, f128, f128_l0_ok hC hR]
/-! scarfjoint/statistic.compare -/
noncomputable def f85 (a : Count) (b : Count) : Option Int :=
  (Option.bind (Go.S.f128 [(Go.Pm.w64 (a.Type_ - b.Type_)), (Go.Pm.w64 (a.From - b.From)), (Go.Pm.w64 (a.To - b.To))]) fun x0 =>
   (some x0))
theorem f85_ok {C : Go.Pm.Callee} {R : Recs} (hC : Go.Pm.Fix E isRec C) (hR : RecOk C R) (a_Type_ : Int) (a_From : Int) (a_To : Int) (a_Number : Int) (b_Type_ : Int) (b_From : Int) (b_To : Int) (b_Number : Int)  :
    C.pureC 85 [Go.Pm.PV.agg [Go.Pm.PV.int Go.IntKind.i64 a_Type_, Go.Pm.PV.int Go.IntKind.i64 a_From, Go.Pm.PV.int Go.IntKind.i64 a_To, Go.Pm.PV.int Go.IntKind.i64 a_Number], Go.Pm.PV.agg [Go.Pm.PV.int Go.IntKind.i64 b_Type_, Go.Pm.PV.int Go.IntKind.i64 b_From, Go.Pm.PV.int Go.IntKind.i64 b_To, Go.Pm.PV.int Go.IntKind.i64 b_Number]] = Option.map (fun r => Go.Pm.PV.int Go.IntKind.i64 r) (f85 (Count.mk a_Type_ a_From a_To a_Number) (Count.mk b_Type_ b_From b_To b_Number)) := by
  have c0 := fun (w0 : Int) (w1 : Int) (w2 : Int) (w3 : Int) (w4 : Int) (w5 : Int) => f128_ok (C := C) (R := R) hC hR (((Go.Pm.w64 (w0 - w3)) :: ((Go.Pm.w64 (w1 - w4)) :: ((Go.Pm.w64 (w2 - w5)) :: ([] : List Int)))))
  simp only [Go.Pm.rows_nil, Go.Pm.rows_cons, Go.Pm.cells_int, Go.Pm.cells_bool, Go.Pm.cells_str, Go.Pm.cells_list, WS, List.length_nil, List.length_cons, Nat.reduceAdd] at c0
  rw [Go.Pm.fix_pure hC (fn := Tryz.f85) rfl _ rfl rfl rfl]
  simp only [Go.Pm.W0, Go.Pm.W1, Go.Pm.W2, Go.Pm.W3, Go.Pm.W4, Go.Pm.W5, Go.Pm.W6, Go.Pm.W7, Go.Pm.W8, Go.Pm.W9, Go.Pm.Wc, WE, WT, WS, Nat.reduceAdd, Nat.reduceSub, Nat.reduceMul, Nat.reduceBEq, Nat.reduceLeDiff, Nat.reduceEqDiff, Nat.reduceLT, ↓reduceIte, nt85, co85, re85, rk85, Tryz.f85, ir128, rk128, c0, f85]
/-! slices.BinarySearchFunc[[]scarfjoint/api.Count,scarfjoint/api.Count,scarfjoint/api.Count] -/
noncomputable def f84_2_85_l0 (x : (List Count)) (target : Count)  : Nat → Int → Int → Option (Int × Bool)
  | 0, _, _ => none
  | m0 + 1, i_0, j_1 =>
    (if (decide (i_0 < j_1)) then
     (if (decide ((0 : Int) ≤ (1 : Int))) then
     (Option.bind (Go.Pm.at? x (Go.Pm.w64 (Int.fdiv (Go.IntKind.wrap Go.IntKind.u64 (Go.Pm.w64 (i_0 + j_1))) ((2 : Int) ^ (Min.min (Int.toNat (1 : Int)) (Go.IntKind.bits Go.IntKind.u64)))))) fun x2 =>
     (Option.bind (Go.S.f85 x2 target) fun x3 =>
     (if (decide (x3 < (0 : Int))) then
     (f84_2_85_l0 x target m0 (Go.Pm.w64 ((Go.Pm.w64 (Int.fdiv (Go.IntKind.wrap Go.IntKind.u64 (Go.Pm.w64 (i_0 + j_1))) ((2 : Int) ^ (Min.min (Int.toNat (1 : Int)) (Go.IntKind.bits Go.IntKind.u64))))) + (1 : Int))) j_1)
    else (f84_2_85_l0 x target m0 i_0 (Go.Pm.w64 (Int.fdiv (Go.IntKind.wrap Go.IntKind.u64 (Go.Pm.w64 (i_0 + j_1))) ((2 : Int) ^ (Min.min (Int.toNat (1 : Int)) (Go.IntKind.bits Go.IntKind.u64)))))))))
    else none)
    else (if (decide (i_0 < (((List.length x) : Nat) : Int))) then
     (Option.bind (Go.Pm.at? x i_0) fun x4 =>
     (Option.bind (Go.S.f85 x4 target) fun x5 =>
     (some (i_0, (x5 == (0 : Int))))))
    else (some (i_0, Bool.false))))
noncomputable def f84_2_85 (x : (List Count)) (target : Count) : Option (Int × Bool) :=
  (f84_2_85_l0 x target Go.Pm.loopMax (0 : Int) (((List.length x) : Nat) : Int))
theorem f84_2_85_l0_ok {C : Go.Pm.Callee} {R : Recs} (hC : Go.Pm.Fix E isRec C) (hR : RecOk C R) {x : (List Count)} {target_Type_ : Int} {target_From : Int} {target_To : Int} {target_Number : Int}    :
    ∀ (m0 : Nat) (i_0 : Int) (j_1 : Int) , Go.Pm.lp (Go.Pm.machP E 84 C) [(Go.Pm.Fr.blk 0), (Go.Pm.Fr.seq 0 [1, 1, 1, 1])] 0 [0, 0, 0, 1, 1, 1] m0 ⟨[Go.Pm.PV.lit (Go.Pm.rows (x)) Go.Pm.fl0, Go.Pm.PV.undef, Go.Pm.PV.fn 85 [], Go.Pm.PV.undef, (Go.Pm.PV.ptr 0 0), Go.Pm.PV.undef, Go.Pm.PV.undef, Go.Pm.PV.undef, Go.Pm.PV.int Go.IntKind.i64 ((((List.length x) : Nat) : Int)), Go.Pm.PV.int Go.IntKind.i64 i_0, Go.Pm.PV.int Go.IntKind.i64 j_1, Go.Pm.PV.undef, Go.Pm.PV.undef, Go.Pm.PV.undef, Go.Pm.PV.undef, Go.Pm.PV.undef, Go.Pm.PV.undef, Go.Pm.PV.undef, Go.Pm.PV.undef, Go.Pm.PV.undef, Go.Pm.PV.undef, Go.Pm.PV.undef, Go.Pm.PV.undef, Go.Pm.PV.undef, Go.Pm.PV.undef, Go.Pm.PV.undef, Go.Pm.PV.undef, Go.Pm.PV.undef, Go.Pm.PV.undef, Go.Pm.PV.undef, Go.Pm.PV.undef, Go.Pm.PV.undef, Go.Pm.PV.undef, Go.Pm.PV.undef, Go.Pm.PV.undef, Go.Pm.PV.undef, Go.Pm.PV.undef, Go.Pm.PV.undef, Go.Pm.PV.undef, Go.Pm.PV.undef, Go.Pm.PV.undef, Go.Pm.PV.undef, Go.Pm.PV.undef, Go.Pm.PV.undef, Go.Pm.PV.undef, Go.Pm.PV.undef, Go.Pm.PV.undef, Go.Pm.PV.undef, Go.Pm.PV.undef], [(0, Go.Pm.PObj.box [Go.Pm.PV.int Go.IntKind.i64 (target_Type_), Go.Pm.PV.int Go.IntKind.i64 (target_From), Go.Pm.PV.int Go.IntKind.i64 (target_To), Go.Pm.PV.int Go.IntKind.i64 (target_Number)])], 1⟩ = Option.map (fun r => Go.Pm.PV.tup [Go.Pm.PV.int Go.IntKind.i64 r.1, Go.Pm.PV.bool r.2]) (f84_2_85_l0 x (Count.mk target_Type_ target_From target_To target_Number) m0 i_0 j_1) := by
  intro m0
  induction m0 with
  | zero => intros; rw [Go.Pm.lp_zero]; rfl
  | succ m0 ih =>
    intro i_0 j_1
    rw [Go.Pm.lp_succ]
    simp only [Go.Pm.W0, Go.Pm.W1, Go.Pm.W2, Go.Pm.W3, Go.Pm.W4, Go.Pm.W5, Go.Pm.W6, Go.Pm.W7, Go.Pm.W8, Go.Pm.W9, Go.Pm.Wc, WE, WT, WS, Nat.reduceAdd, Nat.reduceSub, Nat.reduceMul, Nat.reduceBEq, Nat.reduceLeDiff, Nat.reduceEqDiff, Nat.reduceLT, ↓reduceIte, nt84, co84, re84, rk84, Tryz.f84, kp84_0, pa84_5, pa84_8, ir85, rk85, f85_ok hC hR, f84_2_85_l0, ih]
theorem f84_2_85_ok {C : Go.Pm.Callee} {R : Recs} (hC : Go.Pm.Fix E isRec C) (hR : RecOk C R) (x : (List Count)) (target_Type_ : Int) (target_From : Int) (target_To : Int) (target_Number : Int)  :
    C.pureC 84 [Go.Pm.PV.lit (Go.Pm.rows x) Go.Pm.fl0, Go.Pm.PV.agg [Go.Pm.PV.int Go.IntKind.i64 target_Type_, Go.Pm.PV.int Go.IntKind.i64 target_From, Go.Pm.PV.int Go.IntKind.i64 target_To, Go.Pm.PV.int Go.IntKind.i64 target_Number], Go.Pm.PV.fn 85 []] = Option.map (fun r => Go.Pm.PV.tup [Go.Pm.PV.int Go.IntKind.i64 r.1, Go.Pm.PV.bool r.2]) (f84_2_85 x (Count.mk target_Type_ target_From target_To target_Number)) := by
  rw [Go.Pm.fix_pure hC (fn := Tryz.f84) rfl _ rfl rfl rfl]
  simp only [Go.Pm.W0, Go.Pm.W1, Go.Pm.W2, Go.Pm.W3, Go.Pm.W4, Go.Pm.W5, Go.Pm.W6, Go.Pm.W7, Go.Pm.W8, Go.Pm.W9, Go.Pm.Wc, WE, WT, WS, Nat.reduceAdd, Nat.reduceSub, Nat.reduceMul, Nat.reduceBEq, Nat.reduceLeDiff, Nat.reduceEqDiff, Nat.reduceLT, ↓reduceIte, nt84, co84, re84, rk84, Tryz.f84, kp84_0, pa84_5, pa84_8, ir85, rk85, f85_ok hC hR, f84_2_85, f84_2_85_l0_ok hC hR]
/-! slices.Insert[[]scarfjoint/api.Count,scarfjoint/api.Count] -/
noncomputable def f86_r0 (s_p0 : (List Count)) (v_p1 : (List Count)) (i_p2 : Int) : Option ((List Count) × (List Count)) := (Go.Pm.insertL s_p0 v_p1 i_p2).map fun r => (v_p1, r)
theorem f86_r0_ok {C : Go.Pm.Callee} {R : Recs} (hC : Go.Pm.Fix E isRec C) (hR : RecOk C R) (s_p0 : (List Count)) (v_p1 : (List Count)) (i_p2 : Int) (n0 n1 : Nat) (h0 : n0 = List.length s_p0) (h1 : n1 = List.length v_p1) : Go.Pm.refS C 86 2 ⟨[Go.Pm.PV.own 0 4 0 n0, Go.Pm.PV.int Go.IntKind.i64 i_p2, Go.Pm.PV.own 1 4 0 n1], [(0, Go.Pm.PObj.arr 4 (Go.Pm.rows s_p0) Bool.false Bool.false), (1, Go.Pm.PObj.arr 4 (Go.Pm.rows v_p1) Bool.false Bool.false)], 2⟩ = Option.map (fun r => (Go.Pm.PV.own 2 4 0 (List.length r.2), [(1, Go.Pm.PObj.arr 4 (Go.Pm.rows r.1) Bool.false Bool.false), (2, Go.Pm.PObj.arr 4 (Go.Pm.rows r.2) Bool.false Bool.false)], 3)) (f86_r0 s_p0 v_p1 i_p2) :=
  Go.Pm.insert_ok hC rfl rfl s_p0 v_p1 i_p2 n0 n1 h0 h1
/-! slices.Delete[[]scarfjoint/api.Count,scarfjoint/api.Count] -/
noncomputable def f87 (s : (List Count)) (i : Int) (j : Int) : Option (List Count) := none
theorem f87_ok {C : Go.Pm.Callee} {R : Recs} (hC : Go.Pm.Fix E isRec C) (hR : RecOk C R) (s : (List Count)) (i : Int) (j : Int) : C.pureC 87 [Go.Pm.PV.lit (Go.Pm.rows s) Go.Pm.fl0, Go.Pm.PV.int Go.IntKind.i64 i, Go.Pm.PV.int Go.IntKind.i64 j] = Option.map (fun r => Go.Pm.PV.lit (Go.Pm.rows r) ⟨true, false⟩) (f87 s i j) := by
  rw [hC.p 87 rfl]; rfl
/-! scarfjoint/statistic.counted -/
noncomputable def f54 (l : (List Count)) (x : Count) : Option (List Count) :=
  (Option.bind (Go.S.f83 l) fun x0 =>
   (Option.bind (Go.S.f84_2_85 x0 x) fun x1 =>
   (if (!(x1).2) then
   (Option.bind (Go.S.f86_r0 x0 [x] (x1).1) fun x2 =>
   (some (x2).2))
  else (if ((decide ((0 : Int) ≤ (x1).1)) && (decide ((x1).1 < (((List.length x0) : Nat) : Int)))) then
   (Option.bind (x0[(Int.toNat (x1).1)]?) fun x3 =>
   (if ((Go.Pm.w64 (x3.Number + x.Number)) == (0 : Int)) then
   (Option.bind (Go.S.f87 x0 (x1).1 (Go.Pm.w64 ((x1).1 + (1 : Int)))) fun x4 =>
   (some x4))
  else (if ((decide ((0 : Int) ≤ (x1).1)) && (decide ((x1).1 < (((List.length x0) : Nat) : Int)))) then
   (Option.bind (x0[(Int.toNat (x1).1)]?) fun x5 =>
   (if ((decide ((0 : Int) ≤ (x1).1)) && (decide ((x1).1 < (((List.length x0) : Nat) : Int)))) then
   (Option.bind (x0[(Int.toNat (x1).1)]?) fun x6 =>
   (some (List.set x0 (Int.toNat (x1).1) (Go.S.Count.mk x6.Type_ x6.From x6.To (Go.Pm.w64 (x5.Number + x.Number))))))
  else none))
  else none)))
  else none))))
theorem f54_ok {C : Go.Pm.Callee} {R : Recs} (hC : Go.Pm.Fix E isRec C) (hR : RecOk C R) (l : (List Count)) (x_Type_ : Int) (x_From : Int) (x_To : Int) (x_Number : Int)  :
    C.pureC 54 [Go.Pm.PV.lit (Go.Pm.rows l) Go.Pm.fl0, Go.Pm.PV.agg [Go.Pm.PV.int Go.IntKind.i64 x_Type_, Go.Pm.PV.int Go.IntKind.i64 x_From, Go.Pm.PV.int Go.IntKind.i64 x_To, Go.Pm.PV.int Go.IntKind.i64 x_Number]] = Option.map (fun r => Go.Pm.PV.lit (Go.Pm.rows r) ⟨true, false⟩) (f54 l (Count.mk x_Type_ x_From x_To x_Number)) := by
  have c0 := fun (w0 : Int) (w1 : Int) (w2 : Int) (w3 : Int) (s_p0 : (List Count)) (i_p2 : Int) => f86_r0_ok (C := C) (R := R) hC hR s_p0 (((Count.mk w0 w1 w2 w3) :: ([] : List Count))) i_p2 _ _ rfl rfl
  simp only [Go.Pm.rows_nil, Go.Pm.rows_cons, Go.Pm.cells_int, Go.Pm.cells_bool, Go.Pm.cells_str, Go.Pm.cells_list, WS, List.length_nil, List.length_cons, Nat.reduceAdd] at c0
  rw [Go.Pm.fix_pure hC (fn := Tryz.f54) rfl _ rfl rfl rfl]
  simp only [Go.Pm.W0, Go.Pm.W1, Go.Pm.W2, Go.Pm.W3, Go.Pm.W4, Go.Pm.W5, Go.Pm.W6, Go.Pm.W7, Go.Pm.W8, Go.Pm.W9, Go.Pm.Wc, WE, WT, WS, Nat.reduceAdd, Nat.reduceSub, Nat.reduceMul, Nat.reduceBEq, Nat.reduceLeDiff, Nat.reduceEqDiff, Nat.reduceLT, ↓reduceIte, nt54, co54, re54, rk54, Tryz.f54, pa54_5, pa54_7, ir83, rk83, ir84, rk84, ir85, rk85, ir86, rk86, ir87, rk87, f83_ok hC hR, f84_2_85_ok hC hR, c0, f87_ok hC hR, f54]
/-! scarfjoint/statistic.Of -/
noncomputable def f36_l2 (g : Graph) (s_1 : (List Count))  : Nat → (List Count) → Int → Option (Statistic × Int)
  | 0, _, _ => none
  | m2 + 1, s_5, v36_6 =>
    (if (decide (v36_6 < (((List.length g.Edges) : Nat) : Int))) then
     (Option.bind (Go.Pm.at? g.Edges v36_6) fun x7 =>
     (Option.bind (Go.Pm.at? g.Nodes x7.From) fun x8 =>
     (Option.bind (Go.Pm.at? g.Nodes x7.To) fun x9 =>
     (Option.bind (Go.S.f54 s_5 (Go.S.Count.mk x7.Type_ x8 x9 (1 : Int))) fun x10 =>
     (f36_l2 g s_1 m2 x10 (Go.Pm.w64 (v36_6 + (1 : Int))))))))
    else (some ((Statistic.mk s_1 s_5), (0 : Int))))
noncomputable def f36_l0 (g : Graph)  : Nat → (List Count) → Int → Option (Statistic × Int)
  | 0, _, _ => none
  | m0 + 1, s_1, v22_2 =>
    (if (decide (v22_2 < (((List.length g.Nodes) : Nat) : Int))) then
     (Option.bind (Go.Pm.at? g.Nodes v22_2) fun x3 =>
     (Option.bind (Go.S.f54 s_1 (Go.S.Count.mk x3 (0 : Int) (0 : Int) (1 : Int))) fun x4 =>
     (f36_l0 g m0 x4 (Go.Pm.w64 (v22_2 + (1 : Int))))))
    else (f36_l2 g s_1 Go.Pm.loopMax ([] : List Count) (0 : Int)))
noncomputable def f36 (R : Recs) (t : Types) (g : Graph) : Option (Statistic × Int) :=
  (Option.bind (Go.S.f53 R t g) fun x0 =>
   (if (!(x0 == (0 : Int))) then
   (some ((Statistic.mk ([] : List Count) ([] : List Count)), x0))
  else (f36_l0 g Go.Pm.loopMax ([] : List Count) (0 : Int))))
theorem f36_l2_ok {C : Go.Pm.Callee} {R : Recs} (hC : Go.Pm.Fix E isRec C) (hR : RecOk C R) {g_Nodes : (List Int)} {g_Edges : (List Edge)} {s_1 : (List Count)}    :
    ∀ (m2 : Nat) (s_5 : (List Count)) (v36_6 : Int) (ns_5 : Nat), ns_5 = List.length s_5 → Go.Pm.lp (Go.Pm.machP E 36 C) [(Go.Pm.Fr.blk 2), (Go.Pm.Fr.seq 0 [1, 1, 1, 1, 1])] 2 [0, 0, 1, 0, 1, 1, 1, 1] m2 ⟨Go.Pm.PV.undef :: Go.Pm.PV.undef :: Go.Pm.PV.undef :: (Go.Pm.PV.ptr 0 0) :: (Go.Pm.PV.ptr 1 0) :: Go.Pm.PV.undef :: Go.Pm.PV.undef :: (Go.Pm.PV.ptr 2 0) :: Go.Pm.PV.undef :: Go.Pm.PV.undef :: Go.Pm.PV.undef :: Go.Pm.PV.undef :: Go.Pm.PV.undef :: Go.Pm.PV.undef :: Go.Pm.PV.undef :: Go.Pm.PV.undef :: Go.Pm.PV.undef :: Go.Pm.PV.undef :: Go.Pm.PV.undef :: Go.Pm.PV.undef :: Go.Pm.PV.undef :: Go.Pm.PV.undef :: Go.Pm.PV.undef :: Go.Pm.PV.undef :: Go.Pm.PV.undef :: Go.Pm.PV.undef :: Go.Pm.PV.undef :: Go.Pm.PV.undef :: Go.Pm.PV.undef :: Go.Pm.PV.undef :: Go.Pm.PV.undef :: Go.Pm.PV.undef :: Go.Pm.PV.undef :: Go.Pm.PV.undef :: Go.Pm.PV.lit (Go.Pm.rows (g_Edges)) Go.Pm.fl0 :: Go.Pm.PV.int Go.IntKind.i64 ((((List.length g_Edges) : Nat) : Int)) :: Go.Pm.PV.int Go.IntKind.i64 v36_6 :: Go.Pm.PV.undef :: Go.Pm.PV.undef :: Go.Pm.PV.undef :: Go.Pm.PV.undef :: Go.Pm.PV.undef :: Go.Pm.PV.undef :: Go.Pm.PV.undef :: Go.Pm.PV.undef :: Go.Pm.PV.undef :: Go.Pm.PV.undef :: Go.Pm.PV.undef :: Go.Pm.PV.undef :: Go.Pm.PV.undef :: Go.Pm.PV.undef :: Go.Pm.PV.undef :: Go.Pm.PV.undef :: Go.Pm.PV.undef :: Go.Pm.PV.undef :: Go.Pm.PV.undef :: Go.Pm.PV.undef :: Go.Pm.PV.undef :: Go.Pm.PV.undef :: Go.Pm.PV.undef :: Go.Pm.PV.undef :: [], [(0, Go.Pm.PObj.box [Go.Pm.PV.lit (Go.Pm.rows (g_Nodes)) Go.Pm.fl0, Go.Pm.PV.lit (Go.Pm.rows (g_Edges)) Go.Pm.fl0]), (1, Go.Pm.PObj.box [Go.Pm.PV.nils, Go.Pm.PV.nils]), (2, Go.Pm.PObj.box [Go.Pm.PV.own 3 4 0 (List.length s_1), Go.Pm.PV.own 4 4 0 ns_5]), (3, Go.Pm.PObj.arr 4 (Go.Pm.rows (s_1)) Bool.false Bool.false), (4, Go.Pm.PObj.arr 4 (Go.Pm.rows s_5) Bool.false Bool.false)], 5⟩ = Option.map (fun r => Go.Pm.PV.tup [Go.Pm.PV.agg [Go.Pm.PV.lit (Go.Pm.rows r.1.Nodes) ⟨true, false⟩, Go.Pm.PV.lit (Go.Pm.rows r.1.Edges) ⟨true, false⟩], Go.Pm.PV.int Go.IntKind.i64 r.2]) (f36_l2 (Graph.mk g_Nodes g_Edges) s_1 m2 s_5 v36_6) := by
  intro m2
  induction m2 with
  | zero => intros; rw [Go.Pm.lp_zero]; rfl
  | succ m2 ih =>
    intro s_5 v36_6 ns_5 hs_5
    subst hs_5
    rw [Go.Pm.lp_succ]
    simp only [Go.Pm.W0, Go.Pm.W1, Go.Pm.W2, Go.Pm.W3, Go.Pm.W4, Go.Pm.W5, Go.Pm.W6, Go.Pm.W7, Go.Pm.W8, Go.Pm.W9, Go.Pm.Wc, WE, WT, WS, Nat.reduceAdd, Nat.reduceSub, Nat.reduceMul, Nat.reduceBEq, Nat.reduceLeDiff, Nat.reduceEqDiff, Nat.reduceLT, ↓reduceIte, nt36, co36, re36, rk36, Tryz.f36, kp36_0, kp36_2, pa36_13, ir53, rk53, ir54, rk54, f53_ok hC hR, f54_ok hC hR, f36_l2, ih]
theorem f36_l0_ok {C : Go.Pm.Callee} {R : Recs} (hC : Go.Pm.Fix E isRec C) (hR : RecOk C R) {g_Nodes : (List Int)} {g_Edges : (List Edge)}    :
    ∀ (m0 : Nat) (s_1 : (List Count)) (v22_2 : Int) (ns_1 : Nat), ns_1 = List.length s_1 → Go.Pm.lp (Go.Pm.machP E 36 C) [(Go.Pm.Fr.blk 0), (Go.Pm.Fr.seq 0 [1, 1, 1, 1])] 0 [0, 0, 1, 0, 1, 1, 1] m0 ⟨Go.Pm.PV.undef :: Go.Pm.PV.undef :: Go.Pm.PV.undef :: (Go.Pm.PV.ptr 0 0) :: (Go.Pm.PV.ptr 1 0) :: Go.Pm.PV.undef :: Go.Pm.PV.undef :: (Go.Pm.PV.ptr 2 0) :: Go.Pm.PV.undef :: Go.Pm.PV.undef :: Go.Pm.PV.undef :: Go.Pm.PV.undef :: Go.Pm.PV.undef :: Go.Pm.PV.undef :: Go.Pm.PV.undef :: Go.Pm.PV.undef :: Go.Pm.PV.undef :: Go.Pm.PV.undef :: Go.Pm.PV.undef :: Go.Pm.PV.undef :: Go.Pm.PV.lit (Go.Pm.rows (g_Nodes)) Go.Pm.fl0 :: Go.Pm.PV.int Go.IntKind.i64 ((((List.length g_Nodes) : Nat) : Int)) :: Go.Pm.PV.int Go.IntKind.i64 v22_2 :: Go.Pm.PV.undef :: Go.Pm.PV.undef :: Go.Pm.PV.undef :: Go.Pm.PV.undef :: Go.Pm.PV.undef :: Go.Pm.PV.undef :: Go.Pm.PV.undef :: Go.Pm.PV.undef :: Go.Pm.PV.undef :: Go.Pm.PV.undef :: Go.Pm.PV.undef :: Go.Pm.PV.undef :: Go.Pm.PV.undef :: Go.Pm.PV.undef :: Go.Pm.PV.undef :: Go.Pm.PV.undef :: Go.Pm.PV.undef :: Go.Pm.PV.undef :: Go.Pm.PV.undef :: Go.Pm.PV.undef :: Go.Pm.PV.undef :: Go.Pm.PV.undef :: Go.Pm.PV.undef :: Go.Pm.PV.undef :: Go.Pm.PV.undef :: Go.Pm.PV.undef :: Go.Pm.PV.undef :: Go.Pm.PV.undef :: Go.Pm.PV.undef :: Go.Pm.PV.undef :: Go.Pm.PV.undef :: Go.Pm.PV.undef :: Go.Pm.PV.undef :: Go.Pm.PV.undef :: Go.Pm.PV.undef :: Go.Pm.PV.undef :: Go.Pm.PV.undef :: Go.Pm.PV.undef :: [], [(0, Go.Pm.PObj.box [Go.Pm.PV.lit (Go.Pm.rows (g_Nodes)) Go.Pm.fl0, Go.Pm.PV.lit (Go.Pm.rows (g_Edges)) Go.Pm.fl0]), (1, Go.Pm.PObj.box [Go.Pm.PV.nils, Go.Pm.PV.nils]), (2, Go.Pm.PObj.box [Go.Pm.PV.own 3 4 0 ns_1, Go.Pm.PV.nils]), (3, Go.Pm.PObj.arr 4 (Go.Pm.rows s_1) Bool.false Bool.false)], 4⟩ = Option.map (fun r => Go.Pm.PV.tup [Go.Pm.PV.agg [Go.Pm.PV.lit (Go.Pm.rows r.1.Nodes) ⟨true, false⟩, Go.Pm.PV.lit (Go.Pm.rows r.1.Edges) ⟨true, false⟩], Go.Pm.PV.int Go.IntKind.i64 r.2]) (f36_l0 (Graph.mk g_Nodes g_Edges) m0 s_1 v22_2) := by
  intro m0
  induction m0 with
  | zero => intros; rw [Go.Pm.lp_zero]; rfl
  | succ m0 ih =>
    intro s_1 v22_2 ns_1 hs_1
    subst hs_1
    have e_2_0 := fun (g_Nodes : (List Int)) (g_Edges : (List Edge)) (s_1 : (List Count)) (e4 : Int) => f36_l2_ok (C := C) (R := R) (g_Nodes := g_Nodes) (g_Edges := g_Edges) (s_1 := s_1) hC hR Go.Pm.loopMax (([] : List Count)) e4 _ rfl
    simp only [Go.Pm.rows_nil, Go.Pm.rows_cons, Go.Pm.cells_int, Go.Pm.cells_bool, Go.Pm.cells_str, Go.Pm.cells_list, WS, List.length_nil, List.length_cons, Nat.reduceAdd] at e_2_0
    rw [Go.Pm.lp_succ]
    simp only [Go.Pm.W0, Go.Pm.W1, Go.Pm.W2, Go.Pm.W3, Go.Pm.W4, Go.Pm.W5, Go.Pm.W6, Go.Pm.W7, Go.Pm.W8, Go.Pm.W9, Go.Pm.Wc, WE, WT, WS, Nat.reduceAdd, Nat.reduceSub, Nat.reduceMul, Nat.reduceBEq, Nat.reduceLeDiff, Nat.reduceEqDiff, Nat.reduceLT, ↓reduceIte, nt36, co36, re36, rk36, Tryz.f36, kp36_0, kp36_2, pa36_13, ir53, rk53, ir54, rk54, f53_ok hC hR, f54_ok hC hR, f36_l0, ih, e_2_0]
theorem f36_ok {C : Go.Pm.Callee} {R : Recs} (hC : Go.Pm.Fix E isRec C) (hR : RecOk C R) (t_Nodes : (List NodeType)) (t_Edges : (List EdgeType)) (g_Nodes : (List Int)) (g_Edges : (List Edge))  :
    C.pureC 36 [Go.Pm.PV.agg [Go.Pm.PV.lit (Go.Pm.rows t_Nodes) Go.Pm.fl0, Go.Pm.PV.lit (Go.Pm.rows t_Edges) Go.Pm.fl0], Go.Pm.PV.agg [Go.Pm.PV.lit (Go.Pm.rows g_Nodes) Go.Pm.fl0, Go.Pm.PV.lit (Go.Pm.rows g_Edges) Go.Pm.fl0]] = Option.map (fun r => Go.Pm.PV.tup [Go.Pm.PV.agg [Go.Pm.PV.lit (Go.Pm.rows r.1.Nodes) ⟨true, false⟩, Go.Pm.PV.lit (Go.Pm.rows r.1.Edges) ⟨true, false⟩], Go.Pm.PV.int Go.IntKind.i64 r.2]) (f36 R (Types.mk t_Nodes t_Edges) (Graph.mk g_Nodes g_Edges)) := by
  have e_0_0 := fun (g_Nodes : (List Int)) (g_Edges : (List Edge)) (e3 : Int) => f36_l0_ok (C := C) (R := R) (g_Nodes := g_Nodes) (g_Edges := g_Edges) hC hR Go.Pm.loopMax (([] : List Count)) e3 _ rfl
  simp only [Go.Pm.rows_nil, Go.Pm.rows_cons, Go.Pm.cells_int, Go.Pm.cells_bool, Go.Pm.cells_str, Go.Pm.cells_list, WS, List.length_nil, List.length_cons, Nat.reduceAdd] at e_0_0
  rw [Go.Pm.fix_pure hC (fn := Tryz.f36) rfl _ rfl rfl rfl]
  simp only [Go.Pm.W0, Go.Pm.W1, Go.Pm.W2, Go.Pm.W3, Go.Pm.W4, Go.Pm.W5, Go.Pm.W6, Go.Pm.W7, Go.Pm.W8, Go.Pm.W9, Go.Pm.Wc, WE, WT, WS, Nat.reduceAdd, Nat.reduceSub, Nat.reduceMul, Nat.reduceBEq, Nat.reduceLeDiff, Nat.reduceEqDiff, Nat.reduceLT, ↓reduceIte, nt36, co36, re36, rk36, Tryz.f36, kp36_0, kp36_2, pa36_13, ir53, rk53, ir54, rk54, f53_ok hC hR, f54_ok hC hR, f36, e_0_0]
/-! scarfjoint/weight.typed -/
noncomputable def f55_l2 (R : Recs) (t : Types) (g : Graph)  : Nat → Int → Option Int
  | 0, _ => none
  | m2 + 1, v41_4 =>
    (if (decide (v41_4 < (((List.length g.Edges) : Nat) : Int))) then
     (Option.bind (Go.Pm.at? g.Edges v41_4) fun x5 =>
     (if (decide ((((List.length t.Edges) : Nat) : Int) ≤ x5.Type_)) then
     (some (6 : Int))
    else (Option.bind (Go.Pm.at? g.Nodes x5.From) fun x6 =>
     (Option.bind (Go.Pm.at? g.Nodes x5.To) fun x7 =>
     (Option.bind (Go.S.f82 R t x5.Type_ x6 x7) fun x8 =>
     (if (!x8) then
     (some (13 : Int))
    else (f55_l2 R t g m2 (Go.Pm.w64 (v41_4 + (1 : Int))))))))))
    else (some (0 : Int)))
noncomputable def f55_l0 (R : Recs) (t : Types) (g : Graph)  : Nat → Int → Option Int
  | 0, _ => none
  | m0 + 1, v28_2 =>
    (if (decide (v28_2 < (((List.length g.Nodes) : Nat) : Int))) then
     (Option.bind (Go.Pm.at? g.Nodes v28_2) fun x3 =>
     (if (decide ((((List.length t.Nodes) : Nat) : Int) ≤ x3)) then
     (some (6 : Int))
    else (f55_l0 R t g m0 (Go.Pm.w64 (v28_2 + (1 : Int))))))
    else (f55_l2 R t g Go.Pm.loopMax (0 : Int)))
noncomputable def f55 (R : Recs) (t : Types) (g : Graph) : Option Int :=
  (Option.bind (Go.S.f78 R t) fun x0 =>
   (if (!((x0).2 == (0 : Int))) then
   (some (x0).2)
  else (Option.bind (Go.S.f81 g) fun x1 =>
   (if (!(x1 == (0 : Int))) then
   (some x1)
  else (f55_l0 R t g Go.Pm.loopMax (0 : Int))))))
theorem f55_l2_ok {C : Go.Pm.Callee} {R : Recs} (hC : Go.Pm.Fix E isRec C) (hR : RecOk C R) {t_Nodes : (List NodeType)} {t_Edges : (List EdgeType)} {g_Nodes : (List Int)} {g_Edges : (List Edge)}    :
    ∀ (m2 : Nat) (v41_4 : Int) , Go.Pm.lp (Go.Pm.machP E 55 C) [(Go.Pm.Fr.blk 2), (Go.Pm.Fr.seq 0 [1, 1, 1, 1, 1])] 2 [0, 0, 1, 0, 1, 1, 1, 1] m2 ⟨Go.Pm.PV.undef :: Go.Pm.PV.undef :: (Go.Pm.PV.ptr 0 0) :: (Go.Pm.PV.ptr 1 0) :: Go.Pm.PV.undef :: Go.Pm.PV.undef :: Go.Pm.PV.undef :: Go.Pm.PV.undef :: Go.Pm.PV.undef :: Go.Pm.PV.undef :: Go.Pm.PV.undef :: Go.Pm.PV.undef :: Go.Pm.PV.undef :: Go.Pm.PV.undef :: Go.Pm.PV.undef :: Go.Pm.PV.undef :: Go.Pm.PV.undef :: Go.Pm.PV.undef :: Go.Pm.PV.undef :: Go.Pm.PV.undef :: Go.Pm.PV.undef :: Go.Pm.PV.undef :: Go.Pm.PV.undef :: Go.Pm.PV.undef :: Go.Pm.PV.undef :: Go.Pm.PV.undef :: Go.Pm.PV.undef :: Go.Pm.PV.undef :: Go.Pm.PV.undef :: Go.Pm.PV.undef :: Go.Pm.PV.undef :: Go.Pm.PV.undef :: Go.Pm.PV.undef :: Go.Pm.PV.undef :: Go.Pm.PV.undef :: Go.Pm.PV.undef :: Go.Pm.PV.undef :: Go.Pm.PV.undef :: Go.Pm.PV.undef :: Go.Pm.PV.lit (Go.Pm.rows (g_Edges)) Go.Pm.fl0 :: Go.Pm.PV.int Go.IntKind.i64 ((((List.length g_Edges) : Nat) : Int)) :: Go.Pm.PV.int Go.IntKind.i64 v41_4 :: Go.Pm.PV.undef :: Go.Pm.PV.undef :: Go.Pm.PV.undef :: Go.Pm.PV.undef :: Go.Pm.PV.undef :: Go.Pm.PV.undef :: Go.Pm.PV.undef :: Go.Pm.PV.undef :: Go.Pm.PV.undef :: Go.Pm.PV.undef :: Go.Pm.PV.undef :: Go.Pm.PV.undef :: Go.Pm.PV.undef :: Go.Pm.PV.undef :: Go.Pm.PV.undef :: Go.Pm.PV.undef :: Go.Pm.PV.undef :: Go.Pm.PV.undef :: Go.Pm.PV.undef :: Go.Pm.PV.undef :: Go.Pm.PV.undef :: Go.Pm.PV.undef :: Go.Pm.PV.undef :: Go.Pm.PV.undef :: Go.Pm.PV.undef :: Go.Pm.PV.undef :: Go.Pm.PV.undef :: [], [(0, Go.Pm.PObj.box [Go.Pm.PV.lit (Go.Pm.rows (t_Nodes)) Go.Pm.fl0, Go.Pm.PV.lit (Go.Pm.rows (t_Edges)) Go.Pm.fl0]), (1, Go.Pm.PObj.box [Go.Pm.PV.lit (Go.Pm.rows (g_Nodes)) Go.Pm.fl0, Go.Pm.PV.lit (Go.Pm.rows (g_Edges)) Go.Pm.fl0])], 2⟩ = Option.map (fun r => Go.Pm.PV.int Go.IntKind.i64 r) (f55_l2 R (Types.mk t_Nodes t_Edges) (Graph.mk g_Nodes g_Edges) m2 v41_4) := by
  intro m2
  induction m2 with
  | zero => intros; rw [Go.Pm.lp_zero]; rfl
  | succ m2 ih =>
    intro v41_4
    rw [Go.Pm.lp_succ]
    simp only [Go.Pm.W0, Go.Pm.W1, Go.Pm.W2, Go.Pm.W3, Go.Pm.W4, Go.Pm.W5, Go.Pm.W6, Go.Pm.W7, Go.Pm.W8, Go.Pm.W9, Go.Pm.Wc, WE, WT, WS, Nat.reduceAdd, Nat.reduceSub, Nat.reduceMul, Nat.reduceBEq, Nat.reduceLeDiff, Nat.reduceEqDiff, Nat.reduceLT, ↓reduceIte, nt55, co55, re55, rk55, Tryz.f55, kp55_0, kp55_2, pa55_18, ir78, rk78, ir81, rk81, ir82, rk82, f78_ok hC hR, f81_ok hC hR, f82_ok hC hR, f55_l2, ih]
theorem f55_l0_ok {C : Go.Pm.Callee} {R : Recs} (hC : Go.Pm.Fix E isRec C) (hR : RecOk C R) {t_Nodes : (List NodeType)} {t_Edges : (List EdgeType)} {g_Nodes : (List Int)} {g_Edges : (List Edge)}    :
    ∀ (m0 : Nat) (v28_2 : Int) , Go.Pm.lp (Go.Pm.machP E 55 C) [(Go.Pm.Fr.blk 0), (Go.Pm.Fr.seq 0 [1, 1, 1, 1])] 0 [0, 0, 1, 0, 1, 1, 1] m0 ⟨Go.Pm.PV.undef :: Go.Pm.PV.undef :: (Go.Pm.PV.ptr 0 0) :: (Go.Pm.PV.ptr 1 0) :: Go.Pm.PV.undef :: Go.Pm.PV.undef :: Go.Pm.PV.undef :: Go.Pm.PV.undef :: Go.Pm.PV.undef :: Go.Pm.PV.undef :: Go.Pm.PV.undef :: Go.Pm.PV.undef :: Go.Pm.PV.undef :: Go.Pm.PV.undef :: Go.Pm.PV.undef :: Go.Pm.PV.undef :: Go.Pm.PV.undef :: Go.Pm.PV.undef :: Go.Pm.PV.undef :: Go.Pm.PV.undef :: Go.Pm.PV.undef :: Go.Pm.PV.undef :: Go.Pm.PV.undef :: Go.Pm.PV.undef :: Go.Pm.PV.undef :: Go.Pm.PV.undef :: Go.Pm.PV.lit (Go.Pm.rows (g_Nodes)) Go.Pm.fl0 :: Go.Pm.PV.int Go.IntKind.i64 ((((List.length g_Nodes) : Nat) : Int)) :: Go.Pm.PV.int Go.IntKind.i64 v28_2 :: Go.Pm.PV.undef :: Go.Pm.PV.undef :: Go.Pm.PV.undef :: Go.Pm.PV.undef :: Go.Pm.PV.undef :: Go.Pm.PV.undef :: Go.Pm.PV.undef :: Go.Pm.PV.undef :: Go.Pm.PV.undef :: Go.Pm.PV.undef :: Go.Pm.PV.undef :: Go.Pm.PV.undef :: Go.Pm.PV.undef :: Go.Pm.PV.undef :: Go.Pm.PV.undef :: Go.Pm.PV.undef :: Go.Pm.PV.undef :: Go.Pm.PV.undef :: Go.Pm.PV.undef :: Go.Pm.PV.undef :: Go.Pm.PV.undef :: Go.Pm.PV.undef :: Go.Pm.PV.undef :: Go.Pm.PV.undef :: Go.Pm.PV.undef :: Go.Pm.PV.undef :: Go.Pm.PV.undef :: Go.Pm.PV.undef :: Go.Pm.PV.undef :: Go.Pm.PV.undef :: Go.Pm.PV.undef :: Go.Pm.PV.undef :: Go.Pm.PV.undef :: Go.Pm.PV.undef :: Go.Pm.PV.undef :: Go.Pm.PV.undef :: Go.Pm.PV.undef :: Go.Pm.PV.undef :: Go.Pm.PV.undef :: Go.Pm.PV.undef :: [], [(0, Go.Pm.PObj.box [Go.Pm.PV.lit (Go.Pm.rows (t_Nodes)) Go.Pm.fl0, Go.Pm.PV.lit (Go.Pm.rows (t_Edges)) Go.Pm.fl0]), (1, Go.Pm.PObj.box [Go.Pm.PV.lit (Go.Pm.rows (g_Nodes)) Go.Pm.fl0, Go.Pm.PV.lit (Go.Pm.rows (g_Edges)) Go.Pm.fl0])], 2⟩ = Option.map (fun r => Go.Pm.PV.int Go.IntKind.i64 r) (f55_l0 R (Types.mk t_Nodes t_Edges) (Graph.mk g_Nodes g_Edges) m0 v28_2) := by
  intro m0
  induction m0 with
  | zero => intros; rw [Go.Pm.lp_zero]; rfl
  | succ m0 ih =>
    intro v28_2
    rw [Go.Pm.lp_succ]
    simp only [Go.Pm.W0, Go.Pm.W1, Go.Pm.W2, Go.Pm.W3, Go.Pm.W4, Go.Pm.W5, Go.Pm.W6, Go.Pm.W7, Go.Pm.W8, Go.Pm.W9, Go.Pm.Wc, WE, WT, WS, Nat.reduceAdd, Nat.reduceSub, Nat.reduceMul, Nat.reduceBEq, Nat.reduceLeDiff, Nat.reduceEqDiff, Nat.reduceLT, ↓reduceIte, nt55, co55, re55, rk55, Tryz.f55, kp55_0, kp55_2, pa55_18, ir78, rk78, ir81, rk81, ir82, rk82, f78_ok hC hR, f81_ok hC hR, f82_ok hC hR, f55_l0, ih, f55_l2_ok hC hR]
theorem f55_ok {C : Go.Pm.Callee} {R : Recs} (hC : Go.Pm.Fix E isRec C) (hR : RecOk C R) (t_Nodes : (List NodeType)) (t_Edges : (List EdgeType)) (g_Nodes : (List Int)) (g_Edges : (List Edge))  :
    C.pureC 55 [Go.Pm.PV.agg [Go.Pm.PV.lit (Go.Pm.rows t_Nodes) Go.Pm.fl0, Go.Pm.PV.lit (Go.Pm.rows t_Edges) Go.Pm.fl0], Go.Pm.PV.agg [Go.Pm.PV.lit (Go.Pm.rows g_Nodes) Go.Pm.fl0, Go.Pm.PV.lit (Go.Pm.rows g_Edges) Go.Pm.fl0]] = Option.map (fun r => Go.Pm.PV.int Go.IntKind.i64 r) (f55 R (Types.mk t_Nodes t_Edges) (Graph.mk g_Nodes g_Edges)) := by
  rw [Go.Pm.fix_pure hC (fn := Tryz.f55) rfl _ rfl rfl rfl]
  simp only [Go.Pm.W0, Go.Pm.W1, Go.Pm.W2, Go.Pm.W3, Go.Pm.W4, Go.Pm.W5, Go.Pm.W6, Go.Pm.W7, Go.Pm.W8, Go.Pm.W9, Go.Pm.Wc, WE, WT, WS, Nat.reduceAdd, Nat.reduceSub, Nat.reduceMul, Nat.reduceBEq, Nat.reduceLeDiff, Nat.reduceEqDiff, Nat.reduceLT, ↓reduceIte, nt55, co55, re55, rk55, Tryz.f55, kp55_0, kp55_2, pa55_18, ir78, rk78, ir81, rk81, ir82, rk82, f78_ok hC hR, f81_ok hC hR, f82_ok hC hR, f55, f55_l0_ok hC hR]
/-! scarfjoint/weight.natural$1 -/
noncomputable def f88 (v : Int) : Option Bool :=
  (if (decide (v < (0 : Int))) then
   (some Bool.true)
  else (some (decide ((1000 : Int) < v))))
theorem f88_ok {C : Go.Pm.Callee} {R : Recs} (hC : Go.Pm.Fix E isRec C) (hR : RecOk C R) (v : Int)  :
    C.pureC 88 [Go.Pm.PV.int Go.IntKind.i64 v] = Option.map (fun r => Go.Pm.PV.bool r) (f88 v) := by
  rw [Go.Pm.fix_pure hC (fn := Tryz.f88) rfl _ rfl rfl rfl]
  simp only [Go.Pm.W0, Go.Pm.W1, Go.Pm.W2, Go.Pm.W3, Go.Pm.W4, Go.Pm.W5, Go.Pm.W6, Go.Pm.W7, Go.Pm.W8, Go.Pm.W9, Go.Pm.Wc, WE, WT, WS, Nat.reduceAdd, Nat.reduceSub, Nat.reduceMul, Nat.reduceBEq, Nat.reduceLeDiff, Nat.reduceEqDiff, Nat.reduceLT, ↓reduceIte, nt88, co88, re88, rk88, Tryz.f88, f88]
/-! slices.IndexFunc[[]int,int] -/
noncomputable def f49_1_88_l0 (s : (List Int))  : Nat → Int → Option Int
  | 0, _ => none
  | m0 + 1, v8_0 =>
    (if (decide (v8_0 < (((List.length s) : Nat) : Int))) then
     (Option.bind (Go.Pm.at? s v8_0) fun x1 =>
     (Option.bind (Go.S.f88 x1) fun x2 =>
     (if x2 then
     (some v8_0)
    else (f49_1_88_l0 s m0 (Go.Pm.w64 (v8_0 + (1 : Int)))))))
    else (some (-(1 : Int))))
noncomputable def f49_1_88 (s : (List Int)) : Option Int :=
  (f49_1_88_l0 s Go.Pm.loopMax (0 : Int))
theorem f49_1_88_l0_ok {C : Go.Pm.Callee} {R : Recs} (hC : Go.Pm.Fix E isRec C) (hR : RecOk C R) {s : (List Int)}    :
    ∀ (m0 : Nat) (v8_0 : Int) , Go.Pm.lp (Go.Pm.machP E 49 C) [(Go.Pm.Fr.blk 0), (Go.Pm.Fr.seq 0 [1, 1])] 0 [0, 0, 1, 0, 1] m0 ⟨[Go.Pm.PV.lit (Go.Pm.rows (s)) Go.Pm.fl0, Go.Pm.PV.fn 88 [], Go.Pm.PV.undef, Go.Pm.PV.undef, Go.Pm.PV.undef, Go.Pm.PV.undef, Go.Pm.PV.undef, Go.Pm.PV.int Go.IntKind.i64 ((((List.length s) : Nat) : Int)), Go.Pm.PV.int Go.IntKind.i64 v8_0, Go.Pm.PV.undef, Go.Pm.PV.undef, Go.Pm.PV.undef, Go.Pm.PV.undef, Go.Pm.PV.undef, Go.Pm.PV.undef, Go.Pm.PV.undef, Go.Pm.PV.undef, Go.Pm.PV.undef, Go.Pm.PV.undef], [], 0⟩ = Option.map (fun r => Go.Pm.PV.int Go.IntKind.i64 r) (f49_1_88_l0 s m0 v8_0) := by
  intro m0
  induction m0 with
  | zero => intros; rw [Go.Pm.lp_zero]; rfl
  | succ m0 ih =>
    intro v8_0
    rw [Go.Pm.lp_succ]
    simp only [Go.Pm.W0, Go.Pm.W1, Go.Pm.W2, Go.Pm.W3, Go.Pm.W4, Go.Pm.W5, Go.Pm.W6, Go.Pm.W7, Go.Pm.W8, Go.Pm.W9, Go.Pm.Wc, WE, WT, WS, Nat.reduceAdd, Nat.reduceSub, Nat.reduceMul, Nat.reduceBEq, Nat.reduceLeDiff, Nat.reduceEqDiff, Nat.reduceLT, ↓reduceIte, nt49, co49, re49, rk49, Tryz.f49, kp49_0, ir88, rk88, f88_ok hC hR, f49_1_88_l0, ih]
theorem f49_1_88_ok {C : Go.Pm.Callee} {R : Recs} (hC : Go.Pm.Fix E isRec C) (hR : RecOk C R) (s : (List Int))  :
    C.pureC 49 [Go.Pm.PV.lit (Go.Pm.rows s) Go.Pm.fl0, Go.Pm.PV.fn 88 []] = Option.map (fun r => Go.Pm.PV.int Go.IntKind.i64 r) (f49_1_88 s) := by
  rw [Go.Pm.fix_pure hC (fn := Tryz.f49) rfl _ rfl rfl rfl]
  simp only [Go.Pm.W0, Go.Pm.W1, Go.Pm.W2, Go.Pm.W3, Go.Pm.W4, Go.Pm.W5, Go.Pm.W6, Go.Pm.W7, Go.Pm.W8, Go.Pm.W9, Go.Pm.Wc, WE, WT, WS, Nat.reduceAdd, Nat.reduceSub, Nat.reduceMul, Nat.reduceBEq, Nat.reduceLeDiff, Nat.reduceEqDiff, Nat.reduceLT, ↓reduceIte, nt49, co49, re49, rk49, Tryz.f49, kp49_0, ir88, rk88, f88_ok hC hR, f49_1_88, f49_1_88_l0_ok hC hR]
/-! slices.ContainsFunc[[]int,int] -/
noncomputable def f31_1_88 (s : (List Int)) : Option Bool :=
  (Option.bind (Go.S.f49_1_88 s) fun x0 =>
   (some (decide ((0 : Int) ≤ x0))))
theorem f31_1_88_ok {C : Go.Pm.Callee} {R : Recs} (hC : Go.Pm.Fix E isRec C) (hR : RecOk C R) (s : (List Int))  :
    C.pureC 31 [Go.Pm.PV.lit (Go.Pm.rows s) Go.Pm.fl0, Go.Pm.PV.fn 88 []] = Option.map (fun r => Go.Pm.PV.bool r) (f31_1_88 s) := by
  rw [Go.Pm.fix_pure hC (fn := Tryz.f31) rfl _ rfl rfl rfl]
  simp only [Go.Pm.W0, Go.Pm.W1, Go.Pm.W2, Go.Pm.W3, Go.Pm.W4, Go.Pm.W5, Go.Pm.W6, Go.Pm.W7, Go.Pm.W8, Go.Pm.W9, Go.Pm.Wc, WE, WT, WS, Nat.reduceAdd, Nat.reduceSub, Nat.reduceMul, Nat.reduceBEq, Nat.reduceLeDiff, Nat.reduceEqDiff, Nat.reduceLT, ↓reduceIte, nt31, co31, re31, rk31, Tryz.f31, ir49, rk49, f49_1_88_ok hC hR, f31_1_88]
/-! scarfjoint/weight.natural -/
noncomputable def f56 (l : (List Int)) (n : Int) : Option Bool :=
  (if ((((List.length l) : Nat) : Int) == n) then
   (Option.bind (Go.S.f31_1_88 l) fun x0 =>
   (some (!x0)))
  else (some Bool.false))
theorem f56_ok {C : Go.Pm.Callee} {R : Recs} (hC : Go.Pm.Fix E isRec C) (hR : RecOk C R) (l : (List Int)) (n : Int)  :
    C.pureC 56 [Go.Pm.PV.lit (Go.Pm.rows l) Go.Pm.fl0, Go.Pm.PV.int Go.IntKind.i64 n] = Option.map (fun r => Go.Pm.PV.bool r) (f56 l n) := by
  rw [Go.Pm.fix_pure hC (fn := Tryz.f56) rfl _ rfl rfl rfl]
  simp only [Go.Pm.W0, Go.Pm.W1, Go.Pm.W2, Go.Pm.W3, Go.Pm.W4, Go.Pm.W5, Go.Pm.W6, Go.Pm.W7, Go.Pm.W8, Go.Pm.W9, Go.Pm.Wc, WE, WT, WS, Nat.reduceAdd, Nat.reduceSub, Nat.reduceMul, Nat.reduceBEq, Nat.reduceLeDiff, Nat.reduceEqDiff, Nat.reduceLT, ↓reduceIte, nt56, co56, re56, rk56, Tryz.f56, ir31, rk31, ir88, rk88, f31_1_88_ok hC hR, f56]
/-! scarfjoint/weight.Of -/
noncomputable def f37_l2 (t : Types) (w : (List Int)) (g_Edges : (List Edge))  : Nat → Int → Int → Option (Int × Int)
  | 0, _, _ => none
  | m2 + 1, sum_6, v53_7 =>
    (if (decide (v53_7 < (((List.length g_Edges) : Nat) : Int))) then
     (Option.bind (Go.Pm.at? g_Edges v53_7) fun x8 =>
     (Option.bind (Go.Pm.at? w (Go.Pm.w64 ((((List.length t.Nodes) : Nat) : Int) + x8.Type_))) fun x9 =>
     (f37_l2 t w g_Edges m2 (Go.Pm.w64 (sum_6 + x9)) (Go.Pm.w64 (v53_7 + (1 : Int))))))
    else (some (sum_6, (0 : Int))))
noncomputable def f37_l0 (t : Types) (w : (List Int)) (g : Graph)  : Nat → Int → Int → Option (Int × Int)
  | 0, _, _ => none
  | m0 + 1, sum_2, v39_3 =>
    (if (decide (v39_3 < (((List.length g.Nodes) : Nat) : Int))) then
     (Option.bind (Go.Pm.at? g.Nodes v39_3) fun x4 =>
     (Option.bind (Go.Pm.at? w x4) fun x5 =>
     (f37_l0 t w g m0 (Go.Pm.w64 (sum_2 + x5)) (Go.Pm.w64 (v39_3 + (1 : Int))))))
    else (f37_l2 t w g.Edges Go.Pm.loopMax sum_2 (0 : Int)))
noncomputable def f37 (R : Recs) (t : Types) (w : (List Int)) (g : Graph) : Option (Int × Int) :=
  (Option.bind (Go.S.f55 R t g) fun x0 =>
   (if (!(x0 == (0 : Int))) then
   (some ((0 : Int), x0))
  else (if (!((((List.length w) : Nat) : Int) == (Go.Pm.w64 ((((List.length t.Nodes) : Nat) : Int) + (((List.length t.Edges) : Nat) : Int))))) then
   (some ((0 : Int), (20 : Int)))
  else (Option.bind (Go.S.f56 w (Go.Pm.w64 ((((List.length t.Nodes) : Nat) : Int) + (((List.length t.Edges) : Nat) : Int)))) fun x1 =>
   (if (!x1) then
   (some ((0 : Int), (6 : Int)))
  else (f37_l0 t w g Go.Pm.loopMax (0 : Int) (0 : Int)))))))
theorem f37_l2_ok {C : Go.Pm.Callee} {R : Recs} (hC : Go.Pm.Fix E isRec C) (hR : RecOk C R) {t_Nodes : (List NodeType)} {t_Edges : (List EdgeType)} {w : (List Int)} {g_Edges : (List Edge)}    :
    ∀ (m2 : Nat) (sum_6 : Int) (v53_7 : Int) , Go.Pm.lp (Go.Pm.machP E 37 C) [(Go.Pm.Fr.blk 2), (Go.Pm.Fr.seq 0 [1, 1, 1, 1, 1, 1, 1, 1])] 2 [0, 0, 1, 0, 1, 1, 1, 1, 1, 1, 1] m2 ⟨Go.Pm.PV.undef :: Go.Pm.PV.lit (Go.Pm.rows (w)) Go.Pm.fl0 :: Go.Pm.PV.undef :: (Go.Pm.PV.ptr 0 0) :: Go.Pm.PV.undef :: Go.Pm.PV.undef :: Go.Pm.PV.undef :: Go.Pm.PV.undef :: Go.Pm.PV.undef :: Go.Pm.PV.undef :: Go.Pm.PV.int Go.IntKind.i64 sum_6 :: Go.Pm.PV.undef :: Go.Pm.PV.undef :: Go.Pm.PV.undef :: Go.Pm.PV.undef :: Go.Pm.PV.undef :: Go.Pm.PV.undef :: Go.Pm.PV.undef :: Go.Pm.PV.undef :: Go.Pm.PV.undef :: Go.Pm.PV.undef :: Go.Pm.PV.undef :: Go.Pm.PV.undef :: Go.Pm.PV.undef :: Go.Pm.PV.undef :: Go.Pm.PV.undef :: Go.Pm.PV.undef :: Go.Pm.PV.undef :: Go.Pm.PV.undef :: Go.Pm.PV.undef :: Go.Pm.PV.undef :: Go.Pm.PV.undef :: Go.Pm.PV.undef :: Go.Pm.PV.undef :: Go.Pm.PV.undef :: Go.Pm.PV.undef :: Go.Pm.PV.undef :: Go.Pm.PV.undef :: Go.Pm.PV.undef :: Go.Pm.PV.undef :: Go.Pm.PV.undef :: Go.Pm.PV.undef :: Go.Pm.PV.undef :: Go.Pm.PV.undef :: Go.Pm.PV.undef :: Go.Pm.PV.undef :: Go.Pm.PV.undef :: Go.Pm.PV.undef :: Go.Pm.PV.undef :: Go.Pm.PV.undef :: Go.Pm.PV.undef :: Go.Pm.PV.lit (Go.Pm.rows (g_Edges)) Go.Pm.fl0 :: Go.Pm.PV.int Go.IntKind.i64 ((((List.length g_Edges) : Nat) : Int)) :: Go.Pm.PV.int Go.IntKind.i64 v53_7 :: Go.Pm.PV.undef :: Go.Pm.PV.undef :: Go.Pm.PV.undef :: Go.Pm.PV.undef :: Go.Pm.PV.undef :: Go.Pm.PV.undef :: Go.Pm.PV.undef :: Go.Pm.PV.undef :: Go.Pm.PV.undef :: Go.Pm.PV.undef :: Go.Pm.PV.undef :: Go.Pm.PV.undef :: Go.Pm.PV.undef :: Go.Pm.PV.undef :: Go.Pm.PV.undef :: Go.Pm.PV.undef :: [], [(0, Go.Pm.PObj.box [Go.Pm.PV.lit (Go.Pm.rows (t_Nodes)) Go.Pm.fl0, Go.Pm.PV.lit (Go.Pm.rows (t_Edges)) Go.Pm.fl0])], 1⟩ = Option.map (fun r => Go.Pm.PV.tup [Go.Pm.PV.int Go.IntKind.i64 r.1, Go.Pm.PV.int Go.IntKind.i64 r.2]) (f37_l2 (Types.mk t_Nodes t_Edges) w g_Edges m2 sum_6 v53_7) := by
  intro m2
  induction m2 with
  | zero => intros; rw [Go.Pm.lp_zero]; rfl
  | succ m2 ih =>
    intro sum_6 v53_7
    rw [Go.Pm.lp_succ]
    simp only [Go.Pm.W0, Go.Pm.W1, Go.Pm.W2, Go.Pm.W3, Go.Pm.W4, Go.Pm.W5, Go.Pm.W6, Go.Pm.W7, Go.Pm.W8, Go.Pm.W9, Go.Pm.Wc, WE, WT, WS, Nat.reduceAdd, Nat.reduceSub, Nat.reduceMul, Nat.reduceBEq, Nat.reduceLeDiff, Nat.reduceEqDiff, Nat.reduceLT, ↓reduceIte, nt37, co37, re37, rk37, Tryz.f37, kp37_0, kp37_2, ir55, rk55, ir56, rk56, f55_ok hC hR, f56_ok hC hR, f37_l2, ih]
theorem f37_l0_ok {C : Go.Pm.Callee} {R : Recs} (hC : Go.Pm.Fix E isRec C) (hR : RecOk C R) {t_Nodes : (List NodeType)} {t_Edges : (List EdgeType)} {w : (List Int)} {g_Nodes : (List Int)} {g_Edges : (List Edge)}    :
    ∀ (m0 : Nat) (sum_2 : Int) (v39_3 : Int) , Go.Pm.lp (Go.Pm.machP E 37 C) [(Go.Pm.Fr.blk 0), (Go.Pm.Fr.seq 0 [1, 1, 1, 1, 1, 1, 1])] 0 [0, 0, 1, 0, 1, 1, 1, 1, 1, 1] m0 ⟨Go.Pm.PV.undef :: Go.Pm.PV.lit (Go.Pm.rows (w)) Go.Pm.fl0 :: Go.Pm.PV.undef :: (Go.Pm.PV.ptr 0 0) :: Go.Pm.PV.undef :: (Go.Pm.PV.ptr 1 0) :: Go.Pm.PV.undef :: Go.Pm.PV.undef :: Go.Pm.PV.undef :: Go.Pm.PV.undef :: Go.Pm.PV.int Go.IntKind.i64 sum_2 :: Go.Pm.PV.undef :: Go.Pm.PV.undef :: Go.Pm.PV.undef :: Go.Pm.PV.undef :: Go.Pm.PV.undef :: Go.Pm.PV.undef :: Go.Pm.PV.undef :: Go.Pm.PV.undef :: Go.Pm.PV.undef :: Go.Pm.PV.undef :: Go.Pm.PV.undef :: Go.Pm.PV.undef :: Go.Pm.PV.undef :: Go.Pm.PV.undef :: Go.Pm.PV.undef :: Go.Pm.PV.undef :: Go.Pm.PV.undef :: Go.Pm.PV.undef :: Go.Pm.PV.undef :: Go.Pm.PV.undef :: Go.Pm.PV.undef :: Go.Pm.PV.undef :: Go.Pm.PV.undef :: Go.Pm.PV.undef :: Go.Pm.PV.undef :: Go.Pm.PV.undef :: Go.Pm.PV.lit (Go.Pm.rows (g_Nodes)) Go.Pm.fl0 :: Go.Pm.PV.int Go.IntKind.i64 ((((List.length g_Nodes) : Nat) : Int)) :: Go.Pm.PV.int Go.IntKind.i64 v39_3 :: Go.Pm.PV.undef :: Go.Pm.PV.undef :: Go.Pm.PV.undef :: Go.Pm.PV.undef :: Go.Pm.PV.undef :: Go.Pm.PV.undef :: Go.Pm.PV.undef :: Go.Pm.PV.undef :: Go.Pm.PV.undef :: Go.Pm.PV.undef :: Go.Pm.PV.undef :: Go.Pm.PV.undef :: Go.Pm.PV.undef :: Go.Pm.PV.undef :: Go.Pm.PV.undef :: Go.Pm.PV.undef :: Go.Pm.PV.undef :: Go.Pm.PV.undef :: Go.Pm.PV.undef :: Go.Pm.PV.undef :: Go.Pm.PV.undef :: Go.Pm.PV.undef :: Go.Pm.PV.undef :: Go.Pm.PV.undef :: Go.Pm.PV.undef :: Go.Pm.PV.undef :: Go.Pm.PV.undef :: Go.Pm.PV.undef :: Go.Pm.PV.undef :: Go.Pm.PV.undef :: [], [(0, Go.Pm.PObj.box [Go.Pm.PV.lit (Go.Pm.rows (t_Nodes)) Go.Pm.fl0, Go.Pm.PV.lit (Go.Pm.rows (t_Edges)) Go.Pm.fl0]), (1, Go.Pm.PObj.box [Go.Pm.PV.lit (Go.Pm.rows (g_Nodes)) Go.Pm.fl0, Go.Pm.PV.lit (Go.Pm.rows (g_Edges)) Go.Pm.fl0])], 2⟩ = Option.map (fun r => Go.Pm.PV.tup [Go.Pm.PV.int Go.IntKind.i64 r.1, Go.Pm.PV.int Go.IntKind.i64 r.2]) (f37_l0 (Types.mk t_Nodes t_Edges) w (Graph.mk g_Nodes g_Edges) m0 sum_2 v39_3) := by
  intro m0
  induction m0 with
  | zero => intros; rw [Go.Pm.lp_zero]; rfl
  | succ m0 ih =>
    intro sum_2 v39_3
    rw [Go.Pm.lp_succ]
    simp only [Go.Pm.W0, Go.Pm.W1, Go.Pm.W2, Go.Pm.W3, Go.Pm.W4, Go.Pm.W5, Go.Pm.W6, Go.Pm.W7, Go.Pm.W8, Go.Pm.W9, Go.Pm.Wc, WE, WT, WS, Nat.reduceAdd, Nat.reduceSub, Nat.reduceMul, Nat.reduceBEq, Nat.reduceLeDiff, Nat.reduceEqDiff, Nat.reduceLT, ↓reduceIte, nt37, co37, re37, rk37, Tryz.f37, kp37_0, kp37_2, ir55, rk55, ir56, rk56, f55_ok hC hR, f56_ok hC hR, f37_l0, ih, f37_l2_ok hC hR]
theorem f37_ok {C : Go.Pm.Callee} {R : Recs} (hC : Go.Pm.Fix E isRec C) (hR : RecOk C R) (t_Nodes : (List NodeType)) (t_Edges : (List EdgeType)) (w : (List Int)) (g_Nodes : (List Int)) (g_Edges : (List Edge))  :
    C.pureC 37 [Go.Pm.PV.agg [Go.Pm.PV.lit (Go.Pm.rows t_Nodes) Go.Pm.fl0, Go.Pm.PV.lit (Go.Pm.rows t_Edges) Go.Pm.fl0], Go.Pm.PV.lit (Go.Pm.rows w) Go.Pm.fl0, Go.Pm.PV.agg [Go.Pm.PV.lit (Go.Pm.rows g_Nodes) Go.Pm.fl0, Go.Pm.PV.lit (Go.Pm.rows g_Edges) Go.Pm.fl0]] = Option.map (fun r => Go.Pm.PV.tup [Go.Pm.PV.int Go.IntKind.i64 r.1, Go.Pm.PV.int Go.IntKind.i64 r.2]) (f37 R (Types.mk t_Nodes t_Edges) w (Graph.mk g_Nodes g_Edges)) := by
  rw [Go.Pm.fix_pure hC (fn := Tryz.f37) rfl _ rfl rfl rfl]
  simp only [Go.Pm.W0, Go.Pm.W1, Go.Pm.W2, Go.Pm.W3, Go.Pm.W4, Go.Pm.W5, Go.Pm.W6, Go.Pm.W7, Go.Pm.W8, Go.Pm.W9, Go.Pm.Wc, WE, WT, WS, Nat.reduceAdd, Nat.reduceSub, Nat.reduceMul, Nat.reduceBEq, Nat.reduceLeDiff, Nat.reduceEqDiff, Nat.reduceLT, ↓reduceIte, nt37, co37, re37, rk37, Tryz.f37, kp37_0, kp37_2, ir55, rk55, ir56, rk56, f55_ok hC hR, f56_ok hC hR, f37, f37_l0_ok hC hR]
/-! scarfjoint/counting.Rank -/
noncomputable def f15_l0 (R : Recs) (t : Types) (l : (List Stage)) (g : Graph)  : Nat → (List Int) → Int → Option ((List Int) × Int)
  | 0, _, _ => none
  | m0 + 1, out_1, v29_2 =>
    (if (decide (v29_2 < (((List.length l) : Nat) : Int))) then
     (Option.bind (Go.Pm.at? l v29_2) fun x3 =>
     (Option.bind (Go.S.f37 R t x3.Weights g) fun x4 =>
     (if (!((x4).2 == (0 : Int))) then
     (some (([] : List Int), (x4).2))
    else (if (decide ((List.length (out_1 ++ [(x4).1])) ≤ Go.Pm.bound)) then
     (f15_l0 R t l g m0 (out_1 ++ [(x4).1]) (Go.Pm.w64 (v29_2 + (1 : Int))))
    else none))))
    else (some (out_1, (0 : Int))))
noncomputable def f15 (R : Recs) (t : Types) (l : (List Stage)) (g : Graph) : Option ((List Int) × Int) :=
  (Option.bind (Go.S.f36 R t g) fun x0 =>
   (if (!((x0).2 == (0 : Int))) then
   (some (([] : List Int), (x0).2))
  else (if (decide ((6 : Int) < (((List.length l) : Nat) : Int))) then
   (some (([] : List Int), (3 : Int)))
  else (f15_l0 R t l g Go.Pm.loopMax ([] : List Int) (0 : Int)))))
theorem f15_l0_ok {C : Go.Pm.Callee} {R : Recs} (hC : Go.Pm.Fix E isRec C) (hR : RecOk C R) {t_Nodes : (List NodeType)} {t_Edges : (List EdgeType)} {l : (List Stage)} {g_Nodes : (List Int)} {g_Edges : (List Edge)}    :
    ∀ (m0 : Nat) (out_1 : (List Int)) (v29_2 : Int) (nout_1 : Nat), nout_1 = List.length out_1 → Go.Pm.lp (Go.Pm.machP E 15 C) [(Go.Pm.Fr.blk 0), (Go.Pm.Fr.seq 0 [1, 1, 1, 1, 1])] 0 [0, 0, 1, 0, 1, 1, 1, 1] m0 ⟨[Go.Pm.PV.undef, Go.Pm.PV.undef, Go.Pm.PV.undef, (Go.Pm.PV.ptr 0 0), Go.Pm.PV.undef, (Go.Pm.PV.ptr 1 0), Go.Pm.PV.undef, Go.Pm.PV.undef, Go.Pm.PV.undef, Go.Pm.PV.undef, Go.Pm.PV.own 2 1 0 nout_1, Go.Pm.PV.undef, Go.Pm.PV.undef, Go.Pm.PV.undef, Go.Pm.PV.undef, Go.Pm.PV.undef, Go.Pm.PV.undef, Go.Pm.PV.undef, Go.Pm.PV.undef, Go.Pm.PV.undef, Go.Pm.PV.undef, Go.Pm.PV.undef, Go.Pm.PV.undef, Go.Pm.PV.undef, Go.Pm.PV.undef, Go.Pm.PV.undef, Go.Pm.PV.undef, Go.Pm.PV.lit (Go.Pm.rows (l)) Go.Pm.fl0, Go.Pm.PV.int Go.IntKind.i64 ((((List.length l) : Nat) : Int)), Go.Pm.PV.int Go.IntKind.i64 v29_2, Go.Pm.PV.undef, Go.Pm.PV.undef, Go.Pm.PV.undef, Go.Pm.PV.undef, Go.Pm.PV.undef, Go.Pm.PV.undef, Go.Pm.PV.undef, Go.Pm.PV.undef, Go.Pm.PV.undef, Go.Pm.PV.undef, Go.Pm.PV.undef, Go.Pm.PV.undef, Go.Pm.PV.undef, Go.Pm.PV.undef, Go.Pm.PV.undef, Go.Pm.PV.undef, Go.Pm.PV.undef, Go.Pm.PV.undef, Go.Pm.PV.undef, Go.Pm.PV.undef], [(0, Go.Pm.PObj.box [Go.Pm.PV.lit (Go.Pm.rows (t_Nodes)) Go.Pm.fl0, Go.Pm.PV.lit (Go.Pm.rows (t_Edges)) Go.Pm.fl0]), (1, Go.Pm.PObj.box [Go.Pm.PV.lit (Go.Pm.rows (g_Nodes)) Go.Pm.fl0, Go.Pm.PV.lit (Go.Pm.rows (g_Edges)) Go.Pm.fl0]), (2, Go.Pm.PObj.arr 1 (Go.Pm.rows out_1) Bool.false Bool.false)], 3⟩ = Option.map (fun r => Go.Pm.PV.tup [Go.Pm.PV.lit (Go.Pm.rows r.1) ⟨true, false⟩, Go.Pm.PV.int Go.IntKind.i64 r.2]) (f15_l0 R (Types.mk t_Nodes t_Edges) l (Graph.mk g_Nodes g_Edges) m0 out_1 v29_2) := by
  intro m0
  induction m0 with
  | zero => intros; rw [Go.Pm.lp_zero]; rfl
  | succ m0 ih =>
    intro out_1 v29_2 nout_1 hout_1
    subst hout_1
    rw [Go.Pm.lp_succ]
    simp only [Go.Pm.W0, Go.Pm.W1, Go.Pm.W2, Go.Pm.W3, Go.Pm.W4, Go.Pm.W5, Go.Pm.W6, Go.Pm.W7, Go.Pm.W8, Go.Pm.W9, Go.Pm.Wc, WE, WT, WS, Nat.reduceAdd, Nat.reduceSub, Nat.reduceMul, Nat.reduceBEq, Nat.reduceLeDiff, Nat.reduceEqDiff, Nat.reduceLT, ↓reduceIte, nt15, co15, re15, rk15, Tryz.f15, kp15_0, ir36, rk36, ir37, rk37, f36_ok hC hR, f37_ok hC hR, f15_l0, ih]
theorem f15_ok {C : Go.Pm.Callee} {R : Recs} (hC : Go.Pm.Fix E isRec C) (hR : RecOk C R) (t_Nodes : (List NodeType)) (t_Edges : (List EdgeType)) (l : (List Stage)) (g_Nodes : (List Int)) (g_Edges : (List Edge))  :
    C.pureC 15 [Go.Pm.PV.agg [Go.Pm.PV.lit (Go.Pm.rows t_Nodes) Go.Pm.fl0, Go.Pm.PV.lit (Go.Pm.rows t_Edges) Go.Pm.fl0], Go.Pm.PV.lit (Go.Pm.rows l) Go.Pm.fl0, Go.Pm.PV.agg [Go.Pm.PV.lit (Go.Pm.rows g_Nodes) Go.Pm.fl0, Go.Pm.PV.lit (Go.Pm.rows g_Edges) Go.Pm.fl0]] = Option.map (fun r => Go.Pm.PV.tup [Go.Pm.PV.lit (Go.Pm.rows r.1) ⟨true, false⟩, Go.Pm.PV.int Go.IntKind.i64 r.2]) (f15 R (Types.mk t_Nodes t_Edges) l (Graph.mk g_Nodes g_Edges)) := by
  have e_0_0 := fun (t_Nodes : (List NodeType)) (t_Edges : (List EdgeType)) (l : (List Stage)) (g_Nodes : (List Int)) (g_Edges : (List Edge)) (e3 : Int) => f15_l0_ok (C := C) (R := R) (t_Nodes := t_Nodes) (t_Edges := t_Edges) (l := l) (g_Nodes := g_Nodes) (g_Edges := g_Edges) hC hR Go.Pm.loopMax (([] : List Int)) e3 _ rfl
  simp only [Go.Pm.rows_nil, Go.Pm.rows_cons, Go.Pm.cells_int, Go.Pm.cells_bool, Go.Pm.cells_str, Go.Pm.cells_list, WS, List.length_nil, List.length_cons, Nat.reduceAdd] at e_0_0
  rw [Go.Pm.fix_pure hC (fn := Tryz.f15) rfl _ rfl rfl rfl]
  simp only [Go.Pm.W0, Go.Pm.W1, Go.Pm.W2, Go.Pm.W3, Go.Pm.W4, Go.Pm.W5, Go.Pm.W6, Go.Pm.W7, Go.Pm.W8, Go.Pm.W9, Go.Pm.Wc, WE, WT, WS, Nat.reduceAdd, Nat.reduceSub, Nat.reduceMul, Nat.reduceBEq, Nat.reduceLeDiff, Nat.reduceEqDiff, Nat.reduceLT, ↓reduceIte, nt15, co15, re15, rk15, Tryz.f15, kp15_0, ir36, rk36, ir37, rk37, f36_ok hC hR, f37_ok hC hR, f15, e_0_0]
/-! scarfjoint/scarfjointref01.text -/
noncomputable def f162 (t : Token) : Option ByteArray :=
  (if (t.Kind == (3 : Int)) then
   none
  else (some t.Text))
theorem f162_ok {C : Go.Pm.Callee} {R : Recs} (hC : Go.Pm.Fix E isRec C) (hR : RecOk C R) (t_Kind : Int) (t_Text : ByteArray) (t_Line : Int)  :
    C.pureC 162 [Go.Pm.PV.agg [Go.Pm.PV.int Go.IntKind.i64 t_Kind, Go.Pm.PV.str t_Text, Go.Pm.PV.int Go.IntKind.i64 t_Line]] = Option.map (fun r => Go.Pm.PV.str r) (f162 (Token.mk t_Kind t_Text t_Line)) := by
  rw [Go.Pm.fix_pure hC (fn := Tryz.f162) rfl _ rfl rfl rfl]
  simp only [Go.Pm.W0, Go.Pm.W1, Go.Pm.W2, Go.Pm.W3, Go.Pm.W4, Go.Pm.W5, Go.Pm.W6, Go.Pm.W7, Go.Pm.W8, Go.Pm.W9, Go.Pm.Wc, WE, WT, WS, Nat.reduceAdd, Nat.reduceSub, Nat.reduceMul, Nat.reduceBEq, Nat.reduceLeDiff, Nat.reduceEqDiff, Nat.reduceLT, ↓reduceIte, nt162, co162, re162, rk162, Tryz.f162, f162]
/-! scarfjoint/scarfjointref01.letter -/
noncomputable def f188 (c : Int) : Option Bool :=
  (if (decide ((97 : Int) ≤ c)) then
   (if (decide (c ≤ (122 : Int))) then
   (some Bool.true)
  else (if (decide ((65 : Int) ≤ c)) then
   (some (decide (c ≤ (90 : Int))))
  else (some Bool.false)))
  else (if (decide ((65 : Int) ≤ c)) then
   (some (decide (c ≤ (90 : Int))))
  else (some Bool.false)))
theorem f188_ok {C : Go.Pm.Callee} {R : Recs} (hC : Go.Pm.Fix E isRec C) (hR : RecOk C R) (c : Int)  :
    C.pureC 188 [Go.Pm.PV.int Go.IntKind.u8 c] = Option.map (fun r => Go.Pm.PV.bool r) (f188 c) := by
  rw [Go.Pm.fix_pure hC (fn := Tryz.f188) rfl _ rfl rfl rfl]
  simp only [Go.Pm.W0, Go.Pm.W1, Go.Pm.W2, Go.Pm.W3, Go.Pm.W4, Go.Pm.W5, Go.Pm.W6, Go.Pm.W7, Go.Pm.W8, Go.Pm.W9, Go.Pm.Wc, WE, WT, WS, Nat.reduceAdd, Nat.reduceSub, Nat.reduceMul, Nat.reduceBEq, Nat.reduceLeDiff, Nat.reduceEqDiff, Nat.reduceLT, ↓reduceIte, nt188, co188, re188, rk188, Tryz.f188, f188]
/-! scarfjoint/scarfjointref01.digit -/
noncomputable def f189 (c : Int) : Option Bool :=
  (if (decide ((48 : Int) ≤ c)) then
   (some (decide (c ≤ (57 : Int))))
  else (some Bool.false))
theorem f189_ok {C : Go.Pm.Callee} {R : Recs} (hC : Go.Pm.Fix E isRec C) (hR : RecOk C R) (c : Int)  :
    C.pureC 189 [Go.Pm.PV.int Go.IntKind.u8 c] = Option.map (fun r => Go.Pm.PV.bool r) (f189 c) := by
  rw [Go.Pm.fix_pure hC (fn := Tryz.f189) rfl _ rfl rfl rfl]
  simp only [Go.Pm.W0, Go.Pm.W1, Go.Pm.W2, Go.Pm.W3, Go.Pm.W4, Go.Pm.W5, Go.Pm.W6, Go.Pm.W7, Go.Pm.W8, Go.Pm.W9, Go.Pm.Wc, WE, WT, WS, Nat.reduceAdd, Nat.reduceSub, Nat.reduceMul, Nat.reduceBEq, Nat.reduceLeDiff, Nat.reduceEqDiff, Nat.reduceLT, ↓reduceIte, nt189, co189, re189, rk189, Tryz.f189, f189]
/-! scarfjoint/scarfjointref01.run -/
noncomputable def f190_l0 (s : ByteArray) (at_ : Int) (digits : Bool)  : Nat → Int → Option Int
  | 0, _ => none
  | m0 + 1, n_0 =>
    (if (decide ((Go.Pm.w64 (at_ + n_0)) < (((ByteArray.size s) : Nat) : Int))) then
     (Option.bind (Go.Pm.byteAt? s (Go.Pm.w64 (at_ + n_0))) fun x1 =>
     (Option.bind (Go.S.f189 x1) fun x2 =>
     (if x2 then
     (f190_l0 s at_ digits m0 (Go.Pm.w64 (n_0 + (1 : Int))))
    else (if (!digits) then
     (Option.bind (Go.Pm.byteAt? s (Go.Pm.w64 (at_ + n_0))) fun x3 =>
     (Option.bind (Go.S.f188 x3) fun x4 =>
     (if x4 then
     (f190_l0 s at_ digits m0 (Go.Pm.w64 (n_0 + (1 : Int))))
    else (Option.bind (Go.Pm.byteAt? s (Go.Pm.w64 (at_ + n_0))) fun x5 =>
     (if (x5 == (95 : Int)) then
     (f190_l0 s at_ digits m0 (Go.Pm.w64 (n_0 + (1 : Int))))
    else (some n_0))))))
    else (some n_0)))))
    else (some n_0))
noncomputable def f190 (s : ByteArray) (at_ : Int) (digits : Bool) : Option Int :=
  (f190_l0 s at_ digits Go.Pm.loopMax (0 : Int))
theorem f190_l0_ok {C : Go.Pm.Callee} {R : Recs} (hC : Go.Pm.Fix E isRec C) (hR : RecOk C R) {s : ByteArray} {at_ : Int} {digits : Bool}    :
    ∀ (m0 : Nat) (n_0 : Int) , Go.Pm.lp (Go.Pm.machP E 190 C) [(Go.Pm.Fr.blk 0), (Go.Pm.Fr.seq 0 [1, 1, 1])] 0 [0, 0, 0, 1, 1] m0 ⟨[Go.Pm.PV.str (s), Go.Pm.PV.int Go.IntKind.i64 (at_), Go.Pm.PV.bool (digits), Go.Pm.PV.undef, Go.Pm.PV.undef, Go.Pm.PV.undef, Go.Pm.PV.undef, Go.Pm.PV.int Go.IntKind.i64 n_0, Go.Pm.PV.undef, Go.Pm.PV.undef, Go.Pm.PV.undef, Go.Pm.PV.undef, Go.Pm.PV.undef, Go.Pm.PV.undef, Go.Pm.PV.undef, Go.Pm.PV.undef, Go.Pm.PV.undef, Go.Pm.PV.undef, Go.Pm.PV.undef, Go.Pm.PV.undef, Go.Pm.PV.undef, Go.Pm.PV.undef, Go.Pm.PV.undef, Go.Pm.PV.undef, Go.Pm.PV.undef, Go.Pm.PV.undef, Go.Pm.PV.undef, Go.Pm.PV.undef, Go.Pm.PV.undef, Go.Pm.PV.undef, Go.Pm.PV.undef, Go.Pm.PV.undef, Go.Pm.PV.undef, Go.Pm.PV.undef, Go.Pm.PV.undef, Go.Pm.PV.undef, Go.Pm.PV.undef, Go.Pm.PV.undef, Go.Pm.PV.undef, Go.Pm.PV.undef, Go.Pm.PV.undef, Go.Pm.PV.undef, Go.Pm.PV.undef, Go.Pm.PV.undef, Go.Pm.PV.undef], [], 0⟩ = Option.map (fun r => Go.Pm.PV.int Go.IntKind.i64 r) (f190_l0 s at_ digits m0 n_0) := by
  intro m0
  induction m0 with
  | zero => intros; rw [Go.Pm.lp_zero]; rfl
  | succ m0 ih =>
    intro n_0
    rw [Go.Pm.lp_succ]
    simp only [Go.Pm.W0, Go.Pm.W1, Go.Pm.W2, Go.Pm.W3, Go.Pm.W4, Go.Pm.W5, Go.Pm.W6, Go.Pm.W7, Go.Pm.W8, Go.Pm.W9, Go.Pm.Wc, WE, WT, WS, Nat.reduceAdd, Nat.reduceSub, Nat.reduceMul, Nat.reduceBEq, Nat.reduceLeDiff, Nat.reduceEqDiff, Nat.reduceLT, ↓reduceIte, nt190, co190, re190, rk190, Tryz.f190, kp190_0, ir188, rk188, ir189, rk189, f188_ok hC hR, f189_ok hC hR, f190_l0, ih]
theorem f190_ok {C : Go.Pm.Callee} {R : Recs} (hC : Go.Pm.Fix E isRec C) (hR : RecOk C R) (s : ByteArray) (at_ : Int) (digits : Bool)  :
    C.pureC 190 [Go.Pm.PV.str s, Go.Pm.PV.int Go.IntKind.i64 at_, Go.Pm.PV.bool digits] = Option.map (fun r => Go.Pm.PV.int Go.IntKind.i64 r) (f190 s at_ digits) := by
  rw [Go.Pm.fix_pure hC (fn := Tryz.f190) rfl _ rfl rfl rfl]
  simp only [Go.Pm.W0, Go.Pm.W1, Go.Pm.W2, Go.Pm.W3, Go.Pm.W4, Go.Pm.W5, Go.Pm.W6, Go.Pm.W7, Go.Pm.W8, Go.Pm.W9, Go.Pm.Wc, WE, WT, WS, Nat.reduceAdd, Nat.reduceSub, Nat.reduceMul, Nat.reduceBEq, Nat.reduceLeDiff, Nat.reduceEqDiff, Nat.reduceLT, ↓reduceIte, nt190, co190, re190, rk190, Tryz.f190, kp190_0, ir188, rk188, ir189, rk189, f188_ok hC hR, f189_ok hC hR, f190, f190_l0_ok hC hR]
/-! scarfjoint/scarfjointref01.quoted -/
noncomputable def f191_l0 (s : ByteArray) (at_ : Int)  : Nat → Int → Option Int
  | 0, _ => none
  | m0 + 1, n_0 =>
    (if (decide ((Go.Pm.w64 (at_ + n_0)) < (((ByteArray.size s) : Nat) : Int))) then
     (Option.bind (Go.Pm.byteAt? s (Go.Pm.w64 (at_ + n_0))) fun x1 =>
     (if (x1 == (34 : Int)) then
     (some (Go.Pm.w64 (n_0 + (1 : Int))))
    else (if (decide (x1 < (32 : Int))) then
     (some (0 : Int))
    else (if (decide ((126 : Int) < x1)) then
     (some (0 : Int))
    else (f191_l0 s at_ m0 (Go.Pm.w64 (n_0 + (1 : Int))))))))
    else (some (0 : Int)))
noncomputable def f191 (s : ByteArray) (at_ : Int) : Option Int :=
  (f191_l0 s at_ Go.Pm.loopMax (1 : Int))
theorem f191_l0_ok {C : Go.Pm.Callee} {R : Recs} (hC : Go.Pm.Fix E isRec C) (hR : RecOk C R) {s : ByteArray} {at_ : Int}    :
    ∀ (m0 : Nat) (n_0 : Int) , Go.Pm.lp (Go.Pm.machP E 191 C) [(Go.Pm.Fr.blk 0), (Go.Pm.Fr.seq 0 [1, 1])] 0 [0, 0, 1, 0, 1] m0 ⟨[Go.Pm.PV.str (s), Go.Pm.PV.int Go.IntKind.i64 (at_), Go.Pm.PV.undef, Go.Pm.PV.undef, Go.Pm.PV.undef, Go.Pm.PV.int Go.IntKind.i64 n_0, Go.Pm.PV.undef, Go.Pm.PV.undef, Go.Pm.PV.undef, Go.Pm.PV.undef, Go.Pm.PV.undef, Go.Pm.PV.undef, Go.Pm.PV.undef, Go.Pm.PV.undef, Go.Pm.PV.undef, Go.Pm.PV.undef, Go.Pm.PV.undef, Go.Pm.PV.undef, Go.Pm.PV.undef, Go.Pm.PV.undef, Go.Pm.PV.undef, Go.Pm.PV.undef, Go.Pm.PV.undef, Go.Pm.PV.undef, Go.Pm.PV.undef, Go.Pm.PV.undef, Go.Pm.PV.undef, Go.Pm.PV.undef, Go.Pm.PV.undef, Go.Pm.PV.undef], [], 0⟩ = Option.map (fun r => Go.Pm.PV.int Go.IntKind.i64 r) (f191_l0 s at_ m0 n_0) := by
  intro m0
  induction m0 with
  | zero => intros; rw [Go.Pm.lp_zero]; rfl
  | succ m0 ih =>
    intro n_0
    rw [Go.Pm.lp_succ]
    simp only [Go.Pm.W0, Go.Pm.W1, Go.Pm.W2, Go.Pm.W3, Go.Pm.W4, Go.Pm.W5, Go.Pm.W6, Go.Pm.W7, Go.Pm.W8, Go.Pm.W9, Go.Pm.Wc, WE, WT, WS, Nat.reduceAdd, Nat.reduceSub, Nat.reduceMul, Nat.reduceBEq, Nat.reduceLeDiff, Nat.reduceEqDiff, Nat.reduceLT, ↓reduceIte, nt191, co191, re191, rk191, Tryz.f191, kp191_0, f191_l0, ih]
theorem f191_ok {C : Go.Pm.Callee} {R : Recs} (hC : Go.Pm.Fix E isRec C) (hR : RecOk C R) (s : ByteArray) (at_ : Int)  :
    C.pureC 191 [Go.Pm.PV.str s, Go.Pm.PV.int Go.IntKind.i64 at_] = Option.map (fun r => Go.Pm.PV.int Go.IntKind.i64 r) (f191 s at_) := by
  rw [Go.Pm.fix_pure hC (fn := Tryz.f191) rfl _ rfl rfl rfl]
  simp only [Go.Pm.W0, Go.Pm.W1, Go.Pm.W2, Go.Pm.W3, Go.Pm.W4, Go.Pm.W5, Go.Pm.W6, Go.Pm.W7, Go.Pm.W8, Go.Pm.W9, Go.Pm.Wc, WE, WT, WS, Nat.reduceAdd, Nat.reduceSub, Nat.reduceMul, Nat.reduceBEq, Nat.reduceLeDiff, Nat.reduceEqDiff, Nat.reduceLT, ↓reduceIte, nt191, co191, re191, rk191, Tryz.f191, kp191_0, f191, f191_l0_ok hC hR]
/-! scarfjoint/scarfjointref01.signs -/
noncomputable def f192  : Option (List ByteArray) :=
  (some ((ByteArray.mk (List.toArray [45, 62])) :: ((ByteArray.mk (List.toArray [60, 61])) :: ((ByteArray.mk (List.toArray [62, 61])) :: ((ByteArray.mk (List.toArray [61, 61])) :: ((ByteArray.mk (List.toArray [33, 61])) :: ((ByteArray.mk (List.toArray [123])) :: ((ByteArray.mk (List.toArray [125])) :: ((ByteArray.mk (List.toArray [40])) :: ((ByteArray.mk (List.toArray [41])) :: ((ByteArray.mk (List.toArray [91])) :: ((ByteArray.mk (List.toArray [93])) :: ((ByteArray.mk (List.toArray [44])) :: ((ByteArray.mk (List.toArray [59])) :: ((ByteArray.mk (List.toArray [58])) :: ((ByteArray.mk (List.toArray [61])) :: ((ByteArray.mk (List.toArray [43])) :: ((ByteArray.mk (List.toArray [45])) :: ((ByteArray.mk (List.toArray [42])) :: ((ByteArray.mk (List.toArray [60])) :: ((ByteArray.mk (List.toArray [62])) :: ((ByteArray.mk (List.toArray [33])) :: ((ByteArray.mk (List.toArray [38])) :: ((ByteArray.mk (List.toArray [124])) :: ((ByteArray.mk (List.toArray [46])) :: ((ByteArray.mk (List.toArray [63])) :: ([] : List ByteArray)))))))))))))))))))))))))))
theorem f192_ok {C : Go.Pm.Callee} {R : Recs} (hC : Go.Pm.Fix E isRec C) (hR : RecOk C R)   :
    C.pureC 192 [] = Option.map (fun r => Go.Pm.PV.lit (Go.Pm.rows r) ⟨true, false⟩) (f192) := by
  rw [Go.Pm.fix_pure hC (fn := Tryz.f192) rfl _ rfl rfl rfl]
  simp only [Go.Pm.W0, Go.Pm.W1, Go.Pm.W2, Go.Pm.W3, Go.Pm.W4, Go.Pm.W5, Go.Pm.W6, Go.Pm.W7, Go.Pm.W8, Go.Pm.W9, Go.Pm.Wc, WE, WT, WS, Nat.reduceAdd, Nat.reduceSub, Nat.reduceMul, Nat.reduceBEq, Nat.reduceLeDiff, Nat.reduceEqDiff, Nat.reduceLT, ↓reduceIte, nt192, co192, re192, rk192, Tryz.f192, f192]
/-! scarfjoint/scarfjointref01.one -/
noncomputable def f163_l0 (s : ByteArray) (at_ : Int) (x10 : (List ByteArray))  : Nat → Int → Int → Int → Option (Token × Int × Int)
  | 0, _, _, _ => none
  | m0 + 1, i_11, v4_12, v4_13 =>
    (if (decide (i_11 < (((List.length x10) : Nat) : Int))) then
     (if ((decide ((0 : Int) ≤ i_11)) && (decide (i_11 < (((List.length x10) : Nat) : Int)))) then
     (Option.bind (x10[(Int.toNat i_11)]?) fun x14 =>
     (if (decide ((Go.Pm.w64 (at_ + (((ByteArray.size x14) : Nat) : Int))) ≤ (((ByteArray.size s) : Nat) : Int))) then
     (if ((decide ((0 : Int) ≤ i_11)) && (decide (i_11 < (((List.length x10) : Nat) : Int)))) then
     (Option.bind (x10[(Int.toNat i_11)]?) fun x15 =>
     (if (decide (((0 : Int) ≤ at_) ∧ ((at_ ≤ (Go.Pm.w64 (at_ + (((ByteArray.size x15) : Nat) : Int)))) ∧ ((Go.Pm.w64 (at_ + (((ByteArray.size x15) : Nat) : Int))) ≤ (((ByteArray.size s) : Nat) : Int))))) then
     (if ((decide ((0 : Int) ≤ i_11)) && (decide (i_11 < (((List.length x10) : Nat) : Int)))) then
     (Option.bind (x10[(Int.toNat i_11)]?) fun x16 =>
     (if (decide ((ByteArray.extract s (Int.toNat at_) (Int.toNat (Go.Pm.w64 (at_ + (((ByteArray.size x15) : Nat) : Int))))) = x16)) then
     (if ((decide ((0 : Int) ≤ i_11)) && (decide (i_11 < (((List.length x10) : Nat) : Int)))) then
     (Option.bind (x10[(Int.toNat i_11)]?) fun x17 =>
     (if ((decide ((0 : Int) ≤ i_11)) && (decide (i_11 < (((List.length x10) : Nat) : Int)))) then
     (Option.bind (x10[(Int.toNat i_11)]?) fun x18 =>
     (some ((Token.mk (4 : Int) x17 (0 : Int)), (((ByteArray.size x18) : Nat) : Int), (0 : Int))))
    else none))
    else none)
    else (f163_l0 s at_ x10 m0 (Go.Pm.w64 (i_11 + (1 : Int))) v4_12 v4_13)))
    else none)
    else none))
    else none)
    else (f163_l0 s at_ x10 m0 (Go.Pm.w64 (i_11 + (1 : Int))) v4_12 v4_13)))
    else none)
    else (some ((Token.mk (0 : Int) (ByteArray.mk (List.toArray [])) (0 : Int)), (0 : Int), (2 : Int))))
noncomputable def f163 (s : ByteArray) (at_ : Int) : Option (Token × Int × Int) :=
  (Option.bind (Go.Pm.byteAt? s at_) fun x0 =>
   (Option.bind (Go.S.f188 x0) fun x1 =>
   (if x1 then
   (Option.bind (Go.S.f189 x0) fun x2 =>
   (Option.bind (Go.S.f190 s at_ x2) fun x3 =>
   (Option.bind (Go.S.f189 x0) fun x4 =>
   (if x4 then
   (if (decide ((9 : Int) < x3)) then
   (some ((Token.mk (0 : Int) (ByteArray.mk (List.toArray [])) (0 : Int)), (0 : Int), (3 : Int)))
  else (if (decide (((0 : Int) ≤ at_) ∧ ((at_ ≤ (Go.Pm.w64 (at_ + x3))) ∧ ((Go.Pm.w64 (at_ + x3)) ≤ (((ByteArray.size s) : Nat) : Int))))) then
   (some ((Token.mk (2 : Int) (ByteArray.extract s (Int.toNat at_) (Int.toNat (Go.Pm.w64 (at_ + x3)))) (0 : Int)), x3, (0 : Int)))
  else none))
  else (if (decide ((20 : Int) < x3)) then
   (some ((Token.mk (0 : Int) (ByteArray.mk (List.toArray [])) (0 : Int)), (0 : Int), (3 : Int)))
  else (if (decide (((0 : Int) ≤ at_) ∧ ((at_ ≤ (Go.Pm.w64 (at_ + x3))) ∧ ((Go.Pm.w64 (at_ + x3)) ≤ (((ByteArray.size s) : Nat) : Int))))) then
   (some ((Token.mk (1 : Int) (ByteArray.extract s (Int.toNat at_) (Int.toNat (Go.Pm.w64 (at_ + x3)))) (0 : Int)), x3, (0 : Int)))
  else none))))))
  else (Option.bind (Go.S.f189 x0) fun x5 =>
   (if x5 then
   (Option.bind (Go.S.f189 x0) fun x6 =>
   (Option.bind (Go.S.f190 s at_ x6) fun x7 =>
   (Option.bind (Go.S.f189 x0) fun x8 =>
   (if x8 then
   (if (decide ((9 : Int) < x7)) then
   (some ((Token.mk (0 : Int) (ByteArray.mk (List.toArray [])) (0 : Int)), (0 : Int), (3 : Int)))
  else (if (decide (((0 : Int) ≤ at_) ∧ ((at_ ≤ (Go.Pm.w64 (at_ + x7))) ∧ ((Go.Pm.w64 (at_ + x7)) ≤ (((ByteArray.size s) : Nat) : Int))))) then
   (some ((Token.mk (2 : Int) (ByteArray.extract s (Int.toNat at_) (Int.toNat (Go.Pm.w64 (at_ + x7)))) (0 : Int)), x7, (0 : Int)))
  else none))
  else (if (decide ((20 : Int) < x7)) then
   (some ((Token.mk (0 : Int) (ByteArray.mk (List.toArray [])) (0 : Int)), (0 : Int), (3 : Int)))
  else (if (decide (((0 : Int) ≤ at_) ∧ ((at_ ≤ (Go.Pm.w64 (at_ + x7))) ∧ ((Go.Pm.w64 (at_ + x7)) ≤ (((ByteArray.size s) : Nat) : Int))))) then
   (some ((Token.mk (1 : Int) (ByteArray.extract s (Int.toNat at_) (Int.toNat (Go.Pm.w64 (at_ + x7)))) (0 : Int)), x7, (0 : Int)))
  else none))))))
  else (if (x0 == (34 : Int)) then
   (Option.bind (Go.S.f191 s at_) fun x9 =>
   (if (x9 == (0 : Int)) then
   (some ((Token.mk (0 : Int) (ByteArray.mk (List.toArray [])) (0 : Int)), (0 : Int), (2 : Int)))
  else (if (decide ((60 : Int) < (Go.Pm.w64 (x9 - (2 : Int))))) then
   (some ((Token.mk (0 : Int) (ByteArray.mk (List.toArray [])) (0 : Int)), (0 : Int), (3 : Int)))
  else (if (decide (((0 : Int) ≤ (Go.Pm.w64 (at_ + (1 : Int)))) ∧ (((Go.Pm.w64 (at_ + (1 : Int))) ≤ (Go.Pm.w64 ((Go.Pm.w64 (at_ + x9)) - (1 : Int)))) ∧ ((Go.Pm.w64 ((Go.Pm.w64 (at_ + x9)) - (1 : Int))) ≤ (((ByteArray.size s) : Nat) : Int))))) then
   (some ((Token.mk (3 : Int) (ByteArray.extract s (Int.toNat (Go.Pm.w64 (at_ + (1 : Int)))) (Int.toNat (Go.Pm.w64 ((Go.Pm.w64 (at_ + x9)) - (1 : Int))))) (0 : Int)), x9, (0 : Int)))
  else none))))
  else (Option.bind Go.S.f192 fun x10 =>
   (f163_l0 s at_ x10 Go.Pm.loopMax (0 : Int) (0 : Int) (0 : Int)))))))))
theorem f163_l0_ok {C : Go.Pm.Callee} {R : Recs} (hC : Go.Pm.Fix E isRec C) (hR : RecOk C R) {s : ByteArray} {at_ : Int} {x10 : (List ByteArray)}    :
    ∀ (m0 : Nat) (i_11 : Int) (v4_12 : Int) (v4_13 : Int) , Go.Pm.lp (Go.Pm.machP E 163 C) [(Go.Pm.Fr.blk 0), (Go.Pm.Fr.seq 0 [1, 1, 1, 1, 1, 1])] 0 [0, 0, 1, 0, 1, 1, 1, 1, 1] m0 ⟨Go.Pm.PV.str (s) :: Go.Pm.PV.int Go.IntKind.i64 (at_) :: Go.Pm.PV.undef :: Go.Pm.PV.undef :: (Go.Pm.PV.ptr 0 0) :: Go.Pm.PV.undef :: Go.Pm.PV.undef :: Go.Pm.PV.undef :: Go.Pm.PV.undef :: Go.Pm.PV.undef :: Go.Pm.PV.undef :: Go.Pm.PV.undef :: Go.Pm.PV.own 1 1 0 (List.length x10) :: Go.Pm.PV.int Go.IntKind.i64 i_11 :: Go.Pm.PV.undef :: Go.Pm.PV.undef :: Go.Pm.PV.undef :: Go.Pm.PV.undef :: Go.Pm.PV.undef :: Go.Pm.PV.undef :: Go.Pm.PV.undef :: Go.Pm.PV.undef :: Go.Pm.PV.undef :: Go.Pm.PV.undef :: Go.Pm.PV.undef :: Go.Pm.PV.undef :: Go.Pm.PV.undef :: Go.Pm.PV.undef :: Go.Pm.PV.undef :: Go.Pm.PV.undef :: Go.Pm.PV.undef :: Go.Pm.PV.undef :: Go.Pm.PV.undef :: Go.Pm.PV.undef :: Go.Pm.PV.undef :: Go.Pm.PV.undef :: Go.Pm.PV.undef :: Go.Pm.PV.undef :: Go.Pm.PV.undef :: Go.Pm.PV.undef :: Go.Pm.PV.undef :: Go.Pm.PV.undef :: Go.Pm.PV.undef :: Go.Pm.PV.undef :: Go.Pm.PV.undef :: Go.Pm.PV.undef :: Go.Pm.PV.undef :: Go.Pm.PV.undef :: Go.Pm.PV.undef :: Go.Pm.PV.undef :: Go.Pm.PV.undef :: Go.Pm.PV.undef :: Go.Pm.PV.undef :: Go.Pm.PV.undef :: Go.Pm.PV.undef :: Go.Pm.PV.undef :: Go.Pm.PV.undef :: Go.Pm.PV.undef :: Go.Pm.PV.undef :: Go.Pm.PV.undef :: Go.Pm.PV.undef :: Go.Pm.PV.undef :: Go.Pm.PV.undef :: Go.Pm.PV.undef :: Go.Pm.PV.undef :: Go.Pm.PV.undef :: Go.Pm.PV.undef :: Go.Pm.PV.undef :: Go.Pm.PV.undef :: Go.Pm.PV.undef :: Go.Pm.PV.undef :: Go.Pm.PV.undef :: Go.Pm.PV.undef :: Go.Pm.PV.undef :: Go.Pm.PV.undef :: Go.Pm.PV.undef :: Go.Pm.PV.undef :: Go.Pm.PV.undef :: Go.Pm.PV.undef :: Go.Pm.PV.undef :: Go.Pm.PV.undef :: Go.Pm.PV.undef :: Go.Pm.PV.undef :: Go.Pm.PV.undef :: Go.Pm.PV.undef :: Go.Pm.PV.undef :: Go.Pm.PV.undef :: Go.Pm.PV.undef :: Go.Pm.PV.undef :: Go.Pm.PV.undef :: Go.Pm.PV.undef :: Go.Pm.PV.undef :: Go.Pm.PV.undef :: Go.Pm.PV.undef :: Go.Pm.PV.undef :: Go.Pm.PV.undef :: Go.Pm.PV.undef :: Go.Pm.PV.undef :: Go.Pm.PV.undef :: Go.Pm.PV.undef :: Go.Pm.PV.undef :: Go.Pm.PV.undef :: Go.Pm.PV.undef :: Go.Pm.PV.undef :: Go.Pm.PV.undef :: Go.Pm.PV.undef :: Go.Pm.PV.undef :: Go.Pm.PV.undef :: Go.Pm.PV.undef :: Go.Pm.PV.undef :: [], [(0, Go.Pm.PObj.box [Go.Pm.PV.int Go.IntKind.i64 v4_12, Go.Pm.PV.str ((ByteArray.mk (List.toArray []))), Go.Pm.PV.int Go.IntKind.i64 v4_13]), (1, Go.Pm.PObj.arr 1 (Go.Pm.rows (x10)) Bool.false Bool.false)], 2⟩ = Option.map (fun r => Go.Pm.PV.tup [Go.Pm.PV.agg [Go.Pm.PV.int Go.IntKind.i64 r.1.Kind, Go.Pm.PV.str r.1.Text, Go.Pm.PV.int Go.IntKind.i64 r.1.Line], Go.Pm.PV.int Go.IntKind.i64 r.2.1, Go.Pm.PV.int Go.IntKind.i64 r.2.2]) (f163_l0 s at_ x10 m0 i_11 v4_12 v4_13) := by
  intro m0
  induction m0 with
  | zero => intros; rw [Go.Pm.lp_zero]; rfl
  | succ m0 ih =>
    intro i_11 v4_12 v4_13
    rw [Go.Pm.lp_succ]
    simp only [Go.Pm.W0, Go.Pm.W1, Go.Pm.W2, Go.Pm.W3, Go.Pm.W4, Go.Pm.W5, Go.Pm.W6, Go.Pm.W7, Go.Pm.W8, Go.Pm.W9, Go.Pm.Wc, WE, WT, WS, Nat.reduceAdd, Nat.reduceSub, Nat.reduceMul, Nat.reduceBEq, Nat.reduceLeDiff, Nat.reduceEqDiff, Nat.reduceLT, ↓reduceIte, nt163, co163, re163, rk163, Tryz.f163, kp163_0, pa163_21, pa163_22, ir188, rk188, ir189, rk189, ir190, rk190, ir191, rk191, ir192, rk192, f188_ok hC hR, f189_ok hC hR, f190_ok hC hR, f191_ok hC hR, f192_ok hC hR, f163_l0, ih]
theorem f163_ok {C : Go.Pm.Callee} {R : Recs} (hC : Go.Pm.Fix E isRec C) (hR : RecOk C R) (s : ByteArray) (at_ : Int)  :
    C.pureC 163 [Go.Pm.PV.str s, Go.Pm.PV.int Go.IntKind.i64 at_] = Option.map (fun r => Go.Pm.PV.tup [Go.Pm.PV.agg [Go.Pm.PV.int Go.IntKind.i64 r.1.Kind, Go.Pm.PV.str r.1.Text, Go.Pm.PV.int Go.IntKind.i64 r.1.Line], Go.Pm.PV.int Go.IntKind.i64 r.2.1, Go.Pm.PV.int Go.IntKind.i64 r.2.2]) (f163 s at_) := by
  rw [Go.Pm.fix_pure hC (fn := Tryz.f163) rfl _ rfl rfl rfl]
  simp only [Go.Pm.W0, Go.Pm.W1, Go.Pm.W2, Go.Pm.W3, Go.Pm.W4, Go.Pm.W5, Go.Pm.W6, Go.Pm.W7, Go.Pm.W8, Go.Pm.W9, Go.Pm.Wc, WE, WT, WS, Nat.reduceAdd, Nat.reduceSub, Nat.reduceMul, Nat.reduceBEq, Nat.reduceLeDiff, Nat.reduceEqDiff, Nat.reduceLT, ↓reduceIte, nt163, co163, re163, rk163, Tryz.f163, kp163_0, pa163_21, pa163_22, ir188, rk188, ir189, rk189, ir190, rk190, ir191, rk191, ir192, rk192, f188_ok hC hR, f189_ok hC hR, f190_ok hC hR, f191_ok hC hR, f192_ok hC hR, f163, f163_l0_ok hC hR]
/-! scarfjoint/scarfjointref01.Right -/
noncomputable def f131 (t : Token) : Option Bool :=
  (Option.bind (Go.S.f162 t) fun x0 =>
   (if (decide (x0 = (ByteArray.mk (List.toArray [])))) then
   (some Bool.false)
  else (Option.bind (Go.S.f163 x0 (0 : Int)) fun x1 =>
   (if (((x1).2).2 == (0 : Int)) then
   (if (((x1).2).1 == (((ByteArray.size x0) : Nat) : Int)) then
   (some ((x1).1.Kind == t.Kind))
  else (some Bool.false))
  else (some Bool.false)))))
theorem f131_ok {C : Go.Pm.Callee} {R : Recs} (hC : Go.Pm.Fix E isRec C) (hR : RecOk C R) (t_Kind : Int) (t_Text : ByteArray) (t_Line : Int)  :
    C.pureC 131 [Go.Pm.PV.agg [Go.Pm.PV.int Go.IntKind.i64 t_Kind, Go.Pm.PV.str t_Text, Go.Pm.PV.int Go.IntKind.i64 t_Line]] = Option.map (fun r => Go.Pm.PV.bool r) (f131 (Token.mk t_Kind t_Text t_Line)) := by
  rw [Go.Pm.fix_pure hC (fn := Tryz.f131) rfl _ rfl rfl rfl]
  simp only [Go.Pm.W0, Go.Pm.W1, Go.Pm.W2, Go.Pm.W3, Go.Pm.W4, Go.Pm.W5, Go.Pm.W6, Go.Pm.W7, Go.Pm.W8, Go.Pm.W9, Go.Pm.Wc, WE, WT, WS, Nat.reduceAdd, Nat.reduceSub, Nat.reduceMul, Nat.reduceBEq, Nat.reduceLeDiff, Nat.reduceEqDiff, Nat.reduceLT, ↓reduceIte, nt131, co131, re131, rk131, Tryz.f131, ir162, rk162, ir163, rk163, f162_ok hC hR, f163_ok hC hR, f131]
/-! scarfjoint/scarfjointref01.IsName -/
noncomputable def f100 (s : ByteArray) : Option Bool :=
  (Option.bind (Go.S.f131 (Go.S.Token.mk (1 : Int) s (0 : Int))) fun x0 =>
   (some x0))
theorem f100_ok {C : Go.Pm.Callee} {R : Recs} (hC : Go.Pm.Fix E isRec C) (hR : RecOk C R) (s : ByteArray)  :
    C.pureC 100 [Go.Pm.PV.str s] = Option.map (fun r => Go.Pm.PV.bool r) (f100 s) := by
  rw [Go.Pm.fix_pure hC (fn := Tryz.f100) rfl _ rfl rfl rfl]
  simp only [Go.Pm.W0, Go.Pm.W1, Go.Pm.W2, Go.Pm.W3, Go.Pm.W4, Go.Pm.W5, Go.Pm.W6, Go.Pm.W7, Go.Pm.W8, Go.Pm.W9, Go.Pm.Wc, WE, WT, WS, Nat.reduceAdd, Nat.reduceSub, Nat.reduceMul, Nat.reduceBEq, Nat.reduceLeDiff, Nat.reduceEqDiff, Nat.reduceLT, ↓reduceIte, nt100, co100, re100, rk100, Tryz.f100, ir131, rk131, f131_ok hC hR, f100]
/-! scarfjoint/scarfjointref04.in -/
noncomputable def f92 (n : Int) (low : Int) (high : Int) : Option Bool :=
  (if (decide (low ≤ n)) then
   (some (decide (n ≤ high)))
  else (some Bool.false))
theorem f92_ok {C : Go.Pm.Callee} {R : Recs} (hC : Go.Pm.Fix E isRec C) (hR : RecOk C R) (n : Int) (low : Int) (high : Int)  :
    C.pureC 92 [Go.Pm.PV.int Go.IntKind.i64 n, Go.Pm.PV.int Go.IntKind.i64 low, Go.Pm.PV.int Go.IntKind.i64 high] = Option.map (fun r => Go.Pm.PV.bool r) (f92 n low high) := by
  rw [Go.Pm.fix_pure hC (fn := Tryz.f92) rfl _ rfl rfl rfl]
  simp only [Go.Pm.W0, Go.Pm.W1, Go.Pm.W2, Go.Pm.W3, Go.Pm.W4, Go.Pm.W5, Go.Pm.W6, Go.Pm.W7, Go.Pm.W8, Go.Pm.W9, Go.Pm.Wc, WE, WT, WS, Nat.reduceAdd, Nat.reduceSub, Nat.reduceMul, Nat.reduceBEq, Nat.reduceLeDiff, Nat.reduceEqDiff, Nat.reduceLT, ↓reduceIte, nt92, co92, re92, rk92, Tryz.f92, f92]
/-! scarfjoint/scarfjointref04.names -/
noncomputable def f132_l2 (l : (List ByteArray)) (i_0 : Int) (k0 : Int → Option Int) : Nat → Int → Option Int
  | 0, _ => none
  | m2 + 1, k_3 =>
    (if (decide (k_3 < i_0)) then
     (Option.bind (Go.Pm.at? l k_3) fun x4 =>
     (Option.bind (Go.Pm.at? l i_0) fun x5 =>
     (if (decide (x4 = x5)) then
     (some (5 : Int))
    else (f132_l2 l i_0 k0 m2 (Go.Pm.w64 (k_3 + (1 : Int)))))))
    else (k0 (Go.Pm.w64 (i_0 + (1 : Int)))))
noncomputable def f132_l0 (l : (List ByteArray))  : Nat → Int → Option Int
  | 0, _ => none
  | m0 + 1, i_0 =>
    (if (decide (i_0 < (((List.length l) : Nat) : Int))) then
     (Option.bind (Go.Pm.at? l i_0) fun x1 =>
     (Option.bind (Go.S.f100 x1) fun x2 =>
     (if (!x2) then
     (some (2 : Int))
    else (f132_l2 l i_0 (f132_l0 l m0) Go.Pm.loopMax (0 : Int)))))
    else (some (0 : Int)))
noncomputable def f132 (l : (List ByteArray)) : Option Int :=
  (if (decide ((20 : Int) < (((List.length l) : Nat) : Int))) then
   (some (3 : Int))
  else (f132_l0 l Go.Pm.loopMax (0 : Int)))
theorem f132_l2_ok {C : Go.Pm.Callee} {R : Recs} (hC : Go.Pm.Fix E isRec C) (hR : RecOk C R) {l : (List ByteArray)} {i_0 : Int} {m0 : Nat} {k0 : Int → Option Int} (hk0 : ∀ (z1 : Int), Go.Pm.lp (Go.Pm.machP E 132 C) [(Go.Pm.Fr.blk 0), (Go.Pm.Fr.seq 0 [1, 1, 1])] 0 [0, 0, 1, 0, 1, 1] m0 ⟨[Go.Pm.PV.lit (Go.Pm.rows (l)) Go.Pm.fl0, Go.Pm.PV.undef, Go.Pm.PV.undef, Go.Pm.PV.int Go.IntKind.i64 z1, Go.Pm.PV.undef, Go.Pm.PV.undef, Go.Pm.PV.undef, Go.Pm.PV.undef, Go.Pm.PV.undef, Go.Pm.PV.undef, Go.Pm.PV.undef, Go.Pm.PV.undef, Go.Pm.PV.undef, Go.Pm.PV.undef, Go.Pm.PV.undef, Go.Pm.PV.undef, Go.Pm.PV.undef, Go.Pm.PV.undef, Go.Pm.PV.undef, Go.Pm.PV.undef, Go.Pm.PV.undef, Go.Pm.PV.undef, Go.Pm.PV.undef, Go.Pm.PV.undef, Go.Pm.PV.undef, Go.Pm.PV.undef, Go.Pm.PV.undef, Go.Pm.PV.undef, Go.Pm.PV.undef, Go.Pm.PV.undef, Go.Pm.PV.undef, Go.Pm.PV.undef, Go.Pm.PV.undef, Go.Pm.PV.undef], [], 0⟩ = Option.map (fun r => Go.Pm.PV.int Go.IntKind.i64 r) (k0 z1)) :
    ∀ (m2 : Nat) (k_3 : Int) , Go.Pm.lp (Go.Pm.machP E 132 C) [(Go.Pm.Fr.blk 2), (Go.Pm.Fr.blk 1), (Go.Pm.Fr.seq 0 [1, 1, 0, 0, 1, 0, 1, 1]), (Go.Pm.Fr.loop 0 [0, 0, 1, 0, 1, 1] m0), (Go.Pm.Fr.blk 0), (Go.Pm.Fr.seq 0 [1, 1, 1])] 2 [0, 0, 1, 1, 0, 0, 1, 0, 0, 1, 0, 1, 1] m2 ⟨[Go.Pm.PV.lit (Go.Pm.rows (l)) Go.Pm.fl0, Go.Pm.PV.undef, Go.Pm.PV.undef, Go.Pm.PV.int Go.IntKind.i64 (i_0), Go.Pm.PV.int Go.IntKind.i64 k_3, Go.Pm.PV.undef, Go.Pm.PV.undef, Go.Pm.PV.undef, Go.Pm.PV.undef, Go.Pm.PV.undef, Go.Pm.PV.undef, Go.Pm.PV.undef, Go.Pm.PV.undef, Go.Pm.PV.undef, Go.Pm.PV.undef, Go.Pm.PV.undef, Go.Pm.PV.undef, Go.Pm.PV.undef, Go.Pm.PV.undef, Go.Pm.PV.undef, Go.Pm.PV.undef, Go.Pm.PV.undef, Go.Pm.PV.undef, Go.Pm.PV.undef, Go.Pm.PV.undef, Go.Pm.PV.undef, Go.Pm.PV.undef, Go.Pm.PV.undef, Go.Pm.PV.undef, Go.Pm.PV.undef, Go.Pm.PV.undef, Go.Pm.PV.undef, Go.Pm.PV.undef, Go.Pm.PV.undef], [], 0⟩ = Option.map (fun r => Go.Pm.PV.int Go.IntKind.i64 r) (f132_l2 l i_0 k0 m2 k_3) := by
  intro m2
  induction m2 with
  | zero => intros; rw [Go.Pm.lp_zero]; rfl
  | succ m2 ih =>
    intro k_3
    rw [Go.Pm.lp_succ]
    simp only [Go.Pm.W0, Go.Pm.W1, Go.Pm.W2, Go.Pm.W3, Go.Pm.W4, Go.Pm.W5, Go.Pm.W6, Go.Pm.W7, Go.Pm.W8, Go.Pm.W9, Go.Pm.Wc, WE, WT, WS, Nat.reduceAdd, Nat.reduceSub, Nat.reduceMul, Nat.reduceBEq, Nat.reduceLeDiff, Nat.reduceEqDiff, Nat.reduceLT, ↓reduceIte, nt132, co132, re132, rk132, Tryz.f132, kp132_0, kp132_2, pa132_11, ir100, rk100, f100_ok hC hR, f132_l2, ih, hk0]
theorem f132_l0_ok {C : Go.Pm.Callee} {R : Recs} (hC : Go.Pm.Fix E isRec C) (hR : RecOk C R) {l : (List ByteArray)}    :
    ∀ (m0 : Nat) (i_0 : Int) , Go.Pm.lp (Go.Pm.machP E 132 C) [(Go.Pm.Fr.blk 0), (Go.Pm.Fr.seq 0 [1, 1, 1])] 0 [0, 0, 1, 0, 1, 1] m0 ⟨[Go.Pm.PV.lit (Go.Pm.rows (l)) Go.Pm.fl0, Go.Pm.PV.undef, Go.Pm.PV.undef, Go.Pm.PV.int Go.IntKind.i64 i_0, Go.Pm.PV.undef, Go.Pm.PV.undef, Go.Pm.PV.undef, Go.Pm.PV.undef, Go.Pm.PV.undef, Go.Pm.PV.undef, Go.Pm.PV.undef, Go.Pm.PV.undef, Go.Pm.PV.undef, Go.Pm.PV.undef, Go.Pm.PV.undef, Go.Pm.PV.undef, Go.Pm.PV.undef, Go.Pm.PV.undef, Go.Pm.PV.undef, Go.Pm.PV.undef, Go.Pm.PV.undef, Go.Pm.PV.undef, Go.Pm.PV.undef, Go.Pm.PV.undef, Go.Pm.PV.undef, Go.Pm.PV.undef, Go.Pm.PV.undef, Go.Pm.PV.undef, Go.Pm.PV.undef, Go.Pm.PV.undef, Go.Pm.PV.undef, Go.Pm.PV.undef, Go.Pm.PV.undef, Go.Pm.PV.undef], [], 0⟩ = Option.map (fun r => Go.Pm.PV.int Go.IntKind.i64 r) (f132_l0 l m0 i_0) := by
  intro m0
  induction m0 with
  | zero => intros; rw [Go.Pm.lp_zero]; rfl
  | succ m0 ih =>
    intro i_0
    rw [Go.Pm.lp_succ]
    simp only [Go.Pm.W0, Go.Pm.W1, Go.Pm.W2, Go.Pm.W3, Go.Pm.W4, Go.Pm.W5, Go.Pm.W6, Go.Pm.W7, Go.Pm.W8, Go.Pm.W9, Go.Pm.Wc, WE, WT, WS, Nat.reduceAdd, Nat.reduceSub, Nat.reduceMul, Nat.reduceBEq, Nat.reduceLeDiff, Nat.reduceEqDiff, Nat.reduceLT, ↓reduceIte, nt132, co132, re132, rk132, Tryz.f132, kp132_0, kp132_2, pa132_11, ir100, rk100, f100_ok hC hR, f132_l0, ih, f132_l2_ok hC hR ih]
theorem f132_ok {C : Go.Pm.Callee} {R : Recs} (hC : Go.Pm.Fix E isRec C) (hR : RecOk C R) (l : (List ByteArray))  :
    C.pureC 132 [Go.Pm.PV.lit (Go.Pm.rows l) Go.Pm.fl0] = Option.map (fun r => Go.Pm.PV.int Go.IntKind.i64 r) (f132 l) := by
  rw [Go.Pm.fix_pure hC (fn := Tryz.f132) rfl _ rfl rfl rfl]
  simp only [Go.Pm.W0, Go.Pm.W1, Go.Pm.W2, Go.Pm.W3, Go.Pm.W4, Go.Pm.W5, Go.Pm.W6, Go.Pm.W7, Go.Pm.W8, Go.Pm.W9, Go.Pm.Wc, WE, WT, WS, Nat.reduceAdd, Nat.reduceSub, Nat.reduceMul, Nat.reduceBEq, Nat.reduceLeDiff, Nat.reduceEqDiff, Nat.reduceLT, ↓reduceIte, nt132, co132, re132, rk132, Tryz.f132, kp132_0, kp132_2, pa132_11, ir100, rk100, f100_ok hC hR, f132, f132_l0_ok hC hR]
/-! scarfjoint/scarfjointref04.attribute -/
noncomputable def f102 (a : Attr) : Option Int :=
  (if ((((List.length a.Names) : Nat) : Int) == (0 : Int)) then
   (Option.bind (Go.S.f92 a.Low (-(1000000 : Int)) (1000000 : Int)) fun x0 =>
   (if (!x0) then
   (some (6 : Int))
  else (Option.bind (Go.S.f92 a.High a.Low (1000000 : Int)) fun x1 =>
   (if (!x1) then
   (some (6 : Int))
  else (some (0 : Int))))))
  else (Option.bind (Go.S.f132 a.Names) fun x2 =>
   (if (!(x2 == (0 : Int))) then
   (some x2)
  else (if (!(a.Low == (0 : Int))) then
   (some (6 : Int))
  else (if (!(a.High == (Go.Pm.w64 ((((List.length a.Names) : Nat) : Int) - (1 : Int))))) then
   (some (6 : Int))
  else (some (0 : Int)))))))
theorem f102_ok {C : Go.Pm.Callee} {R : Recs} (hC : Go.Pm.Fix E isRec C) (hR : RecOk C R) (a_Name : ByteArray) (a_Low : Int) (a_High : Int) (a_Names : (List ByteArray))  :
    C.pureC 102 [Go.Pm.PV.agg [Go.Pm.PV.str a_Name, Go.Pm.PV.int Go.IntKind.i64 a_Low, Go.Pm.PV.int Go.IntKind.i64 a_High, Go.Pm.PV.lit (Go.Pm.rows a_Names) Go.Pm.fl0]] = Option.map (fun r => Go.Pm.PV.int Go.IntKind.i64 r) (f102 (Attr.mk a_Name a_Low a_High a_Names)) := by
  rw [Go.Pm.fix_pure hC (fn := Tryz.f102) rfl _ rfl rfl rfl]
  simp only [Go.Pm.W0, Go.Pm.W1, Go.Pm.W2, Go.Pm.W3, Go.Pm.W4, Go.Pm.W5, Go.Pm.W6, Go.Pm.W7, Go.Pm.W8, Go.Pm.W9, Go.Pm.Wc, WE, WT, WS, Nat.reduceAdd, Nat.reduceSub, Nat.reduceMul, Nat.reduceBEq, Nat.reduceLeDiff, Nat.reduceEqDiff, Nat.reduceLT, ↓reduceIte, nt102, co102, re102, rk102, Tryz.f102, ir92, rk92, ir132, rk132, f92_ok hC hR, f132_ok hC hR, f102]
/-! scarfjoint/scarfjointref04.node -/
noncomputable def f68_l4 (x5 : (List Go.S.Attr)) (k_6 : Int) (k2 : Int → Option Int) : Nat → Int → Option Int
  | 0, _ => none
  | m4 + 1, j_9 =>
    (if (decide (j_9 < k_6)) then
     (if ((decide ((0 : Int) ≤ j_9)) && (decide (j_9 < (((List.length x5) : Nat) : Int)))) then
     (Option.bind (x5[(Int.toNat j_9)]?) fun x10 =>
     (if ((decide ((0 : Int) ≤ k_6)) && (decide (k_6 < (((List.length x5) : Nat) : Int)))) then
     (Option.bind (x5[(Int.toNat k_6)]?) fun x11 =>
     (if (decide (x10.Name = x11.Name)) then
     (some (5 : Int))
    else (f68_l4 x5 k_6 k2 m4 (Go.Pm.w64 (j_9 + (1 : Int))))))
    else none))
    else none)
    else (if ((decide ((0 : Int) ≤ k_6)) && (decide (k_6 < (((List.length x5) : Nat) : Int)))) then
     (Option.bind (x5[(Int.toNat k_6)]?) fun x12 =>
     (Option.bind (Go.S.f102 x12) fun x13 =>
     (if (!(x13 == (0 : Int))) then
     (some x13)
    else (k2 (Go.Pm.w64 (k_6 + (1 : Int)))))))
    else none))
noncomputable def f68_l2 (x5 : (List Go.S.Attr))  : Nat → Int → Option Int
  | 0, _ => none
  | m2 + 1, k_6 =>
    (if (decide (k_6 < (((List.length x5) : Nat) : Int))) then
     (if ((decide ((0 : Int) ≤ k_6)) && (decide (k_6 < (((List.length x5) : Nat) : Int)))) then
     (Option.bind (x5[(Int.toNat k_6)]?) fun x7 =>
     (Option.bind (Go.S.f100 x7.Name) fun x8 =>
     (if (!x8) then
     (some (2 : Int))
    else (f68_l4 x5 k_6 (f68_l2 x5 m2) Go.Pm.loopMax (0 : Int)))))
    else none)
    else (some (0 : Int)))
noncomputable def f68_l0 (R : Recs) (t : Types) (i : Int) (x0 : Go.S.NodeType)  : Nat → Int → Option Int
  | 0, _ => none
  | m0 + 1, k_2 =>
    (if (decide (k_2 < i)) then
     (Option.bind (Go.Pm.at? t.Nodes k_2) fun x3 =>
     (if (decide (x3.Name = x0.Name)) then
     (some (5 : Int))
    else (f68_l0 R t i x0 m0 (Go.Pm.w64 (k_2 + (1 : Int))))))
    else (Option.bind (Go.S.f92 x0.Parent (-(1 : Int)) (Go.Pm.w64 (i - (1 : Int)))) fun x4 =>
     (if (!x4) then
     (some (6 : Int))
    else (Option.bind (Go.S.Recs.f101 R t i) fun x5 =>
     (if (decide ((4 : Int) < (((List.length x0.Attrs) : Nat) : Int))) then
     (some (3 : Int))
    else (if (decide ((8 : Int) < (((List.length x5) : Nat) : Int))) then
     (some (3 : Int))
    else (f68_l2 x5 Go.Pm.loopMax (Go.Pm.w64 ((((List.length x5) : Nat) : Int) - (((List.length x0.Attrs) : Nat) : Int))))))))))
noncomputable def f68 (R : Recs) (t : Types) (i : Int) : Option Int :=
  (Option.bind (Go.Pm.at? t.Nodes i) fun x0 =>
   (Option.bind (Go.S.f100 x0.Name) fun x1 =>
   (if (!x1) then
   (some (2 : Int))
  else (f68_l0 R t i x0 Go.Pm.loopMax (0 : Int)))))
theorem f68_l4_ok {C : Go.Pm.Callee} {R : Recs} (hC : Go.Pm.Fix E isRec C) (hR : RecOk C R) {x5 : (List Go.S.Attr)} {k_6 : Int} {m2 : Nat} {k2 : Int → Option Int} (hk2 : ∀ (z1 : Int), Go.Pm.lp (Go.Pm.machP E 68 C) [(Go.Pm.Fr.blk 2), (Go.Pm.Fr.seq 0 [1, 1, 1, 1, 1, 1, 1, 1])] 2 [0, 0, 1, 0, 1, 1, 1, 1, 1, 1, 1] m2 ⟨Go.Pm.PV.undef :: Go.Pm.PV.undef :: Go.Pm.PV.undef :: Go.Pm.PV.undef :: Go.Pm.PV.undef :: Go.Pm.PV.undef :: Go.Pm.PV.undef :: Go.Pm.PV.own 0 4 0 (List.length x5) :: Go.Pm.PV.int Go.IntKind.i64 z1 :: Go.Pm.PV.undef :: Go.Pm.PV.undef :: Go.Pm.PV.undef :: Go.Pm.PV.undef :: Go.Pm.PV.undef :: Go.Pm.PV.undef :: Go.Pm.PV.undef :: Go.Pm.PV.undef :: Go.Pm.PV.undef :: Go.Pm.PV.undef :: Go.Pm.PV.undef :: Go.Pm.PV.undef :: Go.Pm.PV.undef :: Go.Pm.PV.undef :: Go.Pm.PV.undef :: Go.Pm.PV.undef :: Go.Pm.PV.undef :: Go.Pm.PV.undef :: Go.Pm.PV.undef :: Go.Pm.PV.undef :: Go.Pm.PV.undef :: Go.Pm.PV.undef :: Go.Pm.PV.undef :: Go.Pm.PV.undef :: Go.Pm.PV.undef :: Go.Pm.PV.undef :: Go.Pm.PV.undef :: Go.Pm.PV.undef :: Go.Pm.PV.undef :: Go.Pm.PV.undef :: Go.Pm.PV.undef :: Go.Pm.PV.undef :: Go.Pm.PV.undef :: Go.Pm.PV.undef :: Go.Pm.PV.undef :: Go.Pm.PV.undef :: Go.Pm.PV.undef :: Go.Pm.PV.undef :: Go.Pm.PV.undef :: Go.Pm.PV.undef :: Go.Pm.PV.undef :: Go.Pm.PV.undef :: Go.Pm.PV.undef :: Go.Pm.PV.undef :: Go.Pm.PV.undef :: Go.Pm.PV.undef :: Go.Pm.PV.undef :: Go.Pm.PV.undef :: Go.Pm.PV.undef :: Go.Pm.PV.undef :: Go.Pm.PV.undef :: Go.Pm.PV.undef :: Go.Pm.PV.undef :: Go.Pm.PV.undef :: Go.Pm.PV.undef :: Go.Pm.PV.undef :: Go.Pm.PV.undef :: Go.Pm.PV.undef :: Go.Pm.PV.undef :: Go.Pm.PV.undef :: Go.Pm.PV.undef :: Go.Pm.PV.undef :: Go.Pm.PV.undef :: Go.Pm.PV.undef :: Go.Pm.PV.undef :: Go.Pm.PV.undef :: Go.Pm.PV.undef :: Go.Pm.PV.undef :: Go.Pm.PV.undef :: Go.Pm.PV.undef :: Go.Pm.PV.undef :: Go.Pm.PV.undef :: Go.Pm.PV.undef :: Go.Pm.PV.undef :: Go.Pm.PV.undef :: Go.Pm.PV.undef :: Go.Pm.PV.undef :: Go.Pm.PV.undef :: Go.Pm.PV.undef :: Go.Pm.PV.undef :: Go.Pm.PV.undef :: Go.Pm.PV.undef :: Go.Pm.PV.undef :: Go.Pm.PV.undef :: Go.Pm.PV.undef :: Go.Pm.PV.undef :: [], [(0, Go.Pm.PObj.arr 4 (Go.Pm.rows (x5)) Bool.false Bool.false)], 1⟩ = Option.map (fun r => Go.Pm.PV.int Go.IntKind.i64 r) (k2 z1)) :
    ∀ (m4 : Nat) (j_9 : Int) , Go.Pm.lp (Go.Pm.machP E 68 C) [(Go.Pm.Fr.blk 4), (Go.Pm.Fr.seq 3 [1, 1, 0, 0, 1, 0, 0, 1, 0, 1, 1, 1, 1, 1, 1, 1]), (Go.Pm.Fr.blk 3), (Go.Pm.Fr.seq 2 [1, 1, 0, 0, 1, 0, 1, 1, 1, 1, 1, 1, 1]), (Go.Pm.Fr.loop 2 [0, 0, 1, 0, 1, 1, 1, 1, 1, 1, 1] m2), (Go.Pm.Fr.blk 2), (Go.Pm.Fr.seq 0 [1, 1, 1, 1, 1, 1, 1, 1])] 4 [0, 0, 1, 0, 1, 0, 0, 1, 0, 0, 1, 0, 1, 1, 1, 1, 1, 1, 1] m4 ⟨Go.Pm.PV.undef :: Go.Pm.PV.undef :: Go.Pm.PV.undef :: Go.Pm.PV.undef :: Go.Pm.PV.undef :: Go.Pm.PV.undef :: Go.Pm.PV.undef :: Go.Pm.PV.own 0 4 0 (List.length x5) :: Go.Pm.PV.int Go.IntKind.i64 (k_6) :: Go.Pm.PV.int Go.IntKind.i64 j_9 :: Go.Pm.PV.undef :: Go.Pm.PV.undef :: Go.Pm.PV.undef :: Go.Pm.PV.undef :: Go.Pm.PV.undef :: Go.Pm.PV.undef :: Go.Pm.PV.undef :: Go.Pm.PV.undef :: Go.Pm.PV.undef :: Go.Pm.PV.undef :: Go.Pm.PV.undef :: Go.Pm.PV.undef :: Go.Pm.PV.undef :: Go.Pm.PV.undef :: Go.Pm.PV.undef :: Go.Pm.PV.undef :: Go.Pm.PV.undef :: Go.Pm.PV.undef :: Go.Pm.PV.undef :: Go.Pm.PV.undef :: Go.Pm.PV.undef :: Go.Pm.PV.undef :: Go.Pm.PV.undef :: Go.Pm.PV.undef :: Go.Pm.PV.undef :: Go.Pm.PV.undef :: Go.Pm.PV.undef :: Go.Pm.PV.undef :: Go.Pm.PV.undef :: Go.Pm.PV.undef :: Go.Pm.PV.undef :: Go.Pm.PV.undef :: Go.Pm.PV.undef :: Go.Pm.PV.undef :: Go.Pm.PV.undef :: Go.Pm.PV.undef :: Go.Pm.PV.undef :: Go.Pm.PV.undef :: Go.Pm.PV.undef :: Go.Pm.PV.undef :: Go.Pm.PV.undef :: Go.Pm.PV.undef :: Go.Pm.PV.undef :: Go.Pm.PV.undef :: Go.Pm.PV.undef :: Go.Pm.PV.undef :: Go.Pm.PV.undef :: Go.Pm.PV.undef :: Go.Pm.PV.undef :: Go.Pm.PV.undef :: Go.Pm.PV.undef :: Go.Pm.PV.undef :: Go.Pm.PV.undef :: Go.Pm.PV.undef :: Go.Pm.PV.undef :: Go.Pm.PV.undef :: Go.Pm.PV.undef :: Go.Pm.PV.undef :: Go.Pm.PV.undef :: Go.Pm.PV.undef :: Go.Pm.PV.undef :: Go.Pm.PV.undef :: Go.Pm.PV.undef :: Go.Pm.PV.undef :: Go.Pm.PV.undef :: Go.Pm.PV.undef :: Go.Pm.PV.undef :: Go.Pm.PV.undef :: Go.Pm.PV.undef :: Go.Pm.PV.undef :: Go.Pm.PV.undef :: Go.Pm.PV.undef :: Go.Pm.PV.undef :: Go.Pm.PV.undef :: Go.Pm.PV.undef :: Go.Pm.PV.undef :: Go.Pm.PV.undef :: Go.Pm.PV.undef :: Go.Pm.PV.undef :: Go.Pm.PV.undef :: Go.Pm.PV.undef :: Go.Pm.PV.undef :: Go.Pm.PV.undef :: Go.Pm.PV.undef :: Go.Pm.PV.undef :: [], [(0, Go.Pm.PObj.arr 4 (Go.Pm.rows (x5)) Bool.false Bool.false)], 1⟩ = Option.map (fun r => Go.Pm.PV.int Go.IntKind.i64 r) (f68_l4 x5 k_6 k2 m4 j_9) := by
  intro m4
  induction m4 with
  | zero => intros; rw [Go.Pm.lp_zero]; rfl
  | succ m4 ih =>
    intro j_9
    rw [Go.Pm.lp_succ]
    simp only [Go.Pm.W0, Go.Pm.W1, Go.Pm.W2, Go.Pm.W3, Go.Pm.W4, Go.Pm.W5, Go.Pm.W6, Go.Pm.W7, Go.Pm.W8, Go.Pm.W9, Go.Pm.Wc, WE, WT, WS, Nat.reduceAdd, Nat.reduceSub, Nat.reduceMul, Nat.reduceBEq, Nat.reduceLeDiff, Nat.reduceEqDiff, Nat.reduceLT, ↓reduceIte, nt68, co68, re68, rk68, Tryz.f68, kp68_0, kp68_2, kp68_4, pa68_7, pa68_22, ir92, rk92, ir100, rk100, ir101, rk101, ir102, rk102, hR.f101, f100_ok hC hR, f92_ok hC hR, f102_ok hC hR, f68_l4, ih, hk2]
theorem f68_l2_ok {C : Go.Pm.Callee} {R : Recs} (hC : Go.Pm.Fix E isRec C) (hR : RecOk C R) {x5 : (List Go.S.Attr)}    :
    ∀ (m2 : Nat) (k_6 : Int) , Go.Pm.lp (Go.Pm.machP E 68 C) [(Go.Pm.Fr.blk 2), (Go.Pm.Fr.seq 0 [1, 1, 1, 1, 1, 1, 1, 1])] 2 [0, 0, 1, 0, 1, 1, 1, 1, 1, 1, 1] m2 ⟨Go.Pm.PV.undef :: Go.Pm.PV.undef :: Go.Pm.PV.undef :: Go.Pm.PV.undef :: Go.Pm.PV.undef :: Go.Pm.PV.undef :: Go.Pm.PV.undef :: Go.Pm.PV.own 0 4 0 (List.length x5) :: Go.Pm.PV.int Go.IntKind.i64 k_6 :: Go.Pm.PV.undef :: Go.Pm.PV.undef :: Go.Pm.PV.undef :: Go.Pm.PV.undef :: Go.Pm.PV.undef :: Go.Pm.PV.undef :: Go.Pm.PV.undef :: Go.Pm.PV.undef :: Go.Pm.PV.undef :: Go.Pm.PV.undef :: Go.Pm.PV.undef :: Go.Pm.PV.undef :: Go.Pm.PV.undef :: Go.Pm.PV.undef :: Go.Pm.PV.undef :: Go.Pm.PV.undef :: Go.Pm.PV.undef :: Go.Pm.PV.undef :: Go.Pm.PV.undef :: Go.Pm.PV.undef :: Go.Pm.PV.undef :: Go.Pm.PV.undef :: Go.Pm.PV.undef :: Go.Pm.PV.undef :: Go.Pm.PV.undef :: Go.Pm.PV.undef :: Go.Pm.PV.undef :: Go.Pm.PV.undef :: Go.Pm.PV.undef :: Go.Pm.PV.undef :: Go.Pm.PV.undef :: Go.Pm.PV.undef :: Go.Pm.PV.undef :: Go.Pm.PV.undef :: Go.Pm.PV.undef :: Go.Pm.PV.undef :: Go.Pm.PV.undef :: Go.Pm.PV.undef :: Go.Pm.PV.undef :: Go.Pm.PV.undef :: Go.Pm.PV.undef :: Go.Pm.PV.undef :: Go.Pm.PV.undef :: Go.Pm.PV.undef :: Go.Pm.PV.undef :: Go.Pm.PV.undef :: Go.Pm.PV.undef :: Go.Pm.PV.undef :: Go.Pm.PV.undef :: Go.Pm.PV.undef :: Go.Pm.PV.undef :: Go.Pm.PV.undef :: Go.Pm.PV.undef :: Go.Pm.PV.undef :: Go.Pm.PV.undef :: Go.Pm.PV.undef :: Go.Pm.PV.undef :: Go.Pm.PV.undef :: Go.Pm.PV.undef :: Go.Pm.PV.undef :: Go.Pm.PV.undef :: Go.Pm.PV.undef :: Go.Pm.PV.undef :: Go.Pm.PV.undef :: Go.Pm.PV.undef :: Go.Pm.PV.undef :: Go.Pm.PV.undef :: Go.Pm.PV.undef :: Go.Pm.PV.undef :: Go.Pm.PV.undef :: Go.Pm.PV.undef :: Go.Pm.PV.undef :: Go.Pm.PV.undef :: Go.Pm.PV.undef :: Go.Pm.PV.undef :: Go.Pm.PV.undef :: Go.Pm.PV.undef :: Go.Pm.PV.undef :: Go.Pm.PV.undef :: Go.Pm.PV.undef :: Go.Pm.PV.undef :: Go.Pm.PV.undef :: Go.Pm.PV.undef :: Go.Pm.PV.undef :: Go.Pm.PV.undef :: Go.Pm.PV.undef :: [], [(0, Go.Pm.PObj.arr 4 (Go.Pm.rows (x5)) Bool.false Bool.false)], 1⟩ = Option.map (fun r => Go.Pm.PV.int Go.IntKind.i64 r) (f68_l2 x5 m2 k_6) := by
  intro m2
  induction m2 with
  | zero => intros; rw [Go.Pm.lp_zero]; rfl
  | succ m2 ih =>
    intro k_6
    rw [Go.Pm.lp_succ]
    simp only [Go.Pm.W0, Go.Pm.W1, Go.Pm.W2, Go.Pm.W3, Go.Pm.W4, Go.Pm.W5, Go.Pm.W6, Go.Pm.W7, Go.Pm.W8, Go.Pm.W9, Go.Pm.Wc, WE, WT, WS, Nat.reduceAdd, Nat.reduceSub, Nat.reduceMul, Nat.reduceBEq, Nat.reduceLeDiff, Nat.reduceEqDiff, Nat.reduceLT, ↓reduceIte, nt68, co68, re68, rk68, Tryz.f68, kp68_0, kp68_2, kp68_4, pa68_7, pa68_22, ir92, rk92, ir100, rk100, ir101, rk101, ir102, rk102, hR.f101, f100_ok hC hR, f92_ok hC hR, f102_ok hC hR, f68_l2, ih, f68_l4_ok hC hR ih]
theorem f68_l0_ok {C : Go.Pm.Callee} {R : Recs} (hC : Go.Pm.Fix E isRec C) (hR : RecOk C R) {t_Nodes : (List NodeType)} {t_Edges : (List EdgeType)} {i : Int} {x0 : Go.S.NodeType}    :
    ∀ (m0 : Nat) (k_2 : Int) , Go.Pm.lp (Go.Pm.machP E 68 C) [(Go.Pm.Fr.blk 0), (Go.Pm.Fr.seq 0 [1, 1, 1, 1])] 0 [0, 0, 1, 0, 1, 1, 1] m0 ⟨Go.Pm.PV.undef :: Go.Pm.PV.int Go.IntKind.i64 (i) :: (Go.Pm.PV.ptr 0 0) :: Go.Pm.PV.undef :: Go.Pm.PV.undef :: (Go.Pm.PV.ptr 1 0) :: Go.Pm.PV.int Go.IntKind.i64 k_2 :: Go.Pm.PV.undef :: Go.Pm.PV.undef :: Go.Pm.PV.undef :: Go.Pm.PV.undef :: Go.Pm.PV.undef :: Go.Pm.PV.undef :: Go.Pm.PV.undef :: Go.Pm.PV.undef :: Go.Pm.PV.undef :: Go.Pm.PV.undef :: Go.Pm.PV.undef :: Go.Pm.PV.undef :: Go.Pm.PV.undef :: Go.Pm.PV.undef :: Go.Pm.PV.undef :: Go.Pm.PV.undef :: Go.Pm.PV.undef :: Go.Pm.PV.undef :: Go.Pm.PV.undef :: Go.Pm.PV.undef :: Go.Pm.PV.undef :: Go.Pm.PV.undef :: Go.Pm.PV.undef :: Go.Pm.PV.undef :: Go.Pm.PV.undef :: Go.Pm.PV.undef :: Go.Pm.PV.undef :: Go.Pm.PV.undef :: Go.Pm.PV.undef :: Go.Pm.PV.undef :: Go.Pm.PV.undef :: Go.Pm.PV.undef :: Go.Pm.PV.undef :: Go.Pm.PV.undef :: Go.Pm.PV.undef :: Go.Pm.PV.undef :: Go.Pm.PV.undef :: Go.Pm.PV.undef :: Go.Pm.PV.undef :: Go.Pm.PV.undef :: Go.Pm.PV.undef :: Go.Pm.PV.undef :: Go.Pm.PV.undef :: Go.Pm.PV.undef :: Go.Pm.PV.undef :: Go.Pm.PV.undef :: Go.Pm.PV.undef :: Go.Pm.PV.undef :: Go.Pm.PV.undef :: Go.Pm.PV.undef :: Go.Pm.PV.undef :: Go.Pm.PV.undef :: Go.Pm.PV.undef :: Go.Pm.PV.undef :: Go.Pm.PV.undef :: Go.Pm.PV.undef :: Go.Pm.PV.undef :: Go.Pm.PV.undef :: Go.Pm.PV.undef :: Go.Pm.PV.undef :: Go.Pm.PV.undef :: Go.Pm.PV.undef :: Go.Pm.PV.undef :: Go.Pm.PV.undef :: Go.Pm.PV.undef :: Go.Pm.PV.undef :: Go.Pm.PV.undef :: Go.Pm.PV.undef :: Go.Pm.PV.undef :: Go.Pm.PV.undef :: Go.Pm.PV.undef :: Go.Pm.PV.undef :: Go.Pm.PV.undef :: Go.Pm.PV.undef :: Go.Pm.PV.undef :: Go.Pm.PV.undef :: Go.Pm.PV.undef :: Go.Pm.PV.undef :: Go.Pm.PV.undef :: Go.Pm.PV.undef :: Go.Pm.PV.undef :: Go.Pm.PV.undef :: Go.Pm.PV.undef :: Go.Pm.PV.undef :: Go.Pm.PV.undef :: Go.Pm.PV.undef :: Go.Pm.PV.undef :: Go.Pm.PV.undef :: [], [(0, Go.Pm.PObj.box [Go.Pm.PV.lit (Go.Pm.rows (t_Nodes)) Go.Pm.fl0, Go.Pm.PV.lit (Go.Pm.rows (t_Edges)) Go.Pm.fl0]), (1, Go.Pm.PObj.box [Go.Pm.PV.str (x0.Name), Go.Pm.PV.int Go.IntKind.i64 (x0.Parent), Go.Pm.PV.bool (x0.Abstract), Go.Pm.PV.lit (Go.Pm.rows (x0.Attrs)) (Go.Pm.Fl.mk Bool.false Bool.false)])], 2⟩ = Option.map (fun r => Go.Pm.PV.int Go.IntKind.i64 r) (f68_l0 R (Types.mk t_Nodes t_Edges) i x0 m0 k_2) := by
  intro m0
  induction m0 with
  | zero => intros; rw [Go.Pm.lp_zero]; rfl
  | succ m0 ih =>
    intro k_2
    rw [Go.Pm.lp_succ]
    simp only [Go.Pm.W0, Go.Pm.W1, Go.Pm.W2, Go.Pm.W3, Go.Pm.W4, Go.Pm.W5, Go.Pm.W6, Go.Pm.W7, Go.Pm.W8, Go.Pm.W9, Go.Pm.Wc, WE, WT, WS, Nat.reduceAdd, Nat.reduceSub, Nat.reduceMul, Nat.reduceBEq, Nat.reduceLeDiff, Nat.reduceEqDiff, Nat.reduceLT, ↓reduceIte, nt68, co68, re68, rk68, Tryz.f68, kp68_0, kp68_2, kp68_4, pa68_7, pa68_22, ir92, rk92, ir100, rk100, ir101, rk101, ir102, rk102, hR.f101, f100_ok hC hR, f92_ok hC hR, f102_ok hC hR, f68_l0, ih, f68_l2_ok hC hR]
theorem f68_ok {C : Go.Pm.Callee} {R : Recs} (hC : Go.Pm.Fix E isRec C) (hR : RecOk C R) (t_Nodes : (List NodeType)) (t_Edges : (List EdgeType)) (i : Int)  :
    C.pureC 68 [Go.Pm.PV.agg [Go.Pm.PV.lit (Go.Pm.rows t_Nodes) Go.Pm.fl0, Go.Pm.PV.lit (Go.Pm.rows t_Edges) Go.Pm.fl0], Go.Pm.PV.int Go.IntKind.i64 i] = Option.map (fun r => Go.Pm.PV.int Go.IntKind.i64 r) (f68 R (Types.mk t_Nodes t_Edges) i) := by
  rw [Go.Pm.fix_pure hC (fn := Tryz.f68) rfl _ rfl rfl rfl]
  simp only [Go.Pm.W0, Go.Pm.W1, Go.Pm.W2, Go.Pm.W3, Go.Pm.W4, Go.Pm.W5, Go.Pm.W6, Go.Pm.W7, Go.Pm.W8, Go.Pm.W9, Go.Pm.Wc, WE, WT, WS, Nat.reduceAdd, Nat.reduceSub, Nat.reduceMul, Nat.reduceBEq, Nat.reduceLeDiff, Nat.reduceEqDiff, Nat.reduceLT, ↓reduceIte, nt68, co68, re68, rk68, Tryz.f68, kp68_0, kp68_2, kp68_4, pa68_7, pa68_22, ir92, rk92, ir100, rk100, ir101, rk101, ir102, rk102, hR.f101, f100_ok hC hR, f92_ok hC hR, f102_ok hC hR, f68, f68_l0_ok hC hR]
/-! scarfjoint/scarfjointref04.bound -/
noncomputable def f103 (low : Int) (high : Int) : Option Bool :=
  (Option.bind (Go.S.f92 low (0 : Int) (40 : Int)) fun x0 =>
   (if x0 then
   (if (high == (-(1 : Int))) then
   (some Bool.true)
  else (Option.bind (Go.S.f92 high low (40 : Int)) fun x1 =>
   (some x1)))
  else (some Bool.false)))
theorem f103_ok {C : Go.Pm.Callee} {R : Recs} (hC : Go.Pm.Fix E isRec C) (hR : RecOk C R) (low : Int) (high : Int)  :
    C.pureC 103 [Go.Pm.PV.int Go.IntKind.i64 low, Go.Pm.PV.int Go.IntKind.i64 high] = Option.map (fun r => Go.Pm.PV.bool r) (f103 low high) := by
  rw [Go.Pm.fix_pure hC (fn := Tryz.f103) rfl _ rfl rfl rfl]
  simp only [Go.Pm.W0, Go.Pm.W1, Go.Pm.W2, Go.Pm.W3, Go.Pm.W4, Go.Pm.W5, Go.Pm.W6, Go.Pm.W7, Go.Pm.W8, Go.Pm.W9, Go.Pm.Wc, WE, WT, WS, Nat.reduceAdd, Nat.reduceSub, Nat.reduceMul, Nat.reduceBEq, Nat.reduceLeDiff, Nat.reduceEqDiff, Nat.reduceLT, ↓reduceIte, nt103, co103, re103, rk103, Tryz.f103, ir92, rk92, f92_ok hC hR, f103]
/-! scarfjoint/scarfjointref04.edge -/
noncomputable def f69_l0 (t : Types) (i : Int) (x0 : Go.S.EdgeType)  : Nat → Int → Option Int
  | 0, _ => none
  | m0 + 1, k_2 =>
    (if (decide (k_2 < i)) then
     (Option.bind (Go.Pm.at? t.Edges k_2) fun x3 =>
     (if (decide (x3.Name = x0.Name)) then
     (some (5 : Int))
    else (f69_l0 t i x0 m0 (Go.Pm.w64 (k_2 + (1 : Int))))))
    else (Option.bind (Go.S.f92 x0.From (0 : Int) (Go.Pm.w64 ((((List.length t.Nodes) : Nat) : Int) - (1 : Int)))) fun x4 =>
     (if (!x4) then
     (some (6 : Int))
    else (Option.bind (Go.S.f92 x0.To (0 : Int) (Go.Pm.w64 ((((List.length t.Nodes) : Nat) : Int) - (1 : Int)))) fun x5 =>
     (if (!x5) then
     (some (6 : Int))
    else (Option.bind (Go.S.f103 x0.OutLow x0.OutHigh) fun x6 =>
     (if (!x6) then
     (some (6 : Int))
    else (Option.bind (Go.S.f103 x0.InLow x0.InHigh) fun x7 =>
     (if (!x7) then
     (some (6 : Int))
    else (some (0 : Int)))))))))))
noncomputable def f69 (t : Types) (i : Int) : Option Int :=
  (Option.bind (Go.Pm.at? t.Edges i) fun x0 =>
   (Option.bind (Go.S.f100 x0.Name) fun x1 =>
   (if (!x1) then
   (some (2 : Int))
  else (f69_l0 t i x0 Go.Pm.loopMax (0 : Int)))))
theorem f69_l0_ok {C : Go.Pm.Callee} {R : Recs} (hC : Go.Pm.Fix E isRec C) (hR : RecOk C R) {t_Nodes : (List NodeType)} {t_Edges : (List EdgeType)} {i : Int} {x0 : Go.S.EdgeType}    :
    ∀ (m0 : Nat) (k_2 : Int) , Go.Pm.lp (Go.Pm.machP E 69 C) [(Go.Pm.Fr.blk 0), (Go.Pm.Fr.seq 0 [1, 1, 1, 1])] 0 [0, 0, 1, 0, 1, 1, 1] m0 ⟨Go.Pm.PV.undef :: Go.Pm.PV.int Go.IntKind.i64 (i) :: (Go.Pm.PV.ptr 0 0) :: Go.Pm.PV.undef :: Go.Pm.PV.undef :: (Go.Pm.PV.ptr 1 0) :: Go.Pm.PV.int Go.IntKind.i64 k_2 :: Go.Pm.PV.undef :: Go.Pm.PV.undef :: Go.Pm.PV.undef :: Go.Pm.PV.undef :: Go.Pm.PV.undef :: Go.Pm.PV.undef :: Go.Pm.PV.undef :: Go.Pm.PV.undef :: Go.Pm.PV.undef :: Go.Pm.PV.undef :: Go.Pm.PV.undef :: Go.Pm.PV.undef :: Go.Pm.PV.undef :: Go.Pm.PV.undef :: Go.Pm.PV.undef :: Go.Pm.PV.undef :: Go.Pm.PV.undef :: Go.Pm.PV.undef :: Go.Pm.PV.undef :: Go.Pm.PV.undef :: Go.Pm.PV.undef :: Go.Pm.PV.undef :: Go.Pm.PV.undef :: Go.Pm.PV.undef :: Go.Pm.PV.undef :: Go.Pm.PV.undef :: Go.Pm.PV.undef :: Go.Pm.PV.undef :: Go.Pm.PV.undef :: Go.Pm.PV.undef :: Go.Pm.PV.undef :: Go.Pm.PV.undef :: Go.Pm.PV.undef :: Go.Pm.PV.undef :: Go.Pm.PV.undef :: Go.Pm.PV.undef :: Go.Pm.PV.undef :: Go.Pm.PV.undef :: Go.Pm.PV.undef :: Go.Pm.PV.undef :: Go.Pm.PV.undef :: Go.Pm.PV.undef :: Go.Pm.PV.undef :: Go.Pm.PV.undef :: Go.Pm.PV.undef :: Go.Pm.PV.undef :: Go.Pm.PV.undef :: Go.Pm.PV.undef :: Go.Pm.PV.undef :: Go.Pm.PV.undef :: Go.Pm.PV.undef :: Go.Pm.PV.undef :: Go.Pm.PV.undef :: Go.Pm.PV.undef :: Go.Pm.PV.undef :: Go.Pm.PV.undef :: [], [(0, Go.Pm.PObj.box [Go.Pm.PV.lit (Go.Pm.rows (t_Nodes)) Go.Pm.fl0, Go.Pm.PV.lit (Go.Pm.rows (t_Edges)) Go.Pm.fl0]), (1, Go.Pm.PObj.box [Go.Pm.PV.str (x0.Name), Go.Pm.PV.int Go.IntKind.i64 (x0.From), Go.Pm.PV.int Go.IntKind.i64 (x0.To), Go.Pm.PV.int Go.IntKind.i64 (x0.OutLow), Go.Pm.PV.int Go.IntKind.i64 (x0.OutHigh), Go.Pm.PV.int Go.IntKind.i64 (x0.InLow), Go.Pm.PV.int Go.IntKind.i64 (x0.InHigh)])], 2⟩ = Option.map (fun r => Go.Pm.PV.int Go.IntKind.i64 r) (f69_l0 (Types.mk t_Nodes t_Edges) i x0 m0 k_2) := by
  intro m0
  induction m0 with
  | zero => intros; rw [Go.Pm.lp_zero]; rfl
  | succ m0 ih =>
    intro k_2
    rw [Go.Pm.lp_succ]
    simp only [Go.Pm.W0, Go.Pm.W1, Go.Pm.W2, Go.Pm.W3, Go.Pm.W4, Go.Pm.W5, Go.Pm.W6, Go.Pm.W7, Go.Pm.W8, Go.Pm.W9, Go.Pm.Wc, WE, WT, WS, Nat.reduceAdd, Nat.reduceSub, Nat.reduceMul, Nat.reduceBEq, Nat.reduceLeDiff, Nat.reduceEqDiff, Nat.reduceLT, ↓reduceIte, nt69, co69, re69, rk69, Tryz.f69, kp69_0, pa69_7, ir92, rk92, ir100, rk100, ir103, rk103, f92_ok hC hR, f100_ok hC hR, f103_ok hC hR, f69_l0, ih]
theorem f69_ok {C : Go.Pm.Callee} {R : Recs} (hC : Go.Pm.Fix E isRec C) (hR : RecOk C R) (t_Nodes : (List NodeType)) (t_Edges : (List EdgeType)) (i : Int)  :
    C.pureC 69 [Go.Pm.PV.agg [Go.Pm.PV.lit (Go.Pm.rows t_Nodes) Go.Pm.fl0, Go.Pm.PV.lit (Go.Pm.rows t_Edges) Go.Pm.fl0], Go.Pm.PV.int Go.IntKind.i64 i] = Option.map (fun r => Go.Pm.PV.int Go.IntKind.i64 r) (f69 (Types.mk t_Nodes t_Edges) i) := by
  rw [Go.Pm.fix_pure hC (fn := Tryz.f69) rfl _ rfl rfl rfl]
  simp only [Go.Pm.W0, Go.Pm.W1, Go.Pm.W2, Go.Pm.W3, Go.Pm.W4, Go.Pm.W5, Go.Pm.W6, Go.Pm.W7, Go.Pm.W8, Go.Pm.W9, Go.Pm.Wc, WE, WT, WS, Nat.reduceAdd, Nat.reduceSub, Nat.reduceMul, Nat.reduceBEq, Nat.reduceLeDiff, Nat.reduceEqDiff, Nat.reduceLT, ↓reduceIte, nt69, co69, re69, rk69, Tryz.f69, kp69_0, pa69_7, ir92, rk92, ir100, rk100, ir103, rk103, f92_ok hC hR, f100_ok hC hR, f103_ok hC hR, f69, f69_l0_ok hC hR]
/-! scarfjoint/scarfjointref04.Valid -/
noncomputable def f44_l2 (t : Types)  : Nat → Int → Option (ByteArray × Int)
  | 0, _ => none
  | m2 + 1, i_3 =>
    (if (decide (i_3 < (((List.length t.Edges) : Nat) : Int))) then
     (Option.bind (Go.S.f69 t i_3) fun x4 =>
     (if (!(x4 == (0 : Int))) then
     (Option.bind (Go.Pm.at? t.Edges i_3) fun x5 =>
     (some (x5.Name, x4)))
    else (f44_l2 t m2 (Go.Pm.w64 (i_3 + (1 : Int))))))
    else (some ((ByteArray.mk (List.toArray [])), (0 : Int))))
noncomputable def f44_l0 (R : Recs) (t : Types)  : Nat → Int → Option (ByteArray × Int)
  | 0, _ => none
  | m0 + 1, i_0 =>
    (if (decide (i_0 < (((List.length t.Nodes) : Nat) : Int))) then
     (Option.bind (Go.S.f68 R t i_0) fun x1 =>
     (if (!(x1 == (0 : Int))) then
     (Option.bind (Go.Pm.at? t.Nodes i_0) fun x2 =>
     (some (x2.Name, x1)))
    else (f44_l0 R t m0 (Go.Pm.w64 (i_0 + (1 : Int))))))
    else (f44_l2 t Go.Pm.loopMax (0 : Int)))
noncomputable def f44 (R : Recs) (t : Types) : Option (ByteArray × Int) :=
  (if ((((List.length t.Nodes) : Nat) : Int) == (0 : Int)) then
   (some ((ByteArray.mk (List.toArray [])), (7 : Int)))
  else (if (decide ((12 : Int) < (((List.length t.Nodes) : Nat) : Int))) then
   (some ((ByteArray.mk (List.toArray [])), (3 : Int)))
  else (if (decide ((20 : Int) < (((List.length t.Edges) : Nat) : Int))) then
   (some ((ByteArray.mk (List.toArray [])), (3 : Int)))
  else (f44_l0 R t Go.Pm.loopMax (0 : Int)))))
theorem f44_l2_ok {C : Go.Pm.Callee} {R : Recs} (hC : Go.Pm.Fix E isRec C) (hR : RecOk C R) {t_Nodes : (List NodeType)} {t_Edges : (List EdgeType)}    :
    ∀ (m2 : Nat) (i_3 : Int) , Go.Pm.lp (Go.Pm.machP E 44 C) [(Go.Pm.Fr.blk 2), (Go.Pm.Fr.seq 0 [1, 1, 1, 1, 1])] 2 [0, 0, 1, 0, 1, 1, 1, 1] m2 ⟨[Go.Pm.PV.undef, (Go.Pm.PV.ptr 0 0), Go.Pm.PV.undef, Go.Pm.PV.undef, Go.Pm.PV.undef, Go.Pm.PV.undef, Go.Pm.PV.int Go.IntKind.i64 i_3, Go.Pm.PV.undef, Go.Pm.PV.undef, Go.Pm.PV.undef, Go.Pm.PV.undef, Go.Pm.PV.undef, Go.Pm.PV.undef, Go.Pm.PV.undef, Go.Pm.PV.undef, Go.Pm.PV.undef, Go.Pm.PV.undef, Go.Pm.PV.undef, Go.Pm.PV.undef, Go.Pm.PV.undef, Go.Pm.PV.undef, Go.Pm.PV.undef, Go.Pm.PV.undef, Go.Pm.PV.undef, Go.Pm.PV.undef, Go.Pm.PV.undef, Go.Pm.PV.undef, Go.Pm.PV.undef, Go.Pm.PV.undef, Go.Pm.PV.undef, Go.Pm.PV.undef, Go.Pm.PV.undef, Go.Pm.PV.undef, Go.Pm.PV.undef, Go.Pm.PV.undef, Go.Pm.PV.undef, Go.Pm.PV.undef, Go.Pm.PV.undef, Go.Pm.PV.undef, Go.Pm.PV.undef, Go.Pm.PV.undef, Go.Pm.PV.undef, Go.Pm.PV.undef, Go.Pm.PV.undef, Go.Pm.PV.undef, Go.Pm.PV.undef, Go.Pm.PV.undef, Go.Pm.PV.undef, Go.Pm.PV.undef, Go.Pm.PV.undef, Go.Pm.PV.undef, Go.Pm.PV.undef, Go.Pm.PV.undef, Go.Pm.PV.undef, Go.Pm.PV.undef, Go.Pm.PV.undef, Go.Pm.PV.undef, Go.Pm.PV.undef, Go.Pm.PV.undef, Go.Pm.PV.undef], [(0, Go.Pm.PObj.box [Go.Pm.PV.lit (Go.Pm.rows (t_Nodes)) Go.Pm.fl0, Go.Pm.PV.lit (Go.Pm.rows (t_Edges)) Go.Pm.fl0])], 1⟩ = Option.map (fun r => Go.Pm.PV.tup [Go.Pm.PV.str r.1, Go.Pm.PV.int Go.IntKind.i64 r.2]) (f44_l2 (Types.mk t_Nodes t_Edges) m2 i_3) := by
  intro m2
  induction m2 with
  | zero => intros; rw [Go.Pm.lp_zero]; rfl
  | succ m2 ih =>
    intro i_3
    rw [Go.Pm.lp_succ]
    simp only [Go.Pm.W0, Go.Pm.W1, Go.Pm.W2, Go.Pm.W3, Go.Pm.W4, Go.Pm.W5, Go.Pm.W6, Go.Pm.W7, Go.Pm.W8, Go.Pm.W9, Go.Pm.Wc, WE, WT, WS, Nat.reduceAdd, Nat.reduceSub, Nat.reduceMul, Nat.reduceBEq, Nat.reduceLeDiff, Nat.reduceEqDiff, Nat.reduceLT, ↓reduceIte, nt44, co44, re44, rk44, Tryz.f44, kp44_0, kp44_2, ir68, rk68, ir69, rk69, f68_ok hC hR, f69_ok hC hR, f44_l2, ih]
theorem f44_l0_ok {C : Go.Pm.Callee} {R : Recs} (hC : Go.Pm.Fix E isRec C) (hR : RecOk C R) {t_Nodes : (List NodeType)} {t_Edges : (List EdgeType)}    :
    ∀ (m0 : Nat) (i_0 : Int) , Go.Pm.lp (Go.Pm.machP E 44 C) [(Go.Pm.Fr.blk 0), (Go.Pm.Fr.seq 0 [1, 1, 1, 1])] 0 [0, 0, 1, 0, 1, 1, 1] m0 ⟨[Go.Pm.PV.undef, (Go.Pm.PV.ptr 0 0), Go.Pm.PV.undef, Go.Pm.PV.undef, Go.Pm.PV.int Go.IntKind.i64 i_0, Go.Pm.PV.undef, Go.Pm.PV.undef, Go.Pm.PV.undef, Go.Pm.PV.undef, Go.Pm.PV.undef, Go.Pm.PV.undef, Go.Pm.PV.undef, Go.Pm.PV.undef, Go.Pm.PV.undef, Go.Pm.PV.undef, Go.Pm.PV.undef, Go.Pm.PV.undef, Go.Pm.PV.undef, Go.Pm.PV.undef, Go.Pm.PV.undef, Go.Pm.PV.undef, Go.Pm.PV.undef, Go.Pm.PV.undef, Go.Pm.PV.undef, Go.Pm.PV.undef, Go.Pm.PV.undef, Go.Pm.PV.undef, Go.Pm.PV.undef, Go.Pm.PV.undef, Go.Pm.PV.undef, Go.Pm.PV.undef, Go.Pm.PV.undef, Go.Pm.PV.undef, Go.Pm.PV.undef, Go.Pm.PV.undef, Go.Pm.PV.undef, Go.Pm.PV.undef, Go.Pm.PV.undef, Go.Pm.PV.undef, Go.Pm.PV.undef, Go.Pm.PV.undef, Go.Pm.PV.undef, Go.Pm.PV.undef, Go.Pm.PV.undef, Go.Pm.PV.undef, Go.Pm.PV.undef, Go.Pm.PV.undef, Go.Pm.PV.undef, Go.Pm.PV.undef, Go.Pm.PV.undef, Go.Pm.PV.undef, Go.Pm.PV.undef, Go.Pm.PV.undef, Go.Pm.PV.undef, Go.Pm.PV.undef, Go.Pm.PV.undef, Go.Pm.PV.undef, Go.Pm.PV.undef, Go.Pm.PV.undef, Go.Pm.PV.undef], [(0, Go.Pm.PObj.box [Go.Pm.PV.lit (Go.Pm.rows (t_Nodes)) Go.Pm.fl0, Go.Pm.PV.lit (Go.Pm.rows (t_Edges)) Go.Pm.fl0])], 1⟩ = Option.map (fun r => Go.Pm.PV.tup [Go.Pm.PV.str r.1, Go.Pm.PV.int Go.IntKind.i64 r.2]) (f44_l0 R (Types.mk t_Nodes t_Edges) m0 i_0) := by
  intro m0
  induction m0 with
  | zero => intros; rw [Go.Pm.lp_zero]; rfl
  | succ m0 ih =>
    intro i_0
    rw [Go.Pm.lp_succ]
    simp only [Go.Pm.W0, Go.Pm.W1, Go.Pm.W2, Go.Pm.W3, Go.Pm.W4, Go.Pm.W5, Go.Pm.W6, Go.Pm.W7, Go.Pm.W8, Go.Pm.W9, Go.Pm.Wc, WE, WT, WS, Nat.reduceAdd, Nat.reduceSub, Nat.reduceMul, Nat.reduceBEq, Nat.reduceLeDiff, Nat.reduceEqDiff, Nat.reduceLT, ↓reduceIte, nt44, co44, re44, rk44, Tryz.f44, kp44_0, kp44_2, ir68, rk68, ir69, rk69, f68_ok hC hR, f69_ok hC hR, f44_l0, ih, f44_l2_ok hC hR]
theorem f44_ok {C : Go.Pm.Callee} {R : Recs} (hC : Go.Pm.Fix E isRec C) (hR : RecOk C R) (t_Nodes : (List NodeType)) (t_Edges : (List EdgeType))  :
    C.pureC 44 [Go.Pm.PV.agg [Go.Pm.PV.lit (Go.Pm.rows t_Nodes) Go.Pm.fl0, Go.Pm.PV.lit (Go.Pm.rows t_Edges) Go.Pm.fl0]] = Option.map (fun r => Go.Pm.PV.tup [Go.Pm.PV.str r.1, Go.Pm.PV.int Go.IntKind.i64 r.2]) (f44 R (Types.mk t_Nodes t_Edges)) := by
  rw [Go.Pm.fix_pure hC (fn := Tryz.f44) rfl _ rfl rfl rfl]
  simp only [Go.Pm.W0, Go.Pm.W1, Go.Pm.W2, Go.Pm.W3, Go.Pm.W4, Go.Pm.W5, Go.Pm.W6, Go.Pm.W7, Go.Pm.W8, Go.Pm.W9, Go.Pm.Wc, WE, WT, WS, Nat.reduceAdd, Nat.reduceSub, Nat.reduceMul, Nat.reduceBEq, Nat.reduceLeDiff, Nat.reduceEqDiff, Nat.reduceLT, ↓reduceIte, nt44, co44, re44, rk44, Tryz.f44, kp44_0, kp44_2, ir68, rk68, ir69, rk69, f68_ok hC hR, f69_ok hC hR, f44, f44_l0_ok hC hR]
/-! scarfjoint/scarfjointref05.kind -/
noncomputable def f89 (n : Int) : Option Bool :=
  (if (decide ((0 : Int) ≤ n)) then
   (some (decide (n ≤ (99 : Int))))
  else (some Bool.false))
theorem f89_ok {C : Go.Pm.Callee} {R : Recs} (hC : Go.Pm.Fix E isRec C) (hR : RecOk C R) (n : Int)  :
    C.pureC 89 [Go.Pm.PV.int Go.IntKind.i64 n] = Option.map (fun r => Go.Pm.PV.bool r) (f89 n) := by
  rw [Go.Pm.fix_pure hC (fn := Tryz.f89) rfl _ rfl rfl rfl]
  simp only [Go.Pm.W0, Go.Pm.W1, Go.Pm.W2, Go.Pm.W3, Go.Pm.W4, Go.Pm.W5, Go.Pm.W6, Go.Pm.W7, Go.Pm.W8, Go.Pm.W9, Go.Pm.Wc, WE, WT, WS, Nat.reduceAdd, Nat.reduceSub, Nat.reduceMul, Nat.reduceBEq, Nat.reduceLeDiff, Nat.reduceEqDiff, Nat.reduceLT, ↓reduceIte, nt89, co89, re89, rk89, Tryz.f89, f89]
/-! scarfjoint/scarfjointref05.right -/
noncomputable def f90 (e : Edge) (nodes : Int) : Option Bool :=
  (Option.bind (Go.S.f89 e.Type_) fun x0 =>
   (if x0 then
   (if (decide ((0 : Int) ≤ e.From)) then
   (if (decide (e.From < nodes)) then
   (if (decide ((0 : Int) ≤ e.To)) then
   (some (decide (e.To < nodes)))
  else (some Bool.false))
  else (some Bool.false))
  else (some Bool.false))
  else (some Bool.false)))
theorem f90_ok {C : Go.Pm.Callee} {R : Recs} (hC : Go.Pm.Fix E isRec C) (hR : RecOk C R) (e_Type_ : Int) (e_From : Int) (e_To : Int) (nodes : Int)  :
    C.pureC 90 [Go.Pm.PV.agg [Go.Pm.PV.int Go.IntKind.i64 e_Type_, Go.Pm.PV.int Go.IntKind.i64 e_From, Go.Pm.PV.int Go.IntKind.i64 e_To], Go.Pm.PV.int Go.IntKind.i64 nodes] = Option.map (fun r => Go.Pm.PV.bool r) (f90 (Edge.mk e_Type_ e_From e_To) nodes) := by
  rw [Go.Pm.fix_pure hC (fn := Tryz.f90) rfl _ rfl rfl rfl]
  simp only [Go.Pm.W0, Go.Pm.W1, Go.Pm.W2, Go.Pm.W3, Go.Pm.W4, Go.Pm.W5, Go.Pm.W6, Go.Pm.W7, Go.Pm.W8, Go.Pm.W9, Go.Pm.Wc, WE, WT, WS, Nat.reduceAdd, Nat.reduceSub, Nat.reduceMul, Nat.reduceBEq, Nat.reduceLeDiff, Nat.reduceEqDiff, Nat.reduceLT, ↓reduceIte, nt90, co90, re90, rk90, Tryz.f90, ir89, rk89, f89_ok hC hR, f90]
/-! scarfjoint/scarfjointref05.Valid -/
noncomputable def f57_l2 (g : Graph)  : Nat → Int → Option Int
  | 0, _ => none
  | m2 + 1, i_3 =>
    (if (decide (i_3 < (((List.length g.Edges) : Nat) : Int))) then
     (Option.bind (Go.Pm.at? g.Edges i_3) fun x4 =>
     (Option.bind (Go.S.f90 x4 (((List.length g.Nodes) : Nat) : Int)) fun x5 =>
     (if (!x5) then
     (some (6 : Int))
    else (f57_l2 g m2 (Go.Pm.w64 (i_3 + (1 : Int)))))))
    else (some (0 : Int)))
noncomputable def f57_l0 (g : Graph)  : Nat → Int → Option Int
  | 0, _ => none
  | m0 + 1, i_0 =>
    (if (decide (i_0 < (((List.length g.Nodes) : Nat) : Int))) then
     (Option.bind (Go.Pm.at? g.Nodes i_0) fun x1 =>
     (Option.bind (Go.S.f89 x1) fun x2 =>
     (if (!x2) then
     (some (6 : Int))
    else (f57_l0 g m0 (Go.Pm.w64 (i_0 + (1 : Int)))))))
    else (f57_l2 g Go.Pm.loopMax (0 : Int)))
noncomputable def f57 (g : Graph) : Option Int :=
  (if (decide ((40 : Int) < (((List.length g.Nodes) : Nat) : Int))) then
   (some (3 : Int))
  else (if (decide ((80 : Int) < (((List.length g.Edges) : Nat) : Int))) then
   (some (3 : Int))
  else (f57_l0 g Go.Pm.loopMax (0 : Int))))
theorem f57_l2_ok {C : Go.Pm.Callee} {R : Recs} (hC : Go.Pm.Fix E isRec C) (hR : RecOk C R) {g_Nodes : (List Int)} {g_Edges : (List Edge)}    :
    ∀ (m2 : Nat) (i_3 : Int) , Go.Pm.lp (Go.Pm.machP E 57 C) [(Go.Pm.Fr.blk 2), (Go.Pm.Fr.seq 0 [1, 1, 1, 1])] 2 [0, 0, 1, 0, 1, 1, 1] m2 ⟨[Go.Pm.PV.undef, (Go.Pm.PV.ptr 0 0), Go.Pm.PV.undef, Go.Pm.PV.undef, Go.Pm.PV.int Go.IntKind.i64 i_3, Go.Pm.PV.undef, Go.Pm.PV.undef, Go.Pm.PV.undef, Go.Pm.PV.undef, Go.Pm.PV.undef, Go.Pm.PV.undef, Go.Pm.PV.undef, Go.Pm.PV.undef, Go.Pm.PV.undef, Go.Pm.PV.undef, Go.Pm.PV.undef, Go.Pm.PV.undef, Go.Pm.PV.undef, Go.Pm.PV.undef, Go.Pm.PV.undef, Go.Pm.PV.undef, Go.Pm.PV.undef, Go.Pm.PV.undef, Go.Pm.PV.undef, Go.Pm.PV.undef, Go.Pm.PV.undef, Go.Pm.PV.undef, Go.Pm.PV.undef, Go.Pm.PV.undef, Go.Pm.PV.undef, Go.Pm.PV.undef, Go.Pm.PV.undef, Go.Pm.PV.undef, Go.Pm.PV.undef, Go.Pm.PV.undef, Go.Pm.PV.undef, Go.Pm.PV.undef, Go.Pm.PV.undef, Go.Pm.PV.undef, Go.Pm.PV.undef, Go.Pm.PV.undef, Go.Pm.PV.undef, Go.Pm.PV.undef, Go.Pm.PV.undef, Go.Pm.PV.undef, Go.Pm.PV.undef], [(0, Go.Pm.PObj.box [Go.Pm.PV.lit (Go.Pm.rows (g_Nodes)) Go.Pm.fl0, Go.Pm.PV.lit (Go.Pm.rows (g_Edges)) Go.Pm.fl0])], 1⟩ = Option.map (fun r => Go.Pm.PV.int Go.IntKind.i64 r) (f57_l2 (Graph.mk g_Nodes g_Edges) m2 i_3) := by
  intro m2
  induction m2 with
  | zero => intros; rw [Go.Pm.lp_zero]; rfl
  | succ m2 ih =>
    intro i_3
    rw [Go.Pm.lp_succ]
    simp only [Go.Pm.W0, Go.Pm.W1, Go.Pm.W2, Go.Pm.W3, Go.Pm.W4, Go.Pm.W5, Go.Pm.W6, Go.Pm.W7, Go.Pm.W8, Go.Pm.W9, Go.Pm.Wc, WE, WT, WS, Nat.reduceAdd, Nat.reduceSub, Nat.reduceMul, Nat.reduceBEq, Nat.reduceLeDiff, Nat.reduceEqDiff, Nat.reduceLT, ↓reduceIte, nt57, co57, re57, rk57, Tryz.f57, kp57_0, kp57_2, pa57_11, ir89, rk89, ir90, rk90, f89_ok hC hR, f90_ok hC hR, f57_l2, ih]
theorem f57_l0_ok {C : Go.Pm.Callee} {R : Recs} (hC : Go.Pm.Fix E isRec C) (hR : RecOk C R) {g_Nodes : (List Int)} {g_Edges : (List Edge)}    :
    ∀ (m0 : Nat) (i_0 : Int) , Go.Pm.lp (Go.Pm.machP E 57 C) [(Go.Pm.Fr.blk 0), (Go.Pm.Fr.seq 0 [1, 1, 1])] 0 [0, 0, 1, 0, 1, 1] m0 ⟨[Go.Pm.PV.undef, (Go.Pm.PV.ptr 0 0), Go.Pm.PV.undef, Go.Pm.PV.int Go.IntKind.i64 i_0, Go.Pm.PV.undef, Go.Pm.PV.undef, Go.Pm.PV.undef, Go.Pm.PV.undef, Go.Pm.PV.undef, Go.Pm.PV.undef, Go.Pm.PV.undef, Go.Pm.PV.undef, Go.Pm.PV.undef, Go.Pm.PV.undef, Go.Pm.PV.undef, Go.Pm.PV.undef, Go.Pm.PV.undef, Go.Pm.PV.undef, Go.Pm.PV.undef, Go.Pm.PV.undef, Go.Pm.PV.undef, Go.Pm.PV.undef, Go.Pm.PV.undef, Go.Pm.PV.undef, Go.Pm.PV.undef, Go.Pm.PV.undef, Go.Pm.PV.undef, Go.Pm.PV.undef, Go.Pm.PV.undef, Go.Pm.PV.undef, Go.Pm.PV.undef, Go.Pm.PV.undef, Go.Pm.PV.undef, Go.Pm.PV.undef, Go.Pm.PV.undef, Go.Pm.PV.undef, Go.Pm.PV.undef, Go.Pm.PV.undef, Go.Pm.PV.undef, Go.Pm.PV.undef, Go.Pm.PV.undef, Go.Pm.PV.undef, Go.Pm.PV.undef, Go.Pm.PV.undef, Go.Pm.PV.undef, Go.Pm.PV.undef], [(0, Go.Pm.PObj.box [Go.Pm.PV.lit (Go.Pm.rows (g_Nodes)) Go.Pm.fl0, Go.Pm.PV.lit (Go.Pm.rows (g_Edges)) Go.Pm.fl0])], 1⟩ = Option.map (fun r => Go.Pm.PV.int Go.IntKind.i64 r) (f57_l0 (Graph.mk g_Nodes g_Edges) m0 i_0) := by
  intro m0
  induction m0 with
  | zero => intros; rw [Go.Pm.lp_zero]; rfl
  | succ m0 ih =>
    intro i_0
    rw [Go.Pm.lp_succ]
    simp only [Go.Pm.W0, Go.Pm.W1, Go.Pm.W2, Go.Pm.W3, Go.Pm.W4, Go.Pm.W5, Go.Pm.W6, Go.Pm.W7, Go.Pm.W8, Go.Pm.W9, Go.Pm.Wc, WE, WT, WS, Nat.reduceAdd, Nat.reduceSub, Nat.reduceMul, Nat.reduceBEq, Nat.reduceLeDiff, Nat.reduceEqDiff, Nat.reduceLT, ↓reduceIte, nt57, co57, re57, rk57, Tryz.f57, kp57_0, kp57_2, pa57_11, ir89, rk89, ir90, rk90, f89_ok hC hR, f90_ok hC hR, f57_l0, ih, f57_l2_ok hC hR]
theorem f57_ok {C : Go.Pm.Callee} {R : Recs} (hC : Go.Pm.Fix E isRec C) (hR : RecOk C R) (g_Nodes : (List Int)) (g_Edges : (List Edge))  :
    C.pureC 57 [Go.Pm.PV.agg [Go.Pm.PV.lit (Go.Pm.rows g_Nodes) Go.Pm.fl0, Go.Pm.PV.lit (Go.Pm.rows g_Edges) Go.Pm.fl0]] = Option.map (fun r => Go.Pm.PV.int Go.IntKind.i64 r) (f57 (Graph.mk g_Nodes g_Edges)) := by
  rw [Go.Pm.fix_pure hC (fn := Tryz.f57) rfl _ rfl rfl rfl]
  simp only [Go.Pm.W0, Go.Pm.W1, Go.Pm.W2, Go.Pm.W3, Go.Pm.W4, Go.Pm.W5, Go.Pm.W6, Go.Pm.W7, Go.Pm.W8, Go.Pm.W9, Go.Pm.Wc, WE, WT, WS, Nat.reduceAdd, Nat.reduceSub, Nat.reduceMul, Nat.reduceBEq, Nat.reduceLeDiff, Nat.reduceEqDiff, Nat.reduceLT, ↓reduceIte, nt57, co57, re57, rk57, Tryz.f57, kp57_0, kp57_2, pa57_11, ir89, rk89, ir90, rk90, f89_ok hC hR, f90_ok hC hR, f57, f57_l0_ok hC hR]
/-! scarfjoint/scarfjointref04.given -/
noncomputable def f91 (R : Recs) (t : Types) (a : Int) (b : Int) : Option Int :=
  (Option.bind (Go.S.f44 R t) fun x0 =>
   (if (!((x0).2 == (0 : Int))) then
   (some (x0).2)
  else (Option.bind (Go.S.f92 a (0 : Int) (Go.Pm.w64 ((((List.length t.Nodes) : Nat) : Int) - (1 : Int)))) fun x1 =>
   (if (!x1) then
   (some (6 : Int))
  else (Option.bind (Go.S.f92 b (0 : Int) (Go.Pm.w64 ((((List.length t.Nodes) : Nat) : Int) - (1 : Int)))) fun x2 =>
   (if (!x2) then
   (some (6 : Int))
  else (some (0 : Int))))))))
theorem f91_ok {C : Go.Pm.Callee} {R : Recs} (hC : Go.Pm.Fix E isRec C) (hR : RecOk C R) (t_Nodes : (List NodeType)) (t_Edges : (List EdgeType)) (a : Int) (b : Int)  :
    C.pureC 91 [Go.Pm.PV.agg [Go.Pm.PV.lit (Go.Pm.rows t_Nodes) Go.Pm.fl0, Go.Pm.PV.lit (Go.Pm.rows t_Edges) Go.Pm.fl0], Go.Pm.PV.int Go.IntKind.i64 a, Go.Pm.PV.int Go.IntKind.i64 b] = Option.map (fun r => Go.Pm.PV.int Go.IntKind.i64 r) (f91 R (Types.mk t_Nodes t_Edges) a b) := by
  rw [Go.Pm.fix_pure hC (fn := Tryz.f91) rfl _ rfl rfl rfl]
  simp only [Go.Pm.W0, Go.Pm.W1, Go.Pm.W2, Go.Pm.W3, Go.Pm.W4, Go.Pm.W5, Go.Pm.W6, Go.Pm.W7, Go.Pm.W8, Go.Pm.W9, Go.Pm.Wc, WE, WT, WS, Nat.reduceAdd, Nat.reduceSub, Nat.reduceMul, Nat.reduceBEq, Nat.reduceLeDiff, Nat.reduceEqDiff, Nat.reduceLT, ↓reduceIte, nt91, co91, re91, rk91, Tryz.f91, ir44, rk44, ir92, rk92, f44_ok hC hR, f92_ok hC hR, f91]
/-! scarfjoint/scarfjointref04.Fits -/
noncomputable def f58 (R : Recs) (t : Types) (edge : Int) (from_ : Int) (to : Int) : Option Bool :=
  (Option.bind (Go.S.f91 R t from_ to) fun x0 =>
   (if (!(x0 == (0 : Int))) then
   (some Bool.false)
  else (Option.bind (Go.S.f92 edge (0 : Int) (Go.Pm.w64 ((((List.length t.Edges) : Nat) : Int) - (1 : Int)))) fun x1 =>
   (if (!x1) then
   (some Bool.false)
  else (Option.bind (Go.Pm.at? t.Edges edge) fun x2 =>
   (Option.bind (Go.S.Recs.f93 R t from_ x2.From) fun x3 =>
   (if x3 then
   (Option.bind (Go.Pm.at? t.Edges edge) fun x4 =>
   (Option.bind (Go.S.Recs.f93 R t to x4.To) fun x5 =>
   (some x5)))
  else (some Bool.false))))))))
theorem f58_ok {C : Go.Pm.Callee} {R : Recs} (hC : Go.Pm.Fix E isRec C) (hR : RecOk C R) (t_Nodes : (List NodeType)) (t_Edges : (List EdgeType)) (edge : Int) (from_ : Int) (to : Int)  :
    C.pureC 58 [Go.Pm.PV.agg [Go.Pm.PV.lit (Go.Pm.rows t_Nodes) Go.Pm.fl0, Go.Pm.PV.lit (Go.Pm.rows t_Edges) Go.Pm.fl0], Go.Pm.PV.int Go.IntKind.i64 edge, Go.Pm.PV.int Go.IntKind.i64 from_, Go.Pm.PV.int Go.IntKind.i64 to] = Option.map (fun r => Go.Pm.PV.bool r) (f58 R (Types.mk t_Nodes t_Edges) edge from_ to) := by
  rw [Go.Pm.fix_pure hC (fn := Tryz.f58) rfl _ rfl rfl rfl]
  simp only [Go.Pm.W0, Go.Pm.W1, Go.Pm.W2, Go.Pm.W3, Go.Pm.W4, Go.Pm.W5, Go.Pm.W6, Go.Pm.W7, Go.Pm.W8, Go.Pm.W9, Go.Pm.Wc, WE, WT, WS, Nat.reduceAdd, Nat.reduceSub, Nat.reduceMul, Nat.reduceBEq, Nat.reduceLeDiff, Nat.reduceEqDiff, Nat.reduceLT, ↓reduceIte, nt58, co58, re58, rk58, Tryz.f58, pa58_3, ir91, rk91, ir92, rk92, ir93, rk93, f92_ok hC hR, hR.f93, f91_ok hC hR, f58]
/-! scarfjoint/scarfjointref18.Typed -/
noncomputable def f38_l2 (R : Recs) (t : Types) (g : Graph)  : Nat → Int → Option Int
  | 0, _ => none
  | m2 + 1, i_4 =>
    (if (decide (i_4 < (((List.length g.Edges) : Nat) : Int))) then
     (Option.bind (Go.Pm.at? g.Edges i_4) fun x5 =>
     (if (decide ((((List.length t.Edges) : Nat) : Int) ≤ x5.Type_)) then
     (some (6 : Int))
    else (Option.bind (Go.Pm.at? g.Nodes x5.From) fun x6 =>
     (Option.bind (Go.Pm.at? g.Nodes x5.To) fun x7 =>
     (Option.bind (Go.S.f58 R t x5.Type_ x6 x7) fun x8 =>
     (if (!x8) then
     (some (13 : Int))
    else (f38_l2 R t g m2 (Go.Pm.w64 (i_4 + (1 : Int))))))))))
    else (some (0 : Int)))
noncomputable def f38_l0 (R : Recs) (t : Types) (g : Graph)  : Nat → Int → Option Int
  | 0, _ => none
  | m0 + 1, i_2 =>
    (if (decide (i_2 < (((List.length g.Nodes) : Nat) : Int))) then
     (Option.bind (Go.Pm.at? g.Nodes i_2) fun x3 =>
     (if (decide ((((List.length t.Nodes) : Nat) : Int) ≤ x3)) then
     (some (6 : Int))
    else (f38_l0 R t g m0 (Go.Pm.w64 (i_2 + (1 : Int))))))
    else (f38_l2 R t g Go.Pm.loopMax (0 : Int)))
noncomputable def f38 (R : Recs) (t : Types) (g : Graph) : Option Int :=
  (Option.bind (Go.S.f44 R t) fun x0 =>
   (if (!((x0).2 == (0 : Int))) then
   (some (x0).2)
  else (Option.bind (Go.S.f57 g) fun x1 =>
   (if (!(x1 == (0 : Int))) then
   (some x1)
  else (f38_l0 R t g Go.Pm.loopMax (0 : Int))))))
theorem f38_l2_ok {C : Go.Pm.Callee} {R : Recs} (hC : Go.Pm.Fix E isRec C) (hR : RecOk C R) {t_Nodes : (List NodeType)} {t_Edges : (List EdgeType)} {g_Nodes : (List Int)} {g_Edges : (List Edge)}    :
    ∀ (m2 : Nat) (i_4 : Int) , Go.Pm.lp (Go.Pm.machP E 38 C) [(Go.Pm.Fr.blk 2), (Go.Pm.Fr.seq 0 [1, 1, 1, 1, 1])] 2 [0, 0, 1, 0, 1, 1, 1, 1] m2 ⟨Go.Pm.PV.undef :: Go.Pm.PV.undef :: (Go.Pm.PV.ptr 0 0) :: (Go.Pm.PV.ptr 1 0) :: Go.Pm.PV.undef :: Go.Pm.PV.undef :: Go.Pm.PV.undef :: Go.Pm.PV.undef :: Go.Pm.PV.undef :: Go.Pm.PV.int Go.IntKind.i64 i_4 :: Go.Pm.PV.undef :: Go.Pm.PV.undef :: Go.Pm.PV.undef :: Go.Pm.PV.undef :: Go.Pm.PV.undef :: Go.Pm.PV.undef :: Go.Pm.PV.undef :: Go.Pm.PV.undef :: Go.Pm.PV.undef :: Go.Pm.PV.undef :: Go.Pm.PV.undef :: Go.Pm.PV.undef :: Go.Pm.PV.undef :: Go.Pm.PV.undef :: Go.Pm.PV.undef :: Go.Pm.PV.undef :: Go.Pm.PV.undef :: Go.Pm.PV.undef :: Go.Pm.PV.undef :: Go.Pm.PV.undef :: Go.Pm.PV.undef :: Go.Pm.PV.undef :: Go.Pm.PV.undef :: Go.Pm.PV.undef :: Go.Pm.PV.undef :: Go.Pm.PV.undef :: Go.Pm.PV.undef :: Go.Pm.PV.undef :: Go.Pm.PV.undef :: Go.Pm.PV.undef :: Go.Pm.PV.undef :: Go.Pm.PV.undef :: Go.Pm.PV.undef :: Go.Pm.PV.undef :: Go.Pm.PV.undef :: Go.Pm.PV.undef :: Go.Pm.PV.undef :: Go.Pm.PV.undef :: Go.Pm.PV.undef :: Go.Pm.PV.undef :: Go.Pm.PV.undef :: Go.Pm.PV.undef :: Go.Pm.PV.undef :: Go.Pm.PV.undef :: Go.Pm.PV.undef :: Go.Pm.PV.undef :: Go.Pm.PV.undef :: Go.Pm.PV.undef :: Go.Pm.PV.undef :: Go.Pm.PV.undef :: Go.Pm.PV.undef :: Go.Pm.PV.undef :: Go.Pm.PV.undef :: Go.Pm.PV.undef :: Go.Pm.PV.undef :: Go.Pm.PV.undef :: Go.Pm.PV.undef :: Go.Pm.PV.undef :: Go.Pm.PV.undef :: Go.Pm.PV.undef :: Go.Pm.PV.undef :: Go.Pm.PV.undef :: Go.Pm.PV.undef :: Go.Pm.PV.undef :: Go.Pm.PV.undef :: [], [(0, Go.Pm.PObj.box [Go.Pm.PV.lit (Go.Pm.rows (t_Nodes)) Go.Pm.fl0, Go.Pm.PV.lit (Go.Pm.rows (t_Edges)) Go.Pm.fl0]), (1, Go.Pm.PObj.box [Go.Pm.PV.lit (Go.Pm.rows (g_Nodes)) Go.Pm.fl0, Go.Pm.PV.lit (Go.Pm.rows (g_Edges)) Go.Pm.fl0])], 2⟩ = Option.map (fun r => Go.Pm.PV.int Go.IntKind.i64 r) (f38_l2 R (Types.mk t_Nodes t_Edges) (Graph.mk g_Nodes g_Edges) m2 i_4) := by
  intro m2
  induction m2 with
  | zero => intros; rw [Go.Pm.lp_zero]; rfl
  | succ m2 ih =>
    intro i_4
    rw [Go.Pm.lp_succ]
    simp only [Go.Pm.W0, Go.Pm.W1, Go.Pm.W2, Go.Pm.W3, Go.Pm.W4, Go.Pm.W5, Go.Pm.W6, Go.Pm.W7, Go.Pm.W8, Go.Pm.W9, Go.Pm.Wc, WE, WT, WS, Nat.reduceAdd, Nat.reduceSub, Nat.reduceMul, Nat.reduceBEq, Nat.reduceLeDiff, Nat.reduceEqDiff, Nat.reduceLT, ↓reduceIte, nt38, co38, re38, rk38, Tryz.f38, kp38_0, kp38_2, pa38_10, pa38_18, ir44, rk44, ir57, rk57, ir58, rk58, f44_ok hC hR, f57_ok hC hR, f58_ok hC hR, f38_l2, ih]
theorem f38_l0_ok {C : Go.Pm.Callee} {R : Recs} (hC : Go.Pm.Fix E isRec C) (hR : RecOk C R) {t_Nodes : (List NodeType)} {t_Edges : (List EdgeType)} {g_Nodes : (List Int)} {g_Edges : (List Edge)}    :
    ∀ (m0 : Nat) (i_2 : Int) , Go.Pm.lp (Go.Pm.machP E 38 C) [(Go.Pm.Fr.blk 0), (Go.Pm.Fr.seq 0 [1, 1, 1, 1])] 0 [0, 0, 1, 0, 1, 1, 1] m0 ⟨Go.Pm.PV.undef :: Go.Pm.PV.undef :: (Go.Pm.PV.ptr 0 0) :: (Go.Pm.PV.ptr 1 0) :: Go.Pm.PV.undef :: Go.Pm.PV.undef :: Go.Pm.PV.undef :: Go.Pm.PV.undef :: Go.Pm.PV.int Go.IntKind.i64 i_2 :: Go.Pm.PV.undef :: Go.Pm.PV.undef :: Go.Pm.PV.undef :: Go.Pm.PV.undef :: Go.Pm.PV.undef :: Go.Pm.PV.undef :: Go.Pm.PV.undef :: Go.Pm.PV.undef :: Go.Pm.PV.undef :: Go.Pm.PV.undef :: Go.Pm.PV.undef :: Go.Pm.PV.undef :: Go.Pm.PV.undef :: Go.Pm.PV.undef :: Go.Pm.PV.undef :: Go.Pm.PV.undef :: Go.Pm.PV.undef :: Go.Pm.PV.undef :: Go.Pm.PV.undef :: Go.Pm.PV.undef :: Go.Pm.PV.undef :: Go.Pm.PV.undef :: Go.Pm.PV.undef :: Go.Pm.PV.undef :: Go.Pm.PV.undef :: Go.Pm.PV.undef :: Go.Pm.PV.undef :: Go.Pm.PV.undef :: Go.Pm.PV.undef :: Go.Pm.PV.undef :: Go.Pm.PV.undef :: Go.Pm.PV.undef :: Go.Pm.PV.undef :: Go.Pm.PV.undef :: Go.Pm.PV.undef :: Go.Pm.PV.undef :: Go.Pm.PV.undef :: Go.Pm.PV.undef :: Go.Pm.PV.undef :: Go.Pm.PV.undef :: Go.Pm.PV.undef :: Go.Pm.PV.undef :: Go.Pm.PV.undef :: Go.Pm.PV.undef :: Go.Pm.PV.undef :: Go.Pm.PV.undef :: Go.Pm.PV.undef :: Go.Pm.PV.undef :: Go.Pm.PV.undef :: Go.Pm.PV.undef :: Go.Pm.PV.undef :: Go.Pm.PV.undef :: Go.Pm.PV.undef :: Go.Pm.PV.undef :: Go.Pm.PV.undef :: Go.Pm.PV.undef :: Go.Pm.PV.undef :: Go.Pm.PV.undef :: Go.Pm.PV.undef :: Go.Pm.PV.undef :: Go.Pm.PV.undef :: Go.Pm.PV.undef :: Go.Pm.PV.undef :: Go.Pm.PV.undef :: Go.Pm.PV.undef :: Go.Pm.PV.undef :: [], [(0, Go.Pm.PObj.box [Go.Pm.PV.lit (Go.Pm.rows (t_Nodes)) Go.Pm.fl0, Go.Pm.PV.lit (Go.Pm.rows (t_Edges)) Go.Pm.fl0]), (1, Go.Pm.PObj.box [Go.Pm.PV.lit (Go.Pm.rows (g_Nodes)) Go.Pm.fl0, Go.Pm.PV.lit (Go.Pm.rows (g_Edges)) Go.Pm.fl0])], 2⟩ = Option.map (fun r => Go.Pm.PV.int Go.IntKind.i64 r) (f38_l0 R (Types.mk t_Nodes t_Edges) (Graph.mk g_Nodes g_Edges) m0 i_2) := by
  intro m0
  induction m0 with
  | zero => intros; rw [Go.Pm.lp_zero]; rfl
  | succ m0 ih =>
    intro i_2
    rw [Go.Pm.lp_succ]
    simp only [Go.Pm.W0, Go.Pm.W1, Go.Pm.W2, Go.Pm.W3, Go.Pm.W4, Go.Pm.W5, Go.Pm.W6, Go.Pm.W7, Go.Pm.W8, Go.Pm.W9, Go.Pm.Wc, WE, WT, WS, Nat.reduceAdd, Nat.reduceSub, Nat.reduceMul, Nat.reduceBEq, Nat.reduceLeDiff, Nat.reduceEqDiff, Nat.reduceLT, ↓reduceIte, nt38, co38, re38, rk38, Tryz.f38, kp38_0, kp38_2, pa38_10, pa38_18, ir44, rk44, ir57, rk57, ir58, rk58, f44_ok hC hR, f57_ok hC hR, f58_ok hC hR, f38_l0, ih, f38_l2_ok hC hR]
theorem f38_ok {C : Go.Pm.Callee} {R : Recs} (hC : Go.Pm.Fix E isRec C) (hR : RecOk C R) (t_Nodes : (List NodeType)) (t_Edges : (List EdgeType)) (g_Nodes : (List Int)) (g_Edges : (List Edge))  :
    C.pureC 38 [Go.Pm.PV.agg [Go.Pm.PV.lit (Go.Pm.rows t_Nodes) Go.Pm.fl0, Go.Pm.PV.lit (Go.Pm.rows t_Edges) Go.Pm.fl0], Go.Pm.PV.agg [Go.Pm.PV.lit (Go.Pm.rows g_Nodes) Go.Pm.fl0, Go.Pm.PV.lit (Go.Pm.rows g_Edges) Go.Pm.fl0]] = Option.map (fun r => Go.Pm.PV.int Go.IntKind.i64 r) (f38 R (Types.mk t_Nodes t_Edges) (Graph.mk g_Nodes g_Edges)) := by
  rw [Go.Pm.fix_pure hC (fn := Tryz.f38) rfl _ rfl rfl rfl]
  simp only [Go.Pm.W0, Go.Pm.W1, Go.Pm.W2, Go.Pm.W3, Go.Pm.W4, Go.Pm.W5, Go.Pm.W6, Go.Pm.W7, Go.Pm.W8, Go.Pm.W9, Go.Pm.Wc, WE, WT, WS, Nat.reduceAdd, Nat.reduceSub, Nat.reduceMul, Nat.reduceBEq, Nat.reduceLeDiff, Nat.reduceEqDiff, Nat.reduceLT, ↓reduceIte, nt38, co38, re38, rk38, Tryz.f38, kp38_0, kp38_2, pa38_10, pa38_18, ir44, rk44, ir57, rk57, ir58, rk58, f44_ok hC hR, f57_ok hC hR, f58_ok hC hR, f38, f38_l0_ok hC hR]
/-! scarfjoint/scarfjointref39.natural -/
noncomputable def f59_l0 (l : (List Int)) (n : Int)  : Nat → Int → Option Bool
  | 0, _ => none
  | m0 + 1, i_0 =>
    (if (decide (i_0 < n)) then
     (Option.bind (Go.Pm.at? l i_0) fun x1 =>
     (if (decide (x1 < (0 : Int))) then
     (some Bool.false)
    else (Option.bind (Go.Pm.at? l i_0) fun x2 =>
     (if (decide ((1000 : Int) < x2)) then
     (some Bool.false)
    else (f59_l0 l n m0 (Go.Pm.w64 (i_0 + (1 : Int))))))))
    else (some Bool.true))
noncomputable def f59 (l : (List Int)) (n : Int) : Option Bool :=
  (if (!((((List.length l) : Nat) : Int) == n)) then
   (some Bool.false)
  else (f59_l0 l n Go.Pm.loopMax (0 : Int)))
theorem f59_l0_ok {C : Go.Pm.Callee} {R : Recs} (hC : Go.Pm.Fix E isRec C) (hR : RecOk C R) {l : (List Int)} {n : Int}    :
    ∀ (m0 : Nat) (i_0 : Int) , Go.Pm.lp (Go.Pm.machP E 59 C) [(Go.Pm.Fr.blk 0), (Go.Pm.Fr.seq 0 [1, 1, 1])] 0 [0, 0, 1, 0, 1, 1] m0 ⟨[Go.Pm.PV.lit (Go.Pm.rows (l)) Go.Pm.fl0, Go.Pm.PV.int Go.IntKind.i64 (n), Go.Pm.PV.undef, Go.Pm.PV.undef, Go.Pm.PV.undef, Go.Pm.PV.int Go.IntKind.i64 i_0, Go.Pm.PV.undef, Go.Pm.PV.undef, Go.Pm.PV.undef, Go.Pm.PV.undef, Go.Pm.PV.undef, Go.Pm.PV.undef, Go.Pm.PV.undef, Go.Pm.PV.undef, Go.Pm.PV.undef, Go.Pm.PV.undef, Go.Pm.PV.undef, Go.Pm.PV.undef, Go.Pm.PV.undef, Go.Pm.PV.undef, Go.Pm.PV.undef, Go.Pm.PV.undef, Go.Pm.PV.undef, Go.Pm.PV.undef, Go.Pm.PV.undef, Go.Pm.PV.undef, Go.Pm.PV.undef], [], 0⟩ = Option.map (fun r => Go.Pm.PV.bool r) (f59_l0 l n m0 i_0) := by
  intro m0
  induction m0 with
  | zero => intros; rw [Go.Pm.lp_zero]; rfl
  | succ m0 ih =>
    intro i_0
    rw [Go.Pm.lp_succ]
    simp only [Go.Pm.W0, Go.Pm.W1, Go.Pm.W2, Go.Pm.W3, Go.Pm.W4, Go.Pm.W5, Go.Pm.W6, Go.Pm.W7, Go.Pm.W8, Go.Pm.W9, Go.Pm.Wc, WE, WT, WS, Nat.reduceAdd, Nat.reduceSub, Nat.reduceMul, Nat.reduceBEq, Nat.reduceLeDiff, Nat.reduceEqDiff, Nat.reduceLT, ↓reduceIte, nt59, co59, re59, rk59, Tryz.f59, kp59_0, f59_l0, ih]
theorem f59_ok {C : Go.Pm.Callee} {R : Recs} (hC : Go.Pm.Fix E isRec C) (hR : RecOk C R) (l : (List Int)) (n : Int)  :
    C.pureC 59 [Go.Pm.PV.lit (Go.Pm.rows l) Go.Pm.fl0, Go.Pm.PV.int Go.IntKind.i64 n] = Option.map (fun r => Go.Pm.PV.bool r) (f59 l n) := by
  rw [Go.Pm.fix_pure hC (fn := Tryz.f59) rfl _ rfl rfl rfl]
  simp only [Go.Pm.W0, Go.Pm.W1, Go.Pm.W2, Go.Pm.W3, Go.Pm.W4, Go.Pm.W5, Go.Pm.W6, Go.Pm.W7, Go.Pm.W8, Go.Pm.W9, Go.Pm.Wc, WE, WT, WS, Nat.reduceAdd, Nat.reduceSub, Nat.reduceMul, Nat.reduceBEq, Nat.reduceLeDiff, Nat.reduceEqDiff, Nat.reduceLT, ↓reduceIte, nt59, co59, re59, rk59, Tryz.f59, kp59_0, f59, f59_l0_ok hC hR]
/-! scarfjoint/scarfjointref39.Of -/
noncomputable def f39_l2 (t_Nodes : (List NodeType)) (w : (List Int)) (g : Graph)  : Nat → Int → Int → Option (Int × Int)
  | 0, _, _ => none
  | m2 + 1, sum_6, i_7 =>
    (if (decide (i_7 < (((List.length g.Edges) : Nat) : Int))) then
     (Option.bind (Go.Pm.at? g.Edges i_7) fun x8 =>
     (Option.bind (Go.Pm.at? w (Go.Pm.w64 ((((List.length t_Nodes) : Nat) : Int) + x8.Type_))) fun x9 =>
     (f39_l2 t_Nodes w g m2 (Go.Pm.w64 (sum_6 + x9)) (Go.Pm.w64 (i_7 + (1 : Int))))))
    else (some (sum_6, (0 : Int))))
noncomputable def f39_l0 (t_Nodes : (List NodeType)) (w : (List Int)) (g : Graph)  : Nat → Int → Int → Option (Int × Int)
  | 0, _, _ => none
  | m0 + 1, sum_2, i_3 =>
    (if (decide (i_3 < (((List.length g.Nodes) : Nat) : Int))) then
     (Option.bind (Go.Pm.at? g.Nodes i_3) fun x4 =>
     (Option.bind (Go.Pm.at? w x4) fun x5 =>
     (f39_l0 t_Nodes w g m0 (Go.Pm.w64 (sum_2 + x5)) (Go.Pm.w64 (i_3 + (1 : Int))))))
    else (f39_l2 t_Nodes w g Go.Pm.loopMax sum_2 (0 : Int)))
noncomputable def f39 (R : Recs) (t : Types) (w : (List Int)) (g : Graph) : Option (Int × Int) :=
  (Option.bind (Go.S.f38 R t g) fun x0 =>
   (if (!(x0 == (0 : Int))) then
   (some ((0 : Int), x0))
  else (if (!((((List.length w) : Nat) : Int) == (Go.Pm.w64 ((((List.length t.Nodes) : Nat) : Int) + (((List.length t.Edges) : Nat) : Int))))) then
   (some ((0 : Int), (20 : Int)))
  else (Option.bind (Go.S.f59 w (((List.length w) : Nat) : Int)) fun x1 =>
   (if (!x1) then
   (some ((0 : Int), (6 : Int)))
  else (f39_l0 t.Nodes w g Go.Pm.loopMax (0 : Int) (0 : Int)))))))
theorem f39_l2_ok {C : Go.Pm.Callee} {R : Recs} (hC : Go.Pm.Fix E isRec C) (hR : RecOk C R) {t_Nodes : (List NodeType)} {w : (List Int)} {g_Nodes : (List Int)} {g_Edges : (List Edge)}    :
    ∀ (m2 : Nat) (sum_6 : Int) (i_7 : Int) , Go.Pm.lp (Go.Pm.machP E 39 C) [(Go.Pm.Fr.blk 2), (Go.Pm.Fr.seq 0 [1, 1, 1, 1, 1, 1, 1, 1])] 2 [0, 0, 1, 0, 1, 1, 1, 1, 1, 1, 1] m2 ⟨Go.Pm.PV.undef :: Go.Pm.PV.lit (Go.Pm.rows (w)) Go.Pm.fl0 :: Go.Pm.PV.undef :: Go.Pm.PV.undef :: Go.Pm.PV.undef :: (Go.Pm.PV.ptr 0 0) :: Go.Pm.PV.undef :: Go.Pm.PV.undef :: Go.Pm.PV.undef :: Go.Pm.PV.int Go.IntKind.i64 ((((List.length t_Nodes) : Nat) : Int)) :: Go.Pm.PV.int Go.IntKind.i64 sum_6 :: Go.Pm.PV.undef :: Go.Pm.PV.int Go.IntKind.i64 i_7 :: Go.Pm.PV.undef :: Go.Pm.PV.undef :: Go.Pm.PV.undef :: Go.Pm.PV.undef :: Go.Pm.PV.undef :: Go.Pm.PV.undef :: Go.Pm.PV.undef :: Go.Pm.PV.undef :: Go.Pm.PV.undef :: Go.Pm.PV.undef :: Go.Pm.PV.undef :: Go.Pm.PV.undef :: Go.Pm.PV.undef :: Go.Pm.PV.undef :: Go.Pm.PV.undef :: Go.Pm.PV.undef :: Go.Pm.PV.undef :: Go.Pm.PV.undef :: Go.Pm.PV.undef :: Go.Pm.PV.undef :: Go.Pm.PV.undef :: Go.Pm.PV.undef :: Go.Pm.PV.undef :: Go.Pm.PV.undef :: Go.Pm.PV.undef :: Go.Pm.PV.undef :: Go.Pm.PV.undef :: Go.Pm.PV.undef :: Go.Pm.PV.undef :: Go.Pm.PV.undef :: Go.Pm.PV.undef :: Go.Pm.PV.undef :: Go.Pm.PV.undef :: Go.Pm.PV.undef :: Go.Pm.PV.undef :: Go.Pm.PV.undef :: Go.Pm.PV.undef :: Go.Pm.PV.undef :: Go.Pm.PV.undef :: Go.Pm.PV.undef :: Go.Pm.PV.undef :: Go.Pm.PV.undef :: Go.Pm.PV.undef :: Go.Pm.PV.undef :: Go.Pm.PV.undef :: Go.Pm.PV.undef :: Go.Pm.PV.undef :: Go.Pm.PV.undef :: Go.Pm.PV.undef :: Go.Pm.PV.undef :: Go.Pm.PV.undef :: Go.Pm.PV.undef :: Go.Pm.PV.undef :: Go.Pm.PV.undef :: Go.Pm.PV.undef :: Go.Pm.PV.undef :: Go.Pm.PV.undef :: Go.Pm.PV.undef :: Go.Pm.PV.undef :: Go.Pm.PV.undef :: [], [(0, Go.Pm.PObj.box [Go.Pm.PV.lit (Go.Pm.rows (g_Nodes)) Go.Pm.fl0, Go.Pm.PV.lit (Go.Pm.rows (g_Edges)) Go.Pm.fl0])], 1⟩ = Option.map (fun r => Go.Pm.PV.tup [Go.Pm.PV.int Go.IntKind.i64 r.1, Go.Pm.PV.int Go.IntKind.i64 r.2]) (f39_l2 t_Nodes w (Graph.mk g_Nodes g_Edges) m2 sum_6 i_7) := by
  intro m2
  induction m2 with
  | zero => intros; rw [Go.Pm.lp_zero]; rfl
  | succ m2 ih =>
    intro sum_6 i_7
    rw [Go.Pm.lp_succ]
    simp only [Go.Pm.W0, Go.Pm.W1, Go.Pm.W2, Go.Pm.W3, Go.Pm.W4, Go.Pm.W5, Go.Pm.W6, Go.Pm.W7, Go.Pm.W8, Go.Pm.W9, Go.Pm.Wc, WE, WT, WS, Nat.reduceAdd, Nat.reduceSub, Nat.reduceMul, Nat.reduceBEq, Nat.reduceLeDiff, Nat.reduceEqDiff, Nat.reduceLT, ↓reduceIte, nt39, co39, re39, rk39, Tryz.f39, kp39_0, kp39_2, ir38, rk38, ir59, rk59, f38_ok hC hR, f59_ok hC hR, f39_l2, ih]
theorem f39_l0_ok {C : Go.Pm.Callee} {R : Recs} (hC : Go.Pm.Fix E isRec C) (hR : RecOk C R) {t_Nodes : (List NodeType)} {w : (List Int)} {g_Nodes : (List Int)} {g_Edges : (List Edge)}    :
    ∀ (m0 : Nat) (sum_2 : Int) (i_3 : Int) , Go.Pm.lp (Go.Pm.machP E 39 C) [(Go.Pm.Fr.blk 0), (Go.Pm.Fr.seq 0 [1, 1, 1, 1, 1, 1, 1])] 0 [0, 0, 1, 0, 1, 1, 1, 1, 1, 1] m0 ⟨Go.Pm.PV.undef :: Go.Pm.PV.lit (Go.Pm.rows (w)) Go.Pm.fl0 :: Go.Pm.PV.undef :: Go.Pm.PV.undef :: Go.Pm.PV.undef :: (Go.Pm.PV.ptr 0 0) :: Go.Pm.PV.undef :: Go.Pm.PV.undef :: Go.Pm.PV.undef :: Go.Pm.PV.int Go.IntKind.i64 ((((List.length t_Nodes) : Nat) : Int)) :: Go.Pm.PV.int Go.IntKind.i64 sum_2 :: Go.Pm.PV.int Go.IntKind.i64 i_3 :: Go.Pm.PV.undef :: Go.Pm.PV.undef :: Go.Pm.PV.undef :: Go.Pm.PV.undef :: Go.Pm.PV.undef :: Go.Pm.PV.undef :: Go.Pm.PV.undef :: Go.Pm.PV.undef :: Go.Pm.PV.undef :: Go.Pm.PV.undef :: Go.Pm.PV.undef :: Go.Pm.PV.undef :: Go.Pm.PV.undef :: Go.Pm.PV.undef :: Go.Pm.PV.undef :: Go.Pm.PV.undef :: Go.Pm.PV.undef :: Go.Pm.PV.undef :: Go.Pm.PV.undef :: Go.Pm.PV.undef :: Go.Pm.PV.undef :: Go.Pm.PV.undef :: Go.Pm.PV.undef :: Go.Pm.PV.undef :: Go.Pm.PV.undef :: Go.Pm.PV.undef :: Go.Pm.PV.undef :: Go.Pm.PV.undef :: Go.Pm.PV.undef :: Go.Pm.PV.undef :: Go.Pm.PV.undef :: Go.Pm.PV.undef :: Go.Pm.PV.undef :: Go.Pm.PV.undef :: Go.Pm.PV.undef :: Go.Pm.PV.undef :: Go.Pm.PV.undef :: Go.Pm.PV.undef :: Go.Pm.PV.undef :: Go.Pm.PV.undef :: Go.Pm.PV.undef :: Go.Pm.PV.undef :: Go.Pm.PV.undef :: Go.Pm.PV.undef :: Go.Pm.PV.undef :: Go.Pm.PV.undef :: Go.Pm.PV.undef :: Go.Pm.PV.undef :: Go.Pm.PV.undef :: Go.Pm.PV.undef :: Go.Pm.PV.undef :: Go.Pm.PV.undef :: Go.Pm.PV.undef :: Go.Pm.PV.undef :: Go.Pm.PV.undef :: Go.Pm.PV.undef :: Go.Pm.PV.undef :: Go.Pm.PV.undef :: Go.Pm.PV.undef :: Go.Pm.PV.undef :: Go.Pm.PV.undef :: [], [(0, Go.Pm.PObj.box [Go.Pm.PV.lit (Go.Pm.rows (g_Nodes)) Go.Pm.fl0, Go.Pm.PV.lit (Go.Pm.rows (g_Edges)) Go.Pm.fl0])], 1⟩ = Option.map (fun r => Go.Pm.PV.tup [Go.Pm.PV.int Go.IntKind.i64 r.1, Go.Pm.PV.int Go.IntKind.i64 r.2]) (f39_l0 t_Nodes w (Graph.mk g_Nodes g_Edges) m0 sum_2 i_3) := by
  intro m0
  induction m0 with
  | zero => intros; rw [Go.Pm.lp_zero]; rfl
  | succ m0 ih =>
    intro sum_2 i_3
    rw [Go.Pm.lp_succ]
    simp only [Go.Pm.W0, Go.Pm.W1, Go.Pm.W2, Go.Pm.W3, Go.Pm.W4, Go.Pm.W5, Go.Pm.W6, Go.Pm.W7, Go.Pm.W8, Go.Pm.W9, Go.Pm.Wc, WE, WT, WS, Nat.reduceAdd, Nat.reduceSub, Nat.reduceMul, Nat.reduceBEq, Nat.reduceLeDiff, Nat.reduceEqDiff, Nat.reduceLT, ↓reduceIte, nt39, co39, re39, rk39, Tryz.f39, kp39_0, kp39_2, ir38, rk38, ir59, rk59, f38_ok hC hR, f59_ok hC hR, f39_l0, ih, f39_l2_ok hC hR]
theorem f39_ok {C : Go.Pm.Callee} {R : Recs} (hC : Go.Pm.Fix E isRec C) (hR : RecOk C R) (t_Nodes : (List NodeType)) (t_Edges : (List EdgeType)) (w : (List Int)) (g_Nodes : (List Int)) (g_Edges : (List Edge))  :
    C.pureC 39 [Go.Pm.PV.agg [Go.Pm.PV.lit (Go.Pm.rows t_Nodes) Go.Pm.fl0, Go.Pm.PV.lit (Go.Pm.rows t_Edges) Go.Pm.fl0], Go.Pm.PV.lit (Go.Pm.rows w) Go.Pm.fl0, Go.Pm.PV.agg [Go.Pm.PV.lit (Go.Pm.rows g_Nodes) Go.Pm.fl0, Go.Pm.PV.lit (Go.Pm.rows g_Edges) Go.Pm.fl0]] = Option.map (fun r => Go.Pm.PV.tup [Go.Pm.PV.int Go.IntKind.i64 r.1, Go.Pm.PV.int Go.IntKind.i64 r.2]) (f39 R (Types.mk t_Nodes t_Edges) w (Graph.mk g_Nodes g_Edges)) := by
  rw [Go.Pm.fix_pure hC (fn := Tryz.f39) rfl _ rfl rfl rfl]
  simp only [Go.Pm.W0, Go.Pm.W1, Go.Pm.W2, Go.Pm.W3, Go.Pm.W4, Go.Pm.W5, Go.Pm.W6, Go.Pm.W7, Go.Pm.W8, Go.Pm.W9, Go.Pm.Wc, WE, WT, WS, Nat.reduceAdd, Nat.reduceSub, Nat.reduceMul, Nat.reduceBEq, Nat.reduceLeDiff, Nat.reduceEqDiff, Nat.reduceLT, ↓reduceIte, nt39, co39, re39, rk39, Tryz.f39, kp39_0, kp39_2, ir38, rk38, ir59, rk59, f38_ok hC hR, f59_ok hC hR, f39, f39_l0_ok hC hR]
/-! scarfjoint/scarfjointref41.Rank -/
noncomputable def f16_l0 (R : Recs) (t : Types) (l : (List Stage)) (g : Graph)  : Nat → (List Int) → Int → Option ((List Int) × Int)
  | 0, _, _ => none
  | m0 + 1, out_1, i_2 =>
    (if (decide (i_2 < (((List.length l) : Nat) : Int))) then
     (Option.bind (Go.Pm.at? l i_2) fun x3 =>
     (Option.bind (Go.S.f39 R t x3.Weights g) fun x4 =>
     (if (!((x4).2 == (0 : Int))) then
     (some (([] : List Int), (x4).2))
    else (if (decide ((List.length (out_1 ++ [(x4).1])) ≤ Go.Pm.bound)) then
     (f16_l0 R t l g m0 (out_1 ++ [(x4).1]) (Go.Pm.w64 (i_2 + (1 : Int))))
    else none))))
    else (some (out_1, (0 : Int))))
noncomputable def f16 (R : Recs) (t : Types) (l : (List Stage)) (g : Graph) : Option ((List Int) × Int) :=
  (Option.bind (Go.S.f38 R t g) fun x0 =>
   (if (!(x0 == (0 : Int))) then
   (some (([] : List Int), x0))
  else (if (decide ((6 : Int) < (((List.length l) : Nat) : Int))) then
   (some (([] : List Int), (3 : Int)))
  else (f16_l0 R t l g Go.Pm.loopMax ([] : List Int) (0 : Int)))))
theorem f16_l0_ok {C : Go.Pm.Callee} {R : Recs} (hC : Go.Pm.Fix E isRec C) (hR : RecOk C R) {t_Nodes : (List NodeType)} {t_Edges : (List EdgeType)} {l : (List Stage)} {g_Nodes : (List Int)} {g_Edges : (List Edge)}    :
    ∀ (m0 : Nat) (out_1 : (List Int)) (i_2 : Int) (nout_1 : Nat), nout_1 = List.length out_1 → Go.Pm.lp (Go.Pm.machP E 16 C) [(Go.Pm.Fr.blk 0), (Go.Pm.Fr.seq 0 [1, 1, 1, 1, 1])] 0 [0, 0, 1, 0, 1, 1, 1, 1] m0 ⟨[Go.Pm.PV.undef, Go.Pm.PV.lit (Go.Pm.rows (l)) Go.Pm.fl0, Go.Pm.PV.undef, (Go.Pm.PV.ptr 0 0), Go.Pm.PV.undef, (Go.Pm.PV.ptr 1 0), Go.Pm.PV.undef, Go.Pm.PV.undef, Go.Pm.PV.undef, Go.Pm.PV.own 2 1 0 nout_1, Go.Pm.PV.int Go.IntKind.i64 i_2, Go.Pm.PV.undef, Go.Pm.PV.undef, Go.Pm.PV.undef, Go.Pm.PV.undef, Go.Pm.PV.undef, Go.Pm.PV.undef, Go.Pm.PV.undef, Go.Pm.PV.undef, Go.Pm.PV.undef, Go.Pm.PV.undef, Go.Pm.PV.undef, Go.Pm.PV.undef, Go.Pm.PV.undef, Go.Pm.PV.undef, Go.Pm.PV.undef, Go.Pm.PV.undef, Go.Pm.PV.undef, Go.Pm.PV.undef, Go.Pm.PV.undef, Go.Pm.PV.undef, Go.Pm.PV.undef, Go.Pm.PV.undef, Go.Pm.PV.undef, Go.Pm.PV.undef, Go.Pm.PV.undef, Go.Pm.PV.undef, Go.Pm.PV.undef, Go.Pm.PV.undef, Go.Pm.PV.undef, Go.Pm.PV.undef, Go.Pm.PV.undef, Go.Pm.PV.undef, Go.Pm.PV.undef, Go.Pm.PV.undef, Go.Pm.PV.undef, Go.Pm.PV.undef], [(0, Go.Pm.PObj.box [Go.Pm.PV.lit (Go.Pm.rows (t_Nodes)) Go.Pm.fl0, Go.Pm.PV.lit (Go.Pm.rows (t_Edges)) Go.Pm.fl0]), (1, Go.Pm.PObj.box [Go.Pm.PV.lit (Go.Pm.rows (g_Nodes)) Go.Pm.fl0, Go.Pm.PV.lit (Go.Pm.rows (g_Edges)) Go.Pm.fl0]), (2, Go.Pm.PObj.arr 1 (Go.Pm.rows out_1) Bool.false Bool.false)], 3⟩ = Option.map (fun r => Go.Pm.PV.tup [Go.Pm.PV.lit (Go.Pm.rows r.1) ⟨true, false⟩, Go.Pm.PV.int Go.IntKind.i64 r.2]) (f16_l0 R (Types.mk t_Nodes t_Edges) l (Graph.mk g_Nodes g_Edges) m0 out_1 i_2) := by
  intro m0
  induction m0 with
  | zero => intros; rw [Go.Pm.lp_zero]; rfl
  | succ m0 ih =>
    intro out_1 i_2 nout_1 hout_1
    subst hout_1
    rw [Go.Pm.lp_succ]
    simp only [Go.Pm.W0, Go.Pm.W1, Go.Pm.W2, Go.Pm.W3, Go.Pm.W4, Go.Pm.W5, Go.Pm.W6, Go.Pm.W7, Go.Pm.W8, Go.Pm.W9, Go.Pm.Wc, WE, WT, WS, Nat.reduceAdd, Nat.reduceSub, Nat.reduceMul, Nat.reduceBEq, Nat.reduceLeDiff, Nat.reduceEqDiff, Nat.reduceLT, ↓reduceIte, nt16, co16, re16, rk16, Tryz.f16, kp16_0, pa16_10, ir38, rk38, ir39, rk39, f38_ok hC hR, f39_ok hC hR, f16_l0, ih]
theorem f16_ok {C : Go.Pm.Callee} {R : Recs} (hC : Go.Pm.Fix E isRec C) (hR : RecOk C R) (t_Nodes : (List NodeType)) (t_Edges : (List EdgeType)) (l : (List Stage)) (g_Nodes : (List Int)) (g_Edges : (List Edge))  :
    C.pureC 16 [Go.Pm.PV.agg [Go.Pm.PV.lit (Go.Pm.rows t_Nodes) Go.Pm.fl0, Go.Pm.PV.lit (Go.Pm.rows t_Edges) Go.Pm.fl0], Go.Pm.PV.lit (Go.Pm.rows l) Go.Pm.fl0, Go.Pm.PV.agg [Go.Pm.PV.lit (Go.Pm.rows g_Nodes) Go.Pm.fl0, Go.Pm.PV.lit (Go.Pm.rows g_Edges) Go.Pm.fl0]] = Option.map (fun r => Go.Pm.PV.tup [Go.Pm.PV.lit (Go.Pm.rows r.1) ⟨true, false⟩, Go.Pm.PV.int Go.IntKind.i64 r.2]) (f16 R (Types.mk t_Nodes t_Edges) l (Graph.mk g_Nodes g_Edges)) := by
  have e_0_0 := fun (t_Nodes : (List NodeType)) (t_Edges : (List EdgeType)) (l : (List Stage)) (g_Nodes : (List Int)) (g_Edges : (List Edge)) (e2 : Int) => f16_l0_ok (C := C) (R := R) (t_Nodes := t_Nodes) (t_Edges := t_Edges) (l := l) (g_Nodes := g_Nodes) (g_Edges := g_Edges) hC hR Go.Pm.loopMax (([] : List Int)) e2 _ rfl
  simp only [Go.Pm.rows_nil, Go.Pm.rows_cons, Go.Pm.cells_int, Go.Pm.cells_bool, Go.Pm.cells_str, Go.Pm.cells_list, WS, List.length_nil, List.length_cons, Nat.reduceAdd] at e_0_0
  rw [Go.Pm.fix_pure hC (fn := Tryz.f16) rfl _ rfl rfl rfl]
  simp only [Go.Pm.W0, Go.Pm.W1, Go.Pm.W2, Go.Pm.W3, Go.Pm.W4, Go.Pm.W5, Go.Pm.W6, Go.Pm.W7, Go.Pm.W8, Go.Pm.W9, Go.Pm.Wc, WE, WT, WS, Nat.reduceAdd, Nat.reduceSub, Nat.reduceMul, Nat.reduceBEq, Nat.reduceLeDiff, Nat.reduceEqDiff, Nat.reduceLT, ↓reduceIte, nt16, co16, re16, rk16, Tryz.f16, kp16_0, pa16_10, ir38, rk38, ir39, rk39, f38_ok hC hR, f39_ok hC hR, f16, e_0_0]
/-! slices.Equal[[]int,int] -/
noncomputable def f17_l0 (s1 : (List Int)) (s2 : (List Int))  : Nat → Int → Option Bool
  | 0, _ => none
  | m0 + 1, v13_0 =>
    (if (decide (v13_0 < (((List.length s1) : Nat) : Int))) then
     (Option.bind (Go.Pm.at? s1 v13_0) fun x1 =>
     (Option.bind (Go.Pm.at? s2 v13_0) fun x2 =>
     (if (!(x1 == x2)) then
     (some Bool.false)
    else (f17_l0 s1 s2 m0 (Go.Pm.w64 (v13_0 + (1 : Int)))))))
    else (some Bool.true))
noncomputable def f17 (s1 : (List Int)) (s2 : (List Int)) : Option Bool :=
  (if (!((((List.length s1) : Nat) : Int) == (((List.length s2) : Nat) : Int))) then
   (some Bool.false)
  else (f17_l0 s1 s2 Go.Pm.loopMax (0 : Int)))
theorem f17_l0_ok {C : Go.Pm.Callee} {R : Recs} (hC : Go.Pm.Fix E isRec C) (hR : RecOk C R) {s1 : (List Int)} {s2 : (List Int)}    :
    ∀ (m0 : Nat) (v13_0 : Int) , Go.Pm.lp (Go.Pm.machP E 17 C) [(Go.Pm.Fr.blk 0), (Go.Pm.Fr.seq 0 [1, 1, 1])] 0 [0, 0, 1, 0, 1, 1] m0 ⟨[Go.Pm.PV.lit (Go.Pm.rows (s1)) Go.Pm.fl0, Go.Pm.PV.lit (Go.Pm.rows (s2)) Go.Pm.fl0, Go.Pm.PV.undef, Go.Pm.PV.undef, Go.Pm.PV.undef, Go.Pm.PV.undef, Go.Pm.PV.undef, Go.Pm.PV.undef, Go.Pm.PV.undef, Go.Pm.PV.undef, Go.Pm.PV.undef, Go.Pm.PV.undef, Go.Pm.PV.int Go.IntKind.i64 ((((List.length s1) : Nat) : Int)), Go.Pm.PV.int Go.IntKind.i64 v13_0, Go.Pm.PV.undef, Go.Pm.PV.undef, Go.Pm.PV.undef, Go.Pm.PV.undef, Go.Pm.PV.undef, Go.Pm.PV.undef, Go.Pm.PV.undef, Go.Pm.PV.undef, Go.Pm.PV.undef, Go.Pm.PV.undef, Go.Pm.PV.undef, Go.Pm.PV.undef], [], 0⟩ = Option.map (fun r => Go.Pm.PV.bool r) (f17_l0 s1 s2 m0 v13_0) := by
  intro m0
  induction m0 with
  | zero => intros; rw [Go.Pm.lp_zero]; rfl
  | succ m0 ih =>
    intro v13_0
    rw [Go.Pm.lp_succ]
    simp only [Go.Pm.W0, Go.Pm.W1, Go.Pm.W2, Go.Pm.W3, Go.Pm.W4, Go.Pm.W5, Go.Pm.W6, Go.Pm.W7, Go.Pm.W8, Go.Pm.W9, Go.Pm.Wc, WE, WT, WS, Nat.reduceAdd, Nat.reduceSub, Nat.reduceMul, Nat.reduceBEq, Nat.reduceLeDiff, Nat.reduceEqDiff, Nat.reduceLT, ↓reduceIte, nt17, co17, re17, rk17, Tryz.f17, kp17_0, pa17_6, f17_l0, ih]
theorem f17_ok {C : Go.Pm.Callee} {R : Recs} (hC : Go.Pm.Fix E isRec C) (hR : RecOk C R) (s1 : (List Int)) (s2 : (List Int))  :
    C.pureC 17 [Go.Pm.PV.lit (Go.Pm.rows s1) Go.Pm.fl0, Go.Pm.PV.lit (Go.Pm.rows s2) Go.Pm.fl0] = Option.map (fun r => Go.Pm.PV.bool r) (f17 s1 s2) := by
  rw [Go.Pm.fix_pure hC (fn := Tryz.f17) rfl _ rfl rfl rfl]
  simp only [Go.Pm.W0, Go.Pm.W1, Go.Pm.W2, Go.Pm.W3, Go.Pm.W4, Go.Pm.W5, Go.Pm.W6, Go.Pm.W7, Go.Pm.W8, Go.Pm.W9, Go.Pm.Wc, WE, WT, WS, Nat.reduceAdd, Nat.reduceSub, Nat.reduceMul, Nat.reduceBEq, Nat.reduceLeDiff, Nat.reduceEqDiff, Nat.reduceLT, ↓reduceIte, nt17, co17, re17, rk17, Tryz.f17, kp17_0, pa17_6, f17, f17_l0_ok hC hR]
/-! scarfjoint/scarfjointlaw41.CountingRank -/
noncomputable def f4 (R : Recs) (t : Types) (s : (List Stage)) (g : Graph) : Option Bool :=
  (Option.bind R.f6 fun x0 =>
   (if (!x0) then
   (Option.bind R.f6 fun x1 =>
   (some x1))
  else (Option.bind (Go.S.f13 t) fun x2 =>
   (if (!x2) then
   (Option.bind R.f6 fun x3 =>
   (some x3))
  else (if (decide ((45 : Int) < (((List.length g.Nodes) : Nat) : Int))) then
   (Option.bind R.f6 fun x4 =>
   (some x4))
  else (if (decide ((90 : Int) < (((List.length g.Edges) : Nat) : Int))) then
   (Option.bind R.f6 fun x5 =>
   (some x5))
  else (if (decide ((10 : Int) < (((List.length s) : Nat) : Int))) then
   (Option.bind R.f6 fun x6 =>
   (some x6))
  else (Option.bind (Go.S.f8_1_14 s) fun x7 =>
   (if x7 then
   (Option.bind R.f6 fun x8 =>
   (some x8))
  else (Option.bind (Go.S.f11 s) fun x9 =>
   (Option.bind (Go.S.f15 R t x9 g) fun x10 =>
   (Option.bind (Go.S.f16 R t s g) fun x11 =>
   (if ((x10).2 == (x11).2) then
   (Option.bind (Go.S.f17 (x10).1 (x11).1) fun x12 =>
   (some x12))
  else (some Bool.false))))))))))))))
theorem f4_ok {C : Go.Pm.Callee} {R : Recs} (hC : Go.Pm.Fix E isRec C) (hR : RecOk C R) (t_Nodes : (List NodeType)) (t_Edges : (List EdgeType)) (s : (List Stage)) (g_Nodes : (List Int)) (g_Edges : (List Edge))  :
    C.pureC 4 [Go.Pm.PV.agg [Go.Pm.PV.lit (Go.Pm.rows t_Nodes) Go.Pm.fl0, Go.Pm.PV.lit (Go.Pm.rows t_Edges) Go.Pm.fl0], Go.Pm.PV.lit (Go.Pm.rows s) Go.Pm.fl0, Go.Pm.PV.agg [Go.Pm.PV.lit (Go.Pm.rows g_Nodes) Go.Pm.fl0, Go.Pm.PV.lit (Go.Pm.rows g_Edges) Go.Pm.fl0]] = Option.map (fun r => Go.Pm.PV.bool r) (f4 R (Types.mk t_Nodes t_Edges) s (Graph.mk g_Nodes g_Edges)) := by
  rw [Go.Pm.fix_pure hC (fn := Tryz.f4) rfl _ rfl rfl rfl]
  simp only [Go.Pm.W0, Go.Pm.W1, Go.Pm.W2, Go.Pm.W3, Go.Pm.W4, Go.Pm.W5, Go.Pm.W6, Go.Pm.W7, Go.Pm.W8, Go.Pm.W9, Go.Pm.Wc, WE, WT, WS, Nat.reduceAdd, Nat.reduceSub, Nat.reduceMul, Nat.reduceBEq, Nat.reduceLeDiff, Nat.reduceEqDiff, Nat.reduceLT, ↓reduceIte, nt4, co4, re4, rk4, Tryz.f4, pa4_3, ir6, rk6, ir8, rk8, ir11, rk11, ir13, rk13, ir14, rk14, ir15, rk15, ir16, rk16, ir17, rk17, hR.f6, f13_ok hC hR, f8_1_14_ok hC hR, f11_ok hC hR, f15_ok hC hR, f16_ok hC hR, f17_ok hC hR, f4]
end Go.S
