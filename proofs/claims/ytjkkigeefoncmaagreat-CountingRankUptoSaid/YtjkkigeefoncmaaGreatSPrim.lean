import Derived.Test.YtjkkigeefoncmaaGreatSOk
import Derived.Test.YtjkkigeefoncmaaGreatSTy
import Derived.Test.YtjkkigeefoncmaaGreatPmW
import Derived.Test.YtjkkigeefoncmaaGreatPmClone
import Derived.Shelf.RegionOpenPlain
import Derived.WalkKit
import Derived.Deep.LoopGhost
import Derived.Lib.Walk
import Derived.Lib.SliceRun
import Derived.Lib.Bytealg
set_option linter.all false
namespace Go.S
open Go Go.Pm Go.Proofs Go.RowKit Go.Lib
noncomputable def E0 : Env := bare E
theorem B_E (f : Nat) (C : Pm.Callee) : (machP E0 f C).E = E0 := rfl
theorem B_C (f : Nat) (C : Pm.Callee) : (machP E0 f C).C = C := rfl
theorem B_f (f : Nat) (C : Pm.Callee) : (machP E0 f C).f = f := rfl
theorem B_nr (f : Nat) (C : Pm.Callee) : (machP E0 f C).nr = 0 := rfl
theorem B_c (f : Nat) (C : Pm.Callee) : (machP E0 f C).c = codOf E0 f := rfl
theorem B_D (f : Nat) (C : Pm.Callee) : (machP E0 f C).D = endP E0 f := rfl
theorem B_tab : E0.tab = tab := rfl
theorem B_keep : E0.keep = keep := rfl
theorem B_keepR (f b : Nat) : E0.keepR f b = none := rfl
theorem B_keepE (f : Nat) : E0.keepE f = none := rfl
theorem B_pairs : E0.pairs = pairs := rfl
theorem B_resK : E0.resK = resK := rfl
theorem B_keepNil (f : Nat) : E0.keepNil f = false := rfl
theorem B_isRef : E0.isRef = isRef := rfl
theorem B_co (f : Nat) : codOf E0 f = codOf E f := rfl
theorem B_nt (f : Nat) : ntmOf E0 f = ntmOf E f := rfl
theorem B_re (f : Nat) : resOf E0 f = resOf E f := rfl
theorem eqn_lit (e s b : Nat) (z : List PV) (q : Bool) (xs : List (List PV)) (h : xs ≠ []) (fl : Fl) : binK (some ⟨.slice e, s, b, z, q⟩) .eql (some (.lit xs fl)) (some .nils) = some ⟨.bool false, [], []⟩ := by
  cases xs with
  | nil => exact absurd rfl h
  | cons x r => rfl
theorem sl_lit (k : Nat) (xs : List (List PV)) (fl : Bool) (h : (xs.all (fun x => x.length == k)) = true) : srcL k xs fl = some (xs, fl, []) := by simp only [srcL, h, ↓reduceIte]

set_option maxRecDepth 100000
set_option maxHeartbeats 2000000
theorem E0_ok : EnvOK Tryz.prog E0 := bare_ok tab_ok code_ok
theorem nil11 (n c : Nat) (w : World) :
    Calls Tryz.prog 11 #[.slice none n c] w fun e w' => e = .returned (.slice none 0 0) ∧ w' = w := by
  have q24 : ∀ (w : World) (a : Option Addr) (n c n' c' : Nat), (binOp .eql 27 (.slice a n c) (.slice none n' c')).run Tryz.prog w = .ok (.bool a.isNone) w := fun w a n c n' c' => Lib.run_eql_slice_nil w _ _ a n c n' c' Tryz.underlying27
  go_enter Tryz.func11, Tryz.ntmps11
  go_wp2
  go_ret
  exact ⟨rfl, rfl⟩
theorem zero11 (a : Addr) (c : Nat) (w : World) :
    Calls Tryz.prog 11 #[.slice (some a) 0 c] w fun e w' => ∃ v', e = .returned v' ∧ w'.ownsRow w.heap.size 33 2 v' 0 [] ∧ Below w.heap.size w w' := by
  have q24 : ∀ (w : World) (a : Option Addr) (n c n' c' : Nat), (binOp .eql 27 (.slice a n c) (.slice none n' c')).run Tryz.prog w = .ok (.bool a.isNone) w := fun w a n c n' c' => Lib.run_eql_slice_nil w _ _ a n c n' c' Tryz.underlying27
  have u24 : ∀ w, Sem.run Tryz.prog (underlying 27) w = .ok (TypeDesc.slice 33) w := run_underlying Tryz.underlying27
  go_enter Tryz.func11, Tryz.ntmps11
  go_wp2_with (at_builtin; refine wpList_append_own _ rfl _ _ 27 rfl w.heap.size 33 _ _ 2 48 Tryz.underlying27 Tryz.type33 rfl rfl rfl rfl (by decide) _ _ _ rfl (World.ownsRow_made w #[] 0 (Nat.le_refl _) (Nat.zero_le _) rfl) a 0 c [] rfl rfl (by intro j u hj; simp at hj) (by intro u hu; cases hu) (by unfold maxLen; omega) (by omega) (by simp) ?_)
  intro v' w1 hown hgrow hnil
  go_wp2
  go_ret
  refine ⟨v', rfl, by simpa using hown, ?_⟩
  exact ((Below.refl _ w).alloc (Nat.le_refl _) _).grown hgrow (by simp) (by intro k hk; simp [Value.ownBlock] at hk; omega)
theorem ne11 (xs : List (List PV)) (fl : Fl) (h0 : xs ≠ []) (h : (xs.all (fun x => x.length == 2)) = true) (hb : xs.length ≤ bound) :
    (level E0 (run E0 0)).pureC 11 [.lit xs fl] = some (.lit xs ⟨true, false⟩) := by
  rw [level_pure (fn := Tryz.f11) _ _ rfl rfl rfl]
  simp only [Go.Pm.W0, Go.Pm.W1, Go.Pm.W2, Go.Pm.W3, Go.Pm.W4, Go.Pm.W5, Go.Pm.W6, Go.Pm.W7, Go.Pm.W8, Go.Pm.W9, Go.Pm.Wc, B_E, B_C, B_f, B_nr, B_c, B_D, B_tab, B_keep, B_keepR, B_keepE, B_pairs, B_resK, B_keepNil, B_isRef, B_co, B_nt, B_re, WT, Nat.reduceAdd, Nat.reduceSub, Nat.reduceMul, Nat.reduceBEq, Nat.reduceLeDiff, Nat.reduceEqDiff, Nat.reduceLT, ↓reduceIte, nt11, co11, re11, rk11, Tryz.f11, eqn_lit _ _ _ _ _ xs h0, sl_lit 2 xs _ h, hb, decide_true, end_r _ _ _ _ (B_keepE _)]
theorem prim11 : PrimP Tryz.prog resK 11 (cloneP 2) := clone_prim (E := E) E0_ok ⟨_, Tryz.func11, fo11.2.1, rfl⟩ rfl ne11 nil11 zero11
theorem nil83 (n c : Nat) (w : World) :
    Calls Tryz.prog 83 #[.slice none n c] w fun e w' => e = .returned (.slice none 0 0) ∧ w' = w := by
  have q24 : ∀ (w : World) (a : Option Addr) (n c n' c' : Nat), (binOp .eql 73 (.slice a n c) (.slice none n' c')).run Tryz.prog w = .ok (.bool a.isNone) w := fun w a n c n' c' => Lib.run_eql_slice_nil w _ _ a n c n' c' Tryz.underlying73
  go_enter Tryz.func83, Tryz.ntmps83
  go_wp2
  go_ret
  exact ⟨rfl, rfl⟩
theorem zero83 (a : Addr) (c : Nat) (w : World) :
    Calls Tryz.prog 83 #[.slice (some a) 0 c] w fun e w' => ∃ v', e = .returned v' ∧ w'.ownsRow w.heap.size 109 4 v' 0 [] ∧ Below w.heap.size w w' := by
  have q24 : ∀ (w : World) (a : Option Addr) (n c n' c' : Nat), (binOp .eql 73 (.slice a n c) (.slice none n' c')).run Tryz.prog w = .ok (.bool a.isNone) w := fun w a n c n' c' => Lib.run_eql_slice_nil w _ _ a n c n' c' Tryz.underlying73
  have u24 : ∀ w, Sem.run Tryz.prog (underlying 73) w = .ok (TypeDesc.slice 109) w := run_underlying Tryz.underlying73
  go_enter Tryz.func83, Tryz.ntmps83
  go_wp2_with (at_builtin; refine wpList_append_own _ rfl _ _ 73 rfl w.heap.size 109 _ _ 4 32 Tryz.underlying73 Tryz.type109 rfl rfl rfl rfl (by decide) _ _ _ rfl (World.ownsRow_made w #[] 0 (Nat.le_refl _) (Nat.zero_le _) rfl) a 0 c [] rfl rfl (by intro j u hj; simp at hj) (by intro u hu; cases hu) (by unfold maxLen; omega) (by omega) (by simp) ?_)
  intro v' w1 hown hgrow hnil
  go_wp2
  go_ret
  refine ⟨v', rfl, by simpa using hown, ?_⟩
  exact ((Below.refl _ w).alloc (Nat.le_refl _) _).grown hgrow (by simp) (by intro k hk; simp [Value.ownBlock] at hk; omega)
theorem ne83 (xs : List (List PV)) (fl : Fl) (h0 : xs ≠ []) (h : (xs.all (fun x => x.length == 4)) = true) (hb : xs.length ≤ bound) :
    (level E0 (run E0 0)).pureC 83 [.lit xs fl] = some (.lit xs ⟨true, false⟩) := by
  rw [level_pure (fn := Tryz.f83) _ _ rfl rfl rfl]
  simp only [Go.Pm.W0, Go.Pm.W1, Go.Pm.W2, Go.Pm.W3, Go.Pm.W4, Go.Pm.W5, Go.Pm.W6, Go.Pm.W7, Go.Pm.W8, Go.Pm.W9, Go.Pm.Wc, B_E, B_C, B_f, B_nr, B_c, B_D, B_tab, B_keep, B_keepR, B_keepE, B_pairs, B_resK, B_keepNil, B_isRef, B_co, B_nt, B_re, WT, Nat.reduceAdd, Nat.reduceSub, Nat.reduceMul, Nat.reduceBEq, Nat.reduceLeDiff, Nat.reduceEqDiff, Nat.reduceLT, ↓reduceIte, nt83, co83, re83, rk83, Tryz.f83, eqn_lit _ _ _ _ _ xs h0, sl_lit 4 xs _ h, hb, decide_true, end_r _ _ _ _ (B_keepE _)]
theorem prim83 : PrimP Tryz.prog resK 83 (cloneP 4) := clone_prim (E := E) E0_ok ⟨_, Tryz.func83, fo83.2.1, rfl⟩ rfl ne83 nil83 zero83
theorem prim87 : PrimP Tryz.prog resK 87 noneP := none_prim
theorem nil95 (n c : Nat) (w : World) :
    Calls Tryz.prog 95 #[.slice none n c] w fun e w' => e = .returned (.slice none 0 0) ∧ w' = w := by
  have q24 : ∀ (w : World) (a : Option Addr) (n c n' c' : Nat), (binOp .eql 31 (.slice a n c) (.slice none n' c')).run Tryz.prog w = .ok (.bool a.isNone) w := fun w a n c n' c' => Lib.run_eql_slice_nil w _ _ a n c n' c' Tryz.underlying31
  go_enter Tryz.func95, Tryz.ntmps95
  go_wp2
  go_ret
  exact ⟨rfl, rfl⟩
theorem zero95 (a : Addr) (c : Nat) (w : World) :
    Calls Tryz.prog 95 #[.slice (some a) 0 c] w fun e w' => ∃ v', e = .returned v' ∧ w'.ownsRow w.heap.size 3 1 v' 0 [] ∧ Below w.heap.size w w' := by
  have q24 : ∀ (w : World) (a : Option Addr) (n c n' c' : Nat), (binOp .eql 31 (.slice a n c) (.slice none n' c')).run Tryz.prog w = .ok (.bool a.isNone) w := fun w a n c n' c' => Lib.run_eql_slice_nil w _ _ a n c n' c' Tryz.underlying31
  have u24 : ∀ w, Sem.run Tryz.prog (underlying 31) w = .ok (TypeDesc.slice 3) w := run_underlying Tryz.underlying31
  go_enter Tryz.func95, Tryz.ntmps95
  go_wp2_with (at_builtin; refine wpList_append_own _ rfl _ _ 31 rfl w.heap.size 3 _ _ 1 8 Tryz.underlying31 Tryz.type3 rfl rfl rfl rfl (by decide) _ _ _ rfl (World.ownsRow_made w #[] 0 (Nat.le_refl _) (Nat.zero_le _) rfl) a 0 c [] rfl rfl (by intro j u hj; simp at hj) (by intro u hu; cases hu) (by unfold maxLen; omega) (by omega) (by simp) ?_)
  intro v' w1 hown hgrow hnil
  go_wp2
  go_ret
  refine ⟨v', rfl, by simpa using hown, ?_⟩
  exact ((Below.refl _ w).alloc (Nat.le_refl _) _).grown hgrow (by simp) (by intro k hk; simp [Value.ownBlock] at hk; omega)
theorem ne95 (xs : List (List PV)) (fl : Fl) (h0 : xs ≠ []) (h : (xs.all (fun x => x.length == 1)) = true) (hb : xs.length ≤ bound) :
    (level E0 (run E0 0)).pureC 95 [.lit xs fl] = some (.lit xs ⟨true, false⟩) := by
  rw [level_pure (fn := Tryz.f95) _ _ rfl rfl rfl]
  simp only [Go.Pm.W0, Go.Pm.W1, Go.Pm.W2, Go.Pm.W3, Go.Pm.W4, Go.Pm.W5, Go.Pm.W6, Go.Pm.W7, Go.Pm.W8, Go.Pm.W9, Go.Pm.Wc, B_E, B_C, B_f, B_nr, B_c, B_D, B_tab, B_keep, B_keepR, B_keepE, B_pairs, B_resK, B_keepNil, B_isRef, B_co, B_nt, B_re, WT, Nat.reduceAdd, Nat.reduceSub, Nat.reduceMul, Nat.reduceBEq, Nat.reduceLeDiff, Nat.reduceEqDiff, Nat.reduceLT, ↓reduceIte, nt95, co95, re95, rk95, Tryz.f95, eqn_lit _ _ _ _ _ xs h0, sl_lit 1 xs _ h, hb, decide_true, end_r _ _ _ _ (B_keepE _)]
theorem prim95 : PrimP Tryz.prog resK 95 (cloneP 1) := clone_prim (E := E) E0_ok ⟨_, Tryz.func95, fo95.2.1, rfl⟩ rfl ne95 nil95 zero95
theorem ib237 (s : ByteArray) (c : Int) (w : World) :
    Calls Tryz.prog 237 #[.string s, .int .u8 c] w fun e w' => e = .returned (.int .i64 (Lib.indexByte s.data.toList c.toNat.toUInt8)) ∧ w' = w := by
  go_enter Tryz.func237, Tryz.ntmps237
  go_wp2
  rw [run_callFunc_extern Tryz.func250 (by kernel_rfl) (by kernel_rfl) (by kernel_rfl) (e := Extern.BytealgIndexByte.indexByte) (by kernel_rfl), Lib.run_indexByteString]
  simp only [Result.andThen]
  rw [Oper.upon_value]
  go_wp2
  go_ret
  exact ⟨rfl, rfl⟩
theorem prim237 : PrimP Tryz.prog resK 237 indexByteP := index_prim ⟨_, Tryz.func237, fo237.2.1, rfl⟩ ib237
theorem nil238 (n c : Nat) (w : World) :
    Calls Tryz.prog 238 #[.slice none n c] w fun e w' => e = .returned (.slice none 0 0) ∧ w' = w := by
  have q24 : ∀ (w : World) (a : Option Addr) (n c n' c' : Nat), (binOp .eql 68 (.slice a n c) (.slice none n' c')).run Tryz.prog w = .ok (.bool a.isNone) w := fun w a n c n' c' => Lib.run_eql_slice_nil w _ _ a n c n' c' Tryz.underlying68
  go_enter Tryz.func238, Tryz.ntmps238
  go_wp2
  go_ret
  exact ⟨rfl, rfl⟩
theorem zero238 (a : Addr) (c : Nat) (w : World) :
    Calls Tryz.prog 238 #[.slice (some a) 0 c] w fun e w' => ∃ v', e = .returned v' ∧ w'.ownsRow w.heap.size 9 1 v' 0 [] ∧ Below w.heap.size w w' := by
  have q24 : ∀ (w : World) (a : Option Addr) (n c n' c' : Nat), (binOp .eql 68 (.slice a n c) (.slice none n' c')).run Tryz.prog w = .ok (.bool a.isNone) w := fun w a n c n' c' => Lib.run_eql_slice_nil w _ _ a n c n' c' Tryz.underlying68
  have u24 : ∀ w, Sem.run Tryz.prog (underlying 68) w = .ok (TypeDesc.slice 9) w := run_underlying Tryz.underlying68
  go_enter Tryz.func238, Tryz.ntmps238
  go_wp2_with (at_builtin; refine wpList_append_own _ rfl _ _ 68 rfl w.heap.size 9 _ _ 1 16 Tryz.underlying68 Tryz.type9 rfl rfl rfl rfl (by decide) _ _ _ rfl (World.ownsRow_made w #[] 0 (Nat.le_refl _) (Nat.zero_le _) rfl) a 0 c [] rfl rfl (by intro j u hj; simp at hj) (by intro u hu; cases hu) (by unfold maxLen; omega) (by omega) (by simp) ?_)
  intro v' w1 hown hgrow hnil
  go_wp2
  go_ret
  refine ⟨v', rfl, by simpa using hown, ?_⟩
  exact ((Below.refl _ w).alloc (Nat.le_refl _) _).grown hgrow (by simp) (by intro k hk; simp [Value.ownBlock] at hk; omega)
theorem ne238 (xs : List (List PV)) (fl : Fl) (h0 : xs ≠ []) (h : (xs.all (fun x => x.length == 1)) = true) (hb : xs.length ≤ bound) :
    (level E0 (run E0 0)).pureC 238 [.lit xs fl] = some (.lit xs ⟨true, false⟩) := by
  rw [level_pure (fn := Tryz.f238) _ _ rfl rfl rfl]
  simp only [Go.Pm.W0, Go.Pm.W1, Go.Pm.W2, Go.Pm.W3, Go.Pm.W4, Go.Pm.W5, Go.Pm.W6, Go.Pm.W7, Go.Pm.W8, Go.Pm.W9, Go.Pm.Wc, B_E, B_C, B_f, B_nr, B_c, B_D, B_tab, B_keep, B_keepR, B_keepE, B_pairs, B_resK, B_keepNil, B_isRef, B_co, B_nt, B_re, WT, Nat.reduceAdd, Nat.reduceSub, Nat.reduceMul, Nat.reduceBEq, Nat.reduceLeDiff, Nat.reduceEqDiff, Nat.reduceLT, ↓reduceIte, nt238, co238, re238, rk238, Tryz.f238, eqn_lit _ _ _ _ _ xs h0, sl_lit 1 xs _ h, hb, decide_true, end_r _ _ _ _ (B_keepE _)]
theorem prim238 : PrimP Tryz.prog resK 238 (cloneP 1) := clone_prim (E := E) E0_ok ⟨_, Tryz.func238, fo238.2.1, rfl⟩ rfl ne238 nil238 zero238
theorem primP_ok : ∀ f p, primP f = some p → PrimP Tryz.prog resK f p := fun f p h =>
  (tr_node (tr_node (tr_leaf (Q := fun f p => PrimP Tryz.prog resK f p) prim11) (tr_node (tr_leaf (Q := fun f p => PrimP Tryz.prog resK f p) prim83) (tr_leaf (Q := fun f p => PrimP Tryz.prog resK f p) prim87))) (tr_node (tr_leaf (Q := fun f p => PrimP Tryz.prog resK f p) prim95) (tr_node (tr_leaf (Q := fun f p => PrimP Tryz.prog resK f p) prim237) (tr_leaf (Q := fun f p => PrimP Tryz.prog resK f p) prim238)))) p h
end Go.S
