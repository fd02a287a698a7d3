import Derived.Test.YtjkkigeefoncmaaGreatSPrim
import Derived.Test.YtjkkigeefoncmaaGreatPmInsert
set_option linter.all false
namespace Go.S
open Go Go.Pm Go.Proofs Go.RowKit Go.Lib
set_option maxHeartbeats 4000000
set_option maxRecDepth 100000
theorem insRoom (g o n c i vb vo m vc : Nat) (C D : Array Value) (e0 e1 : Nat) (cs vs : List Value) (w : World) (hi : i < n) (hm : 0 < m) (hroom : n + m ≤ c) (hvb : vb ≠ g)
    (hg : w.heap[g]? = some (.cells C e0 (0, 0))) (hsz : o + (n + m) * 4 ≤ C.size) (hcl : cs.length = (n - i) * 4) (hcs : ∀ j v, cs[j]? = some v → C[o + i * 4 + j]? = some v)
    (hd : w.heap[vb]? = some (.cells D e1 (0, 0))) (hvl : vs.length = m * 4) (hvs : ∀ j v, vs[j]? = some v → D[vo + j]? = some v) (h1c : ∀ v ∈ cs, v.oneCell' = true) (h1v : ∀ v ∈ vs, v.oneCell' = true) (hbig : n + m ≤ 1073741824) :
    Calls Tryz.prog 86 #[.slice (some ⟨g, o, none⟩) n c, .int .i64 i, .slice (some ⟨vb, vo, none⟩) m vc] w fun en w' =>
      en = .returned (.slice (some ⟨g, o, none⟩) (n + m) c) ∧ w' = (w.drew.setRow g (splc C (o + (i + m) * 4) cs)).setRow g (splc (splc C (o + (i + m) * 4) cs) (o + i * 4) vs) := by
  have mixed : Tryz.prog.follows Departure.mixedOrders = true := rfl
  have t73 := Tryz.underlying73
  have u73 := run_underlying Tryz.underlying73
  have hz1 : ¬ ((m : Int) = 0) := by omega
  have hz2 : ¬ ((i : Int) = (n : Int)) := by omega
  have hsz4 : (Tryz.prog.info? 109).map (·.size) = some 4 := rfl
  have hov : ∀ lb cb q, (callFunc 129 #[.slice (some ⟨vb, vo, none⟩) m vc, .slice (some ⟨g, q, none⟩) lb cb]).run Tryz.prog w = .ok (.value (.bool false)) w := fun lb cb q => by
    rw [run_callFunc_extern Tryz.func129 (by kernel_rfl) (by kernel_rfl) (by kernel_rfl) (e := Extern.SlicesOverlaps.overlaps #[73, 73] #[4]) (by kernel_rfl),
      Lib.run_overlaps_apart w 73 4 109 Tryz.underlying73 4 Tryz.sizeOf109 ⟨vb, vo, none⟩ ⟨g, q, none⟩ m vc lb cb hvb e1 e0 D.size C.size (by simp [World.shape?, hd]) (by simp [World.shape?, hg]) (by omega) (by simp [World.frozen?, hd]) (by simp [World.frozen?, hd])]
    rfl
  have hw1 : IntKind.i64.wrap ((i : Int) + (m : Int)) = (i : Int) + (m : Int) := by rw [IntKind.wrap_i64]; omega
  have hb1 : (0 : Int) ≤ (i : Int) + (m : Int) := by omega
  have hin : i ≤ n := by omega
  have htn : ((i : Int) + (m : Int)).toNat = i + m := by omega
  have hb2 : ¬ (c = i + m) := by omega
  have hb3 : (i : Int) ≤ (n : Int) + (m : Int) := by omega
  have hb4 : ¬ (c = i) := by omega
  have hcp1 : ∀ ty dc sc, (Builtin.copy_ #[73, 73] ty #[.slice (some ⟨g, o + (i + m) * 4, none⟩) (n + m - (i + m)) dc, .slice (some ⟨g, o + i * 4, none⟩) (n + m - i) sc]).run Tryz.prog w.drew = .ok (goInt (Nat.min (n + m - i) (n + m - (i + m)))) (w.drew.setRow g (splc C (o + (i + m) * 4) cs)) := fun ty dc sc =>
    run_copy_splc w.drew _ _ ty 109 g (o + (i + m) * 4) (n + m - (i + m)) dc ⟨g, o + i * 4, none⟩ (n + m - i) sc C e0 cs 4 t73 hsz4 hg (by rw [hcl]; congr 1; simp only [Nat.min_def]; split <;> omega)
      (fun j v hj => by rw [Addr.add_lit]; simp only [World.cell?]; rw [show w.drew.heap = w.heap from rfl, hg]; exact hcs j v hj)
      (by rw [hcl]; omega) h1c
  obtain ⟨C1, hC1⟩ : ∃ C1, C1 = splc C (o + (i + m) * 4) cs := ⟨_, rfl⟩
  obtain ⟨W1, hW1⟩ : ∃ W1, W1 = w.drew.setRow g C1 := ⟨_, rfl⟩
  have hC1s : C1.size = C.size := by rw [hC1]; exact splc_size (by rw [hcl]; omega)
  have hW1g : W1.heap[g]? = some (.cells C1 e0 (0, 0)) := by rw [hW1]; exact setRow_heap _ _ _ _ _ _ hg
  have hW1d : W1.heap[vb]? = some (.cells D e1 (0, 0)) := by
    rw [hW1]; simp only [World.setRow, Array.getElem?_modify]
    rw [if_neg (fun h => hvb h.symm)]; exact hd
  have hcp2 : ∀ (W : World), W.heap = W1.heap → ∀ ty dc, (Builtin.copy_ #[73, 73] ty #[.slice (some ⟨g, o + i * 4, none⟩) (n + m - i) dc, .slice (some ⟨vb, vo, none⟩) m vc]).run Tryz.prog W = .ok (goInt (Nat.min m (n + m - i))) (W.setRow g (splc C1 (o + i * 4) vs)) := fun W hW ty dc =>
    run_copy_splc W _ _ ty 109 g (o + i * 4) (n + m - i) dc ⟨vb, vo, none⟩ m vc C1 e0 vs 4 t73 hsz4 (by rw [hW]; exact hW1g) (by rw [hvl]; congr 1; simp only [Nat.min_def]; split <;> omega)
      (fun j v hj => by rw [Addr.add_lit]; simp only [World.cell?]; rw [hW, hW1d]; exact hvs j v hj)
      (by rw [hvl, hC1s]; omega) h1v
  rw [← hC1] at hcp1 ⊢
  rw [← hW1] at hcp1
  go_enter Tryz.func86, Tryz.ntmps86
  go_wp2_with (simp only [hov])
  go_region_law_o (refine step_copy_run rfl _ _ 73 73 rfl _ _ (by simp [Act.eval, Act.put]) (by simp [Act.eval, Act.put]) (hcp1 _ _ _) ?_)
  go_wp2_with (at_builtin; refine wpList_copy_run _ rfl _ _ 73 73 rfl _ _ rfl rfl (hcp2 _ rfl _ _) ?_)
  go_ret
  exact ⟨rfl, by subst hC1; rfl⟩
/-- Zero cells of a row. -/
theorem insGrow (g o n c i vb vo m vc : Nat) (C D : Array Value) (e0 e1 : Nat) (os cs vs : List Value) (w : World) (hi : i < n) (hm : 0 < m) (hnc : n ≤ c) (hroom : c < n + m)
    (hg : w.heap[g]? = some (.cells C e0 (0, 0))) (hol : os.length = i * 4) (hos : ∀ j v, os[j]? = some v → C[o + j]? = some v) (hcl : cs.length = (n - i) * 4) (hcs : ∀ j v, cs[j]? = some v → C[o + i * 4 + j]? = some v)
    (hd : w.heap[vb]? = some (.cells D e1 (0, 0))) (hvl : vs.length = m * 4) (hvs : ∀ j v, vs[j]? = some v → D[vo + j]? = some v) (h1c : ∀ v ∈ cs, v.oneCell' = true) (h1v : ∀ v ∈ vs, v.oneCell' = true) (hbig : n + m ≤ 1073741824) :
    Calls Tryz.prog 86 #[.slice (some ⟨g, o, none⟩) n c, .int .i64 i, .slice (some ⟨vb, vo, none⟩) m vc] w fun en w' => ∃ (R : Array Value) (G : Nat), en = .returned (.slice (some ⟨w.heap.size, 0, none⟩) (n + m) G) ∧ n + m ≤ G ∧ R.size = G * 4 ∧ (∀ j, j < i * 4 → R[j]? = os[j]?) ∧ w'.os = w.os ∧ w'.tape = w.tape ∧ w'.output = w.output ∧
      w'.heap = ((w.alloc (.cells (splc (splc R (i * 4) vs) ((i + m) * 4) cs) 109))).heap := by
  have mixed : Tryz.prog.follows Departure.mixedOrders = true := rfl
  have t73 := Tryz.underlying73
  have u73 := run_underlying Tryz.underlying73
  have hz1 : ¬ ((m : Int) = 0) := by omega
  have hz2 : ¬ ((i : Int) = (n : Int)) := by omega
  have hz3 : (c : Int) < (n : Int) + (m : Int) := by omega
  have hsz4 : (Tryz.prog.info? 109).map (·.size) = some 4 := rfl
  have hbw : g < w.heap.size := by rcases Nat.lt_or_ge g w.heap.size with h | h; exact h; simp [Array.getElem?_eq_none h] at hg
  have hvw : vb < w.heap.size := by rcases Nat.lt_or_ge vb w.heap.size with h | h; exact h; simp [Array.getElem?_eq_none h] at hd
  have hkk : (n : Int) + (m : Int) - (i : Int) = ((n + m - i : Nat) : Int) := by omega
  have hik : i + (n + m - i) = n + m := by omega
  have hold : (Builtin.firstCells 4 i (.slice (some ⟨g, o, none⟩) i c)).run Tryz.prog w.drew = .ok os.toArray w.drew :=
    run_firstCells_some w.drew 4 i ⟨g, o, none⟩ i c os hol (fun j v hj => by
      rw [Addr.add_lit]; simp only [World.cell?]; rw [show w.drew.heap = w.heap from rfl, hg]; exact hos j v hj)
  obtain ⟨z, hz, hzs⟩ : ∃ z, Tryz.t109.zero = some z ∧ z.cells.size = 4 := ⟨_, rfl, rfl⟩
  obtain ⟨G, hG⟩ : ∃ G, G = grownCap w (n + m) c 109 := ⟨_, rfl⟩
  obtain ⟨R, hR⟩ : ∃ R, R = os.toArray ++ Builtin.zeroCells z.cells (n + m - i) ++ Builtin.zeroCells z.cells (G - (n + m)) := ⟨_, rfl⟩
  have hrz : ∀ ty, (Builtin.append_ #[73, 3] ty #[.slice (some ⟨g, o, none⟩) i c, .int .i64 ((n : Int) + (m : Int) - (i : Int))]).run Tryz.prog w =
      .ok (.slice (some ⟨w.heap.size, 0, none⟩) (n + m) G) (w.drew.alloc (.cells R 109)) := fun ty => by
    have h := Lib.run_append_grow_zeros w 73 3 ty 109 Tryz.t109 z .i64 .i64 Tryz.underlying73 Tryz.underlying3 Tryz.type109 hz (some ⟨g, o, none⟩) i c os hold (n + m - i) (by omega) (by decide) (by omega) (by omega) (by show (n + m - i) * 32 ≤ _; omega) (by rw [hik]; exact growslice_fits (bytes := 32) hroom (by omega))
    rw [hik, ← hG, ← hR] at h
    rw [hkk]
    exact h
  have hGn : n + m ≤ G := by rw [hG]; exact grownCap_ge w _ _ _
  have hRs : R.size = G * 4 := by rw [hR]; simp [Builtin.zeroCells, hol, hzs]; omega
  have hRo : ∀ j, j < i * 4 → R[j]? = os[j]? := fun j hj => by
    have hl : j < os.toArray.size := by simp [hol, hj]
    rw [hR, Array.append_assoc, Array.getElem?_append_left hl]; simp
  clear hR
  obtain ⟨W1, hW1⟩ : ∃ W1, W1 = w.drew.alloc (.cells R 109) := ⟨_, rfl⟩
  have hW1N : W1.heap[w.heap.size]? = some (.cells R 109 (0, 0)) := by rw [hW1]; exact heap_alloc_new w.drew _
  have hW1v : W1.heap[vb]? = some (.cells D e1 (0, 0)) := by rw [hW1]; rw [Below.heap_alloc w.drew _ vb hvw]; exact hd
  have hW1g : W1.heap[g]? = some (.cells C e0 (0, 0)) := by rw [hW1]; rw [Below.heap_alloc w.drew _ g hbw]; exact hg
  rw [← hW1] at hrz
  have hcpA : ∀ (W : World), W.heap = W1.heap → ∀ ty dc, (Builtin.copy_ #[73, 73] ty #[.slice (some ⟨w.heap.size, i * 4, none⟩) (n + m - i) dc, .slice (some ⟨vb, vo, none⟩) m vc]).run Tryz.prog W = .ok (goInt (Nat.min m (n + m - i))) (W.setRow w.heap.size (splc R (i * 4) vs)) := fun W hW ty dc =>
    run_copy_splc W _ _ ty 109 w.heap.size (i * 4) (n + m - i) dc ⟨vb, vo, none⟩ m vc R 109 vs 4 t73 hsz4 (by rw [hW]; exact hW1N) (by rw [hvl]; congr 1; simp only [Nat.min_def]; split <;> omega)
      (fun j v hj => by rw [Addr.add_lit]; simp only [World.cell?]; rw [hW, hW1v]; exact hvs j v hj)
      (by rw [hvl, hRs]; omega) h1v
  obtain ⟨R1, hR1⟩ : ∃ R1, R1 = splc R (i * 4) vs := ⟨_, rfl⟩
  have hR1s : R1.size = R.size := by rw [hR1]; exact splc_size (by rw [hvl, hRs]; omega)
  rw [← hR1] at hcpA
  obtain ⟨W2, hW2⟩ : ∃ W2, W2 = W1.setRow w.heap.size R1 := ⟨_, rfl⟩
  have hW2N : W2.heap[w.heap.size]? = some (.cells R1 109 (0, 0)) := by rw [hW2]; exact setRow_heap _ _ _ _ _ _ hW1N
  have hW2g : W2.heap[g]? = some (.cells C e0 (0, 0)) := by
    rw [hW2]; simp only [World.setRow, Array.getElem?_modify]
    rw [if_neg (fun h => by omega)]; exact hW1g
  have hGi : ¬ (G = i) := by omega
  have hGim : ¬ (G = i + m) := by omega
  have hci : ¬ (c = i) := by omega
  have hcpB : ∀ (W : World), W.heap = W2.heap → ∀ ty dc sc, (Builtin.copy_ #[73, 73] ty #[.slice (some ⟨w.heap.size, (i + m) * 4, none⟩) (n + m - (i + m)) dc, .slice (some ⟨g, o + i * 4, none⟩) (n - i) sc]).run Tryz.prog W = .ok (goInt (Nat.min (n - i) (n + m - (i + m)))) (W.setRow w.heap.size (splc R1 ((i + m) * 4) cs)) := fun W hW ty dc sc =>
    run_copy_splc W _ _ ty 109 w.heap.size ((i + m) * 4) (n + m - (i + m)) dc ⟨g, o + i * 4, none⟩ (n - i) sc R1 109 cs 4 t73 hsz4 (by rw [hW]; exact hW2N) (by rw [hcl]; congr 1; simp only [Nat.min_def]; split <;> omega)
      (fun j v hj => by rw [Addr.add_lit]; simp only [World.cell?]; rw [hW, hW2g]; exact hcs j v hj)
      (by rw [hcl, hR1s, hRs]; omega) h1c
  have hw1 : IntKind.i64.wrap ((i : Int) + (m : Int)) = (i : Int) + (m : Int) := by rw [IntKind.wrap_i64]; omega
  have hb1 : (0 : Int) ≤ (i : Int) + (m : Int) := by omega
  have hin : i ≤ n := by omega
  have htn : ((i : Int) + (m : Int)).toNat = i + m := by omega
  have hb3 : (i : Int) ≤ (n : Int) := by omega
  clear hkk hik hold hG
  go_enter Tryz.func86, Tryz.ntmps86
  go_wp2_with (first
    | (at_builtin; refine Lib.wpList_append_run _ rfl _ _ _ _ rfl _ _ rfl rfl _ _ (hrz _) ?_)
    | (at_builtin; refine wpList_copy_run _ rfl _ _ 73 73 rfl _ _ rfl rfl (hcpA _ rfl _ _) ?_))
  go_region_law_o (refine step_copy_run rfl _ _ 73 73 rfl (.slice (some ⟨w.heap.size, (i + m) * 4, none⟩) (n + m - (i + m)) (G - (i + m))) (.slice (some ⟨g, o + i * 4, none⟩) (n - i) (c - i)) (by simp [Act.eval, Act.put]) (by simp [Act.eval, Act.put]) (hcpB _ (by rw [hW2, hW1, hR1]; rfl) _ _ _) ?_)
  go_wp2
  go_ret
  refine ⟨R, G, rfl, hGn, hRs, hRo, rfl, rfl, rfl, ?_⟩
  exact (setRow_heap_congr (w' := (w.alloc (.cells (splc R (i * 4) vs) 109))) (alloc_set w R _ 109) _ _).trans (alloc_set w _ _ 109)

theorem BR_E (f r : Nat) (C : Pm.Callee) : (machR E0 f r C).E = E0 := rfl
theorem BR_C (f r : Nat) (C : Pm.Callee) : (machR E0 f r C).C = C := rfl
theorem BR_f (f r : Nat) (C : Pm.Callee) : (machR E0 f r C).f = f := rfl
theorem BR_nr (f r : Nat) (C : Pm.Callee) : (machR E0 f r C).nr = r := rfl
theorem BR_c (f r : Nat) (C : Pm.Callee) : (machR E0 f r C).c = codOf E0 f := rfl
theorem BR_D (f r : Nat) (C : Pm.Callee) : (machR E0 f r C).D = endR E0 f r := rfl
theorem insEnd (xs ys : List (List PV)) (hy : 0 < ys.length) (hb : xs.length + ys.length ≤ bound) : (level E0 (run E0 0)).refC 86 2 [.own 0 4 0 xs.length, .int .i64 xs.length, .own 1 4 0 ys.length] [(0, .arr 4 xs false false), (1, .arr 4 ys false false)] 2 =
      some (.own 2 4 0 (xs.length + ys.length), [(1, .arr 4 ys false false), (2, .arr 4 (xs ++ ys) false false)], 3) := by
  have hy0 : ((ys.length : Int) == 0) = false := by simp; intro h; rw [h] at hy; simp at hy
  have hxx : ((xs.length : Int) == xs.length) = true := by simp
  have h1 : decide ((0 : Int) ≤ (xs.length : Int) ∧ (xs.length : Int) ≤ xs.length) = true := by simp
  have h2 : (xs ++ ys).length ≤ bound := by simpa using hb
  rw [level_ref (fn := Tryz.f86) _ _ _ _ rfl rfl rfl rfl]
  simp only [Go.Pm.W0, Go.Pm.W1, Go.Pm.W2, Go.Pm.W3, Go.Pm.W4, Go.Pm.W5, Go.Pm.W6, Go.Pm.W7, Go.Pm.W8, Go.Pm.W9, Go.Pm.Wc, BR_E, BR_C, BR_f, BR_nr, BR_c, BR_D, B_tab, B_keep, B_keepR, B_keepE, B_pairs, B_resK, B_keepNil, B_isRef, B_co, B_nt, B_re, WT, Nat.reduceAdd, Nat.reduceSub, Nat.reduceMul, Nat.reduceBEq, Nat.reduceLeDiff, Nat.reduceEqDiff, Nat.reduceLT, ↓reduceIte, nt86, co86, re86, rk86, Tryz.f86, hy0, hxx, h1, h2, hb, decide_true, endR_r _ _ _ _ _ (B_keepE _), List.length_append]
theorem prim86 : PrimR Tryz.prog 86 (insertR 4) := insert_prim (E := E) E0_ok ⟨_, Tryz.func86, fo86.2.1, rfl⟩ ⟨insRoom, insGrow⟩ insEnd
theorem primR_ok : ∀ f p, E.primR f = some p → PrimR Tryz.prog f p := fun f p h =>
  tr_leaf (Q := fun f p => PrimR Tryz.prog f p) prim86 p h
theorem E_ok : EnvOK Tryz.prog E := ⟨tab_ok, code_ok, primP_ok, primR_ok⟩
end Go.S
