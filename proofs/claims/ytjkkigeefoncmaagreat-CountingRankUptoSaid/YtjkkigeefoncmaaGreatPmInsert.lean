/-
  slices.Insert: what it does to rows.
-/
import Derived.Test.YtjkkigeefoncmaaGreatPmClone
import Derived.Laws.CopyRow
import Derived.Laws.Externs
import Derived.Lib.Overlaps
import Derived.Lib.AppendZerosOnto
import Derived.Shelf.RegionOpenPlain
import Derived.WalkKit
import Derived.Lib.Walk
import Derived.Lib.SliceRun
import Derived.Laws.NewBlocks
set_option linter.unusedVariables false
set_option linter.unusedSimpArgs false
namespace Go.Pm
open Go Go.Lib Go.RowKit
variable {P : Program}

theorem run_copy_splc (w : World) (dT sT ty elem : TypeId) (g o dLen dCap : Nat) (a : Addr) (sLen sCap : Nat) (cur : Array Value) (t : TypeId) (cs : List Value) (sz : Nat)
    (hu : P.underlying dT = some (.slice elem)) (hs : (P.info? elem).map (·.size) = some sz)
    (hg : w.heap[g]? = some (.cells cur t (0, 0))) (hn : cs.length = Nat.min sLen dLen * sz)
    (hsrc : ∀ j v, cs[j]? = some v → w.cell? (a.add j) = some v) (hfit : o + cs.length ≤ cur.size) (h1 : ∀ v ∈ cs, v.oneCell' = true) :
    (Builtin.copy_ #[dT, sT] ty #[.slice (some ⟨g, o, none⟩) dLen dCap, .slice (some a) sLen sCap]).run P w =
      .ok (goInt (Nat.min sLen dLen)) (w.setRow g (splc cur o cs)) := by
  have hl := run_loadCells_list (P := P) w a cs hsrc
  have hst := run_stores (P := P) hg hfit h1
  cases hq : P.info? elem with
  | none => simp [hq] at hs
  | some i =>
    have hi : i.size = sz := by simpa [hq] using hs
    simp [Builtin.copy_, run_underlying hu, Builtin.lenOf, Builtin.firstCells, sizeOf, typeInfo, hq, hi, ← hn, hl, hst]

/-- The operation 'copy' in a region. -/
theorem wp_copy_run (w : World) {o : Oper} {a : Act} {K : Act → World → Prop} {Q : Exit → Act → World → Prop} (d s : Operand) (t t' : TypeId)
    (ho : o.op = .call { callee := .builtin .copy, args := #[d, s], argTypes := #[t, t'] }) (v u : Value) (hd : a.eval d = v) (hs : a.eval s = u) {v' : Value} {w' : World}
    (hr : (Builtin.copy_ #[t, t'] o.type #[v, u]).run P w = .ok v' w') (h : K (a.put o.dst v') w') : o.wp P a w K Q := by
  unfold Oper.wp execOp
  simp only [ho, resolve, invoke, builtin, Sem.run_bind, Sem.run_pure, Result.andThen_ok, List.map_toArray, List.map_cons, List.map_nil, hd, hs, hr]
  exact h
theorem wpList_copy_run (w : World) {ops : Array Oper} {rest : List Oper} {o : Oper} {a : Act} {Q : Exit → Act → World → Prop} (hgd : o.guard = none) (d s : Operand) (t t' : TypeId)
    (ho : o.op = .call { callee := .builtin .copy, args := #[d, s], argTypes := #[t, t'] }) (v u : Value) (hd : a.eval d = v) (hs : a.eval s = u) {v' : Value} {w' : World}
    (hr : (Builtin.copy_ #[t, t'] o.type #[v, u]).run P w = .ok v' w') (h : wpList P ops Q rest (a.put o.dst v') w') : wpList P ops Q (o :: rest) a w :=
  wpList_plain hgd fun _ hK => wp_copy_run w d s t t' ho v u hd hs hr (hK _ _ h)
theorem step_copy_run {ops : Array Oper} {o : Oper} {a : Act} {w : World} {K : Act → World → Prop} {Q : Exit → Act → World → Prop} {E : Prop}
    (hg : o.guard = none) (d x : Operand) (dT sT : TypeId) (hop : o.op = Op.call { callee := Callee.builtin Builtin.copy, args := #[d, x], argTypes := #[dT, sT] })
    (v u : Value) (hd : a.eval d = v) (hx : a.eval x = u) {v' : Value} {w' : World} (hr : (Builtin.copy_ #[dT, sT] o.type #[v, u]).run P w = .ok v' w') (hK : K (a.put o.dst v') w') :
    if Region.wanted o (yielded ops a.tmps) = true then Oper.wp P o a w K Q else E := by
  have hw : Region.wanted o (yielded ops a.tmps) = true := by simp [Region.wanted, hg]
  rw [if_pos hw]
  unfold Oper.wp
  simp [execOp, hop, resolve, invoke, builtin, hd, hx, hr, Result.andThen]
  exact hK
theorem setRow_heap_congr {w w' : World} (h : w.heap = w'.heap) (g : Nat) (cs : Array Value) : (w.setRow g cs).heap = (w'.setRow g cs).heap := by
  simp only [World.setRow, h]
theorem alloc_set (w : World) (R R' : Array Value) (e : TypeId) : ((w.alloc (.cells R e)).setRow w.heap.size R').heap = (w.alloc (.cells R' e)).heap := by
  apply Array.ext_getElem?
  intro j
  rcases Nat.lt_or_ge j w.heap.size with h | h
  · rw [Below.heap_alloc w _ j h]
    simp only [World.setRow, Array.getElem?_modify]
    rw [if_neg (by omega), Below.heap_alloc w _ j h]
  · rcases Nat.eq_or_lt_of_le h with h | h
    · subst h
      rw [heap_alloc_new w (.cells R' e)]
      exact setRow_heap _ _ _ _ _ _ (heap_alloc_new w (.cells R e))
    · simp only [World.setRow, Array.getElem?_modify]
      rw [if_neg (by omega)]
      simp only [World.alloc]
      rw [Array.getElem?_eq_none (by simp; omega), Array.getElem?_eq_none (by simp; omega)]

section
variable {w : World} {B : Nat → Prop} {β : Map} {rd : Rd}
theorem Flat.drop {sz : Nat} {new : List (List PV)} {cells : List Value} (h : Flat w B β sz new cells) (n : Nat) (hn : n ≤ new.length) : Flat w B β sz (new.drop n) (cells.drop (n * sz)) where
  len := by
    rw [List.length_drop, List.length_drop, h.len, Nat.sub_mul]
  one := fun v hv => h.one v (List.mem_of_mem_drop hv)
  row := fun x hx => h.row x (List.mem_of_mem_drop hx)
  get := fun i x j p h1 h2 => by
    rw [List.getElem?_drop] at h1
    obtain ⟨v, g1, g2⟩ := h.get (n + i) x j p h1 h2
    refine ⟨v, ?_, g2⟩
    rw [List.getElem?_drop, ← g1]
    congr 1
    rw [Nat.add_mul]; omega

/-- The cells of a row, from a list. -/
theorem Flat.obj {K : Nat} {xs : List (List PV)} {X : List Value} (h : Flat w B (fun _ => none) K xs X) {l : Loc} (hk : l.k = K) {c : Array Value} (hc : ∀ q v, X[q]? = some v → c[l.off + q]? = some v) : ObjOK w B β (.arr K xs false false) l c :=
  ⟨fun h => by simp at h, h.row, hk, fun t x j p h1 h2 => by
    obtain ⟨v, g1, g2⟩ := h.get t x j p h1 h2
    refine ⟨v, ?_, h.one v (List.mem_of_getElem? g1), g2⟩
    rw [hk, Nat.add_assoc]; exact hc _ v g1⟩

theorem room_cells {C : Array Value} {os cs vs : List Value} {o a b : Nat} (ha : os.length = a) (hb : vs.length = b) (hsz : o + a + b + cs.length ≤ C.size) (ho : ∀ q v, os[q]? = some v → C[o + q]? = some v) :
    ∀ q v, (os ++ vs ++ cs)[q]? = some v → (splc (splc C (o + (a + b)) cs) (o + a) vs)[o + q]? = some v := fun q v hq => by
  have h1 : o + (a + b) + cs.length ≤ C.size := by omega
  have h2 : o + a + vs.length ≤ (splc C (o + (a + b)) cs).size := by rw [splc_size h1]; omega
  rw [splc_get h2, splc_get h1]
  by_cases g1 : q < a
  · rw [List.append_assoc, List.getElem?_append_left (by omega)] at hq
    rw [if_neg (by omega), if_neg (by omega)]
    exact ho q v hq
  · by_cases g2 : q < a + b
    · rw [List.append_assoc, List.getElem?_append_right (by omega), List.getElem?_append_left (by omega)] at hq
      rw [if_pos (by omega), ← hq]
      congr 1; omega
    · rw [List.getElem?_append_right (by simp; omega)] at hq
      have hlt := len_of_get hq
      rw [if_neg (by omega), if_pos (by simp at hlt; omega), ← hq]
      congr 1; simp; omega

structure Insert1 (P : Program) (f K : Nat) (e : TypeId) : Prop where
  room : ∀ (g o n c i vb vo m vc : Nat) (C D : Array Value) (e0 e1 : Nat) (cs vs : List Value) (w : World), i < n → 0 < m → n + m ≤ c → vb ≠ g →
    w.heap[g]? = some (.cells C e0 (0, 0)) → o + (n + m) * K ≤ C.size → cs.length = (n - i) * K → (∀ j v, cs[j]? = some v → C[o + i * K + j]? = some v) →
    w.heap[vb]? = some (.cells D e1 (0, 0)) → vs.length = m * K → (∀ j v, vs[j]? = some v → D[vo + j]? = some v) → (∀ v ∈ cs, v.oneCell' = true) → (∀ v ∈ vs, v.oneCell' = true) → n + m ≤ 1073741824 →
    Calls P f #[.slice (some ⟨g, o, none⟩) n c, .int .i64 i, .slice (some ⟨vb, vo, none⟩) m vc] w fun en w' =>
      en = .returned (.slice (some ⟨g, o, none⟩) (n + m) c) ∧ w' = (w.drew.setRow g (splc C (o + (i + m) * K) cs)).setRow g (splc (splc C (o + (i + m) * K) cs) (o + i * K) vs)
  grow : ∀ (g o n c i vb vo m vc : Nat) (C D : Array Value) (e0 e1 : Nat) (os cs vs : List Value) (w : World), i < n → 0 < m → n ≤ c → c < n + m →
    w.heap[g]? = some (.cells C e0 (0, 0)) → os.length = i * K → (∀ j v, os[j]? = some v → C[o + j]? = some v) → cs.length = (n - i) * K → (∀ j v, cs[j]? = some v → C[o + i * K + j]? = some v) →
    w.heap[vb]? = some (.cells D e1 (0, 0)) → vs.length = m * K → (∀ j v, vs[j]? = some v → D[vo + j]? = some v) → (∀ v ∈ cs, v.oneCell' = true) → (∀ v ∈ vs, v.oneCell' = true) → n + m ≤ 1073741824 →
    Calls P f #[.slice (some ⟨g, o, none⟩) n c, .int .i64 i, .slice (some ⟨vb, vo, none⟩) m vc] w fun en w' => ∃ (R : Array Value) (G : Nat), en = .returned (.slice (some ⟨w.heap.size, 0, none⟩) (n + m) G) ∧ n + m ≤ G ∧ R.size = G * K ∧ (∀ j, j < i * K → R[j]? = os[j]?) ∧ w'.os = w.os ∧ w'.tape = w.tape ∧ w'.output = w.output ∧
      w'.heap = ((w.alloc (.cells (splc (splc R (i * K) vs) ((i + m) * K) cs) e))).heap

theorem StepR.less {r r' : Nat} {w' : World} {B' : Nat → Prop} {β' : Map} {rd' : Rd} (h : StepR r w B β rd w' B' β' rd') (hr : r' ≤ r) : StepR r' w B β rd w' B' β' rd' :=
  ⟨h.sim, h.ext, h.bsub, h.bnew, h.muts, h.ins, fun a l ha => h.map a l (by omega)⟩
/-- A step into a world of the same heap. -/
theorem Step.heap {w' w'' : World} {B' : Nat → Prop} {β' : Map} {rd' : Rd} (h : Step w B β rd w' B' β' rd') (h1 : w''.heap = w'.heap) (h2 : w''.os = w'.os) (h3 : w''.tape = w'.tape) (h4 : w''.output = w'.output) : Step w B β rd w'' B' β' rd' :=
  h.trans ⟨h.sim.heap h1, ⟨h2, h3, h4, by rw [h1]; exact Nat.le_refl _, fun k _ _ => by rw [h1], fun b n hr => by obtain ⟨c, e, g1, g2⟩ := hr; exact ⟨c, e, by rw [h1]; exact g1, g2⟩⟩, fun _ h => h, fun _ h => .inl h, fun _ h => .inl h, fun _ h => .inl h, fun _ _ h => h⟩
end

theorem V.own_inv {w : World} {B : Nat → Prop} {β : Map} {a k off len : Nat} {u : Value} (h : V w B β (.own a k off len) u) (h0 : 0 < len) :
    ∃ l cap, β a = some l ∧ l.k = k ∧ len ≤ cap ∧ Room w l.block (l.off + (off + cap) * l.k) ∧ u = .slice (some ⟨l.block, l.off + off * l.k, none⟩) len cap := by
  cases h with
  | own0 => omega
  | own _ _ _ cap l hl hcap hroom => exact ⟨l, cap, hl, rfl, hcap, hroom, rfl⟩
theorem insert_core {E : Env} {f K : Nat} {e : TypeId} (hE : EnvOK P (bare E)) (hK : Insert1 P f K e)
    (hend : ∀ xs ys, 0 < ys.length → xs.length + ys.length ≤ bound → (level (bare E) (run (bare E) 0)).refC f 2 [.own 0 K 0 xs.length, .int .i64 xs.length, .own 1 K 0 ys.length] [(0, .arr K xs false false), (1, .arr K ys false false)] 2 =
      some (.own 2 K 0 (xs.length + ys.length), [(1, .arr K ys false false), (2, .arr K (xs ++ ys) false false)], 3))
    (xs ys : List (List PV)) (i : Int) (h0i : 0 ≤ i) (hin : i ≤ xs.length) (h0m : 0 < ys.length) (hbd : xs.length + ys.length ≤ bound) {w : World} {B : Nat → Prop} {β : Map} {va : Array Value}
    (hsim : Sim w B β (look [(0, .arr K xs false false), (1, .arr K ys false false)])) (hvs : Vs w B β [.own 0 K 0 xs.length, .int .i64 i, .own 1 K 0 ys.length] va.toList)
    (hfree : ∀ b, 2 ≤ b → β b = none ∧ look [(0, .arr K xs false false), (1, .arr K ys false false)] b = none) {r : Nat} (hr : r ≤ 2) :
    Calls P f va w (fun en w' => ∃ u B' β', en = .returned u ∧ StepR r w B β (look [(0, .arr K xs false false), (1, .arr K ys false false)]) w' B' β' (look [(1, .arr K ys false false), (2, .arr K (xs.take i.toNat ++ ys ++ xs.drop i.toNat) false false)]) ∧ V w' B' β' (.own 2 K 0 (xs.length + ys.length)) u ∧
      ∀ b, 3 ≤ b → β' b = none ∧ look [(1, .arr K ys false false), (2, .arr K (xs.take i.toNat ++ ys ++ xs.drop i.toNat) false false)] b = none) := by
  by_cases hend' : i = xs.length
  · subst hend'
    have h1 := hend xs ys h0m hbd
    refine Calls.mono ((run_ok hE 1).ref.calls f 2 _ _ _ _ _ _ (show (run (bare E) 1).refC f 2 _ _ _ = _ from h1) w B β va hsim hvs hfree (Nat.le_refl _)) ?_
    rintro en w' ⟨u, B', β', rfl, h2, h3, h4⟩
    have e : xs.take (xs.length : Int).toNat ++ ys ++ xs.drop (xs.length : Int).toNat = xs ++ ys := by simp
    rw [e]
    exact ⟨u, B', β', rfl, h2.less hr, h3, h4⟩
  · obtain ⟨j, rfl⟩ : ∃ j : Nat, i = j := ⟨i.toNat, by omega⟩
    have hj : j < xs.length := by omega
    simp only [Int.toNat_natCast]
    obtain ⟨v0, vs1, e0, h1, g1⟩ := hvs.uncons
    obtain ⟨v1, vs2, rfl, h2, g2⟩ := g1.uncons
    obtain ⟨v2, vs3, rfl, h3, g3⟩ := g2.uncons
    have := g3.of_nil; subst this
    have hva : va = #[v0, v1, v2] := by rw [← Array.toList_inj]; exact e0
    subst hva
    cases h2
    have hr0 : look [(0, PObj.arr K xs false false), (1, .arr K ys false false)] 0 = some (.arr K xs false false) := rfl
    have hr1 : look [(0, PObj.arr K xs false false), (1, .arr K ys false false)] 1 = some (.arr K ys false false) := rfl
    obtain ⟨c0, hx0⟩ : ∃ c, c = xs.length := ⟨_, rfl⟩
    obtain ⟨c1, hx1⟩ : ∃ c, c = ys.length := ⟨_, rfl⟩
    rw [← hx0] at h1; rw [← hx1] at h3
    obtain ⟨bx, capx, X, q1, q2, q3, q4, q5⟩ := src_ok (x := .own 0 K 0 xs.length) (sz := K) (new := xs) (nf := false) (foot := [0]) hsim (by simp [srcOf, hr0]) (by rw [← hx0]; exact h1)
    obtain ⟨by', capy, Y, p1, p2, p3, p4, p5⟩ := src_ok (x := .own 1 K 0 ys.length) (sz := K) (new := ys) (nf := false) (foot := [1]) hsim (by simp [srcOf, hr1]) (by rw [← hx1]; exact h3)
    obtain ⟨l, cap, hl, hlk, hcap, hroom, rfl⟩ := h1.own_inv (by omega)
    obtain ⟨l2, cap2, hl2, hlk2, hcap2, hroom2, rfl⟩ := h3.own_inv (by omega)
    simp at q1 p1
    obtain ⟨rfl, q1, rfl⟩ := q1
    obtain ⟨rfl, p1, rfl⟩ := p1
    subst hx0; subst hx1
    rw [hlk] at hroom
    have hx0' : xs ≠ [] := fun h => by rw [h] at hj; simp at hj
    have hy0' : ys ≠ [] := fun h => by rw [h] at h0m; simp at h0m
    obtain ⟨C, eC, hC, hCo⟩ := hsim.obj hr0 hl
    obtain ⟨D, eD, hD, hDo⟩ := hsim.obj hr1 hl2
    have hne : l2.block ≠ l.block := hsim.inj 1 0 _ _ _ _ hr1 hr0 (by decide) hl2 hl
    have hX : ∀ q v, X[q]? = some v → C[l.off + q]? = some v := fun q v hq => by
      rcases q4 with h | ⟨b, o, h, h'⟩
      · exact absurd h hx0'
      · simp at h; obtain ⟨rfl, rfl⟩ := h
        have := h' q v hq
        simp only [World.cell?, hC] at this
        simpa using this
    have hY : ∀ q v, Y[q]? = some v → D[l2.off + q]? = some v := fun q v hq => by
      rcases p4 with h | ⟨b, o, h, h'⟩
      · exact absurd h hy0'
      · simp at h; obtain ⟨rfl, rfl⟩ := h
        have := h' q v hq
        simp only [World.cell?, hD] at this
        simpa using this
    have hCs : l.off + cap * K ≤ C.size := by
      obtain ⟨c2, e2, hc2, hsize⟩ := hroom
      rw [hC] at hc2; simp at hc2; obtain ⟨rfl, rfl⟩ := hc2
      simpa using hsize
    have hXl : X.length = xs.length * K := q3.len
    have hYl : Y.length = ys.length * K := p3.len
    have hjK : j * K ≤ xs.length * K := Nat.mul_le_mul_right K (Nat.le_of_lt hj)
    have htl : (X.take (j * K)).length = j * K := by rw [List.length_take, hXl]; omega
    have hdl : (X.drop (j * K)).length = (xs.length - j) * K := by rw [List.length_drop, hXl, Nat.sub_mul]
    have hF : Flat w B (fun _ => none) K (xs.take j ++ ys ++ xs.drop j) (X.take (j * K) ++ Y ++ X.drop (j * K)) := ((q3.take j).append p3).append (Flat.drop q3 j (Nat.le_of_lt hj))
    have hcs : ∀ q v, (X.drop (j * K))[q]? = some v → C[l.off + j * K + q]? = some v := fun q v hq => by
      rw [List.getElem?_drop] at hq
      rw [Nat.add_assoc]; exact hX _ v hq
    have hos : ∀ q v, (X.take (j * K))[q]? = some v → C[l.off + q]? = some v := fun q v hq => by
      rw [List.getElem?_take] at hq
      split at hq
      · exact hX _ v hq
      · simp at hq
    have h1c : ∀ v ∈ X.drop (j * K), v.oneCell' = true := fun v hv => q3.one v (List.mem_of_mem_drop hv)
    have hlook : look [(1, PObj.arr K ys false false), (2, .arr K (xs.take j ++ ys ++ xs.drop j) false false)] = setR (setR (look [(0, PObj.arr K xs false false), (1, .arr K ys false false)]) 0 none) 2 (some (.arr K (xs.take j ++ ys ++ xs.drop j) false false)) := by
      funext b
      simp only [look, setR]
      by_cases h2 : b = 2
      · subst h2; simp
      · by_cases h1 : b = 1
        · subst h1; simp
        · by_cases h0 : b = 0
          · subst h0; simp
          · simp [h2, h1, h0, Ne.symm h2, Ne.symm h1, Ne.symm h0, beq_eq_false_iff_ne.2 (Ne.symm h2), beq_eq_false_iff_ne.2 (Ne.symm h1), beq_eq_false_iff_ne.2 (Ne.symm h0)]
    obtain ⟨hβ2, hr2⟩ := hfree 2 (Nat.le_refl _)
    have hsplit : (xs.length + ys.length) * K = j * K + ys.length * K + (xs.length - j) * K := by rw [Nat.add_mul, Nat.sub_mul]; omega
    have hbd' : xs.length + ys.length ≤ 1073741824 := hbd
    by_cases hrm : xs.length + ys.length ≤ cap
    · have hle := Nat.mul_le_mul_right K hrm
      refine Calls.mono (by simpa using hK.room l.block l.off xs.length cap j l2.block l2.off ys.length cap2 C D eC eD (X.drop (j * K)) Y w hj h0m hrm hne hC (by omega) hdl hcs hD hYl hY h1c p3.one hbd') ?_
      rintro en w' ⟨rfl, rfl⟩
      have hc1 : l.off + (j + ys.length) * K + (X.drop (j * K)).length ≤ C.size := by rw [hdl, Nat.add_mul]; omega
      have hc2 : l.off + j * K + Y.length ≤ (splc C (l.off + (j + ys.length) * K) (X.drop (j * K))).size := by rw [splc_size hc1, hYl]; omega
      have hd : w.drew.heap[l.block]? = some (.cells C eC (0, 0)) := hC
      have hw1 := rewr_setRow (c' := splc C (l.off + (j + ys.length) * K) (X.drop (j * K))) hd
      have hw2 := rewr_setRow (c' := splc (splc C (l.off + (j + ys.length) * K) (X.drop (j * K))) (l.off + j * K) Y) hw1.here
      have hw : Rewr w ((w.drew.setRow l.block (splc C (l.off + (j + ys.length) * K) (X.drop (j * K)))).setRow l.block (splc (splc C (l.off + (j + ys.length) * K) (X.drop (j * K))) (l.off + j * K) Y)) l.block (splc (splc C (l.off + (j + ys.length) * K) (X.drop (j * K))) (l.off + j * K) Y) eC :=
        ⟨hw2.os.trans hw1.os, hw2.tape.trans hw1.tape, hw2.output.trans hw1.output, hw2.size.trans hw1.size, hw2.here, fun d hd => (hw2.there d hd).trans (hw1.there d hd)⟩
      have hob := Flat.obj (β := β) hF (l := l) hlk (c := splc (splc C (l.off + (j + ys.length) * K) (X.drop (j * K))) (l.off + j * K) Y) (fun q v hq => by
        rw [Nat.add_mul]
        exact room_cells htl hYl (by rw [hdl]; omega) hos q v hq)
      have hst := Step.move hsim hr0 (by simp) hl hβ2 hr2 hC ((splc_size hc2).trans (splc_size hc1)) hw _ l rfl (by simp) hob
      rw [← hlook] at hst
      refine ⟨_, B, _, rfl, hst.toR r, ?_, fun b hb => ⟨?_, ?_⟩⟩
      · have := V.own (w := (w.drew.setRow l.block (splc C (l.off + (j + ys.length) * K) (X.drop (j * K)))).setRow l.block (splc (splc C (l.off + (j + ys.length) * K) (X.drop (j * K))) (l.off + j * K) Y)) (B := B) (β := setM β 2 l) 2 0 (xs.length + ys.length) cap l (by simp [setM]) hrm ⟨_, eC, hw.here, by rw [splc_size hc2, splc_size hc1, hlk]; simpa using hCs⟩
        rw [hlk] at this
        simpa using this
      · simp only [setM]; rw [if_neg (by omega)]; exact (hfree b (by omega)).1
      · simp only [look]; rw [if_neg (by simp; omega), if_neg (by simp; omega)]
    · refine Calls.mono (by simpa using hK.grow l.block l.off xs.length cap j l2.block l2.off ys.length cap2 C D eC eD (X.take (j * K)) (X.drop (j * K)) Y w hj h0m hcap (by omega) hC htl hos hdl hcs hD hYl hY h1c p3.one hbd') ?_
      rintro en w' ⟨R, G, rfl, hG, hRs, hRo, e1, e2, e3, e4⟩
      have hle := Nat.mul_le_mul_right K hG
      have hc1 : j * K + Y.length ≤ R.size := by rw [hYl, hRs]; omega
      have hc2 : (j + ys.length) * K + (X.drop (j * K)).length ≤ (splc R (j * K) Y).size := by rw [splc_size hc1, hdl, hRs, Nat.add_mul]; omega
      have hob := Flat.obj (β := β) hF (l := ⟨w.heap.size, 0, K⟩) rfl (c := splc (splc R (j * K) Y) ((j + ys.length) * K) (X.drop (j * K))) (fun q v hq => by
        simp only [Nat.zero_add]
        rw [splc_get hc2, splc_get hc1]
        by_cases g1 : q < j * K
        · rw [List.append_assoc, List.getElem?_append_left (by omega)] at hq
          rw [if_neg (by rw [Nat.add_mul]; omega), if_neg (by omega), hRo q g1]
          exact hq
        · by_cases g2 : q < j * K + ys.length * K
          · rw [List.append_assoc, List.getElem?_append_right (by omega), List.getElem?_append_left (by omega)] at hq
            rw [if_neg (by rw [Nat.add_mul]; omega), if_pos (by omega), ← hq]
            congr 1; omega
          · rw [List.getElem?_append_right (by rw [List.length_append]; omega)] at hq
            have hlt := len_of_get hq
            rw [List.length_append] at hlt hq
            rw [if_pos (by rw [Nat.add_mul]; omega), ← hq]
            congr 1; rw [Nat.add_mul]; omega)
      have hst := Step.new (Step.kill hsim 0).sim (a := 2) hβ2 (by simp only [setR]; rw [if_neg (by decide)]; exact hr2) (splc (splc R (j * K) Y) ((j + ys.length) * K) (X.drop (j * K))) e K _ hob (by simp)
      rw [← hlook] at hst
      have hst2 := Step.heap ((Step.kill hsim 0).trans hst) (w'' := w') e4 e1 e2 e3
      refine ⟨_, B, _, rfl, hst2.toR r, ?_, fun b hb => ⟨?_, ?_⟩⟩
      · have := V.own (w := w') (B := B) (β := setM β 2 ⟨w.heap.size, 0, K⟩) 2 0 (xs.length + ys.length) G ⟨w.heap.size, 0, K⟩ (by simp [setM]) hG ⟨_, e, by rw [e4]; exact heap_alloc_new w _, by rw [splc_size hc2, splc_size hc1, hRs]; simp⟩
        simpa using this
      · simp only [setM]; rw [if_neg (by omega)]; exact (hfree b (by omega)).1
      · simp only [look]; rw [if_neg (by simp; omega), if_neg (by simp; omega)]

theorem insert_prim {E : Env} {f K : Nat} {e : TypeId} (hE : EnvOK P (bare E)) (hcall : Callable P f) (hK : Insert1 P f K e)
    (hend : ∀ xs ys, 0 < ys.length → xs.length + ys.length ≤ bound → (level (bare E) (run (bare E) 0)).refC f 2 [.own 0 K 0 xs.length, .int .i64 xs.length, .own 1 K 0 ys.length] [(0, .arr K xs false false), (1, .arr K ys false false)] 2 =
      some (.own 2 K 0 (xs.length + ys.length), [(1, .arr K ys false false), (2, .arr K (xs ++ ys) false false)], 3)) : PrimR P f (insertR K) := by
  refine ⟨fun _ _ _ _ _ _ _ => hcall, fun r args h next v h' nx hp w B β va hsim hvs hfree hr => ?_, fun args h next v h' nx hp => ?_⟩
  case refine_2 =>
    unfold insertR at hp
    split at hp
    · split at hp
      · simp at hp; obtain ⟨_, rfl, rfl⟩ := hp
        simp
      · simp at hp
    · simp at hp
  unfold insertR at hp
  split at hp
  case h_2 => simp at hp
  rename_i a k off n i b k' off' m a0 k1 xs fl fz b0 k2 ys fl' fz' nx'
  split at hp
  case isFalse => simp at hp
  rename_i hc
  simp only [Bool.and_eq_true, beq_iff_eq, decide_eq_true_eq, Bool.not_eq_true'] at hc
  obtain ⟨⟨⟨⟨⟨⟨⟨⟨⟨⟨⟨⟨⟨⟨⟨⟨⟨⟨⟨⟨rfl, rfl⟩, rfl⟩, rfl⟩, rfl⟩, rfl⟩, rfl⟩, rfl⟩, rfl⟩, rfl⟩, rfl⟩, rfl⟩, rfl⟩, rfl⟩, rfl⟩, rfl⟩, rfl⟩, h0i⟩, hin⟩, h0m⟩, hbd⟩ := hc
  simp only [Option.some.injEq, Prod.mk.injEq] at hp
  obtain ⟨rfl, rfl, rfl⟩ := hp
  exact insert_core hE hK hend _ _ _ h0i hin h0m hbd hsim hvs hfree hr
end Go.Pm
