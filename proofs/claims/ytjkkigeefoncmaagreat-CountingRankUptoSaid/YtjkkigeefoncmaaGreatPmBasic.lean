/-
  The operations that call no function, all of them.
-/
import Derived.Test.YtjkkigeefoncmaaGreatPmMem
import Derived.Laws.Tables
set_option linter.unusedVariables false
set_option linter.unusedSimpArgs false
namespace Go.Pm
open Go

section
variable {P : Program} {w : World} {B : Nat → Prop} {β : Map} {rd : Rd} {tm : List PV} {a : Act} {tab : Nat → Option TI}

theorem places_ok : ∀ (fs : List Field), (∀ f ∈ fs, (P.info? f.type).isSome = true) →
    ∃ places : List (Nat × Nat), fs.mapM (fun f => (P.info? f.type).map fun i => (f.offset, i.size)) = some places ∧
      ∀ (i : Nat) (f : Field) (info : TypeInfo), fs[i]? = some f → P.info? f.type = some info → places[i]? = some (f.offset, info.size)
  | [], _ => ⟨[], rfl, fun i f info h => by simp at h⟩
  | f :: fs, h => by
    obtain ⟨places, h1, h2⟩ := places_ok fs fun g hg => h g (List.mem_cons_of_mem _ hg)
    obtain ⟨i, hi⟩ := Option.isSome_iff_exists.1 (h f List.mem_cons_self)
    refine ⟨(f.offset, i.size) :: places, by simp [List.mapM_cons, hi, h1], fun j g info hj hg => ?_⟩
    cases j with
    | zero => simp at hj; subst hj; rw [hi] at hg; simp at hg; subst hg; rfl
    | succ j => simp at hj ⊢; exact h2 j g info hj hg

theorem foldl_splc (c : Array Value) (off : Nat) (v : Array Value) (h : off + v.size ≤ c.size) : v.zipIdx.foldl (fun cs (x : Value × Nat) => cs.setIfInBounds (off + x.2) x.1) c = splc c off v.toList := by
  have e1 : v.zipIdx.foldl (fun cs (x : Value × Nat) => cs.setIfInBounds (off + x.2) x.1) c = (v.toList.zipIdx 0).foldl (fun cs (x : Value × Nat) => cs.setIfInBounds (off + x.2) x.1) c := by
    rw [← Array.foldl_toList]; simp
  rw [e1]
  obtain ⟨g1, g2⟩ := Go.Great.foldl_set off v.toList 0 c
  apply Array.ext_getElem?
  intro k
  rw [g2 k, splc_get (by simpa using h)]
  simp only [Nat.add_zero, Array.length_toList]
  by_cases hk : off ≤ k ∧ k < off + v.size
  · rw [if_pos ⟨hk.1, hk.2, by omega⟩, if_pos hk]
  · rw [if_neg (fun q => hk ⟨q.1, q.2.1⟩), if_neg hk]

theorem fillParts_ok (hT : TabOK P tab) (ha : TmRel w B β tm a) {place : Nat → Option (Nat × Nat)} {fs : List (Nat × Nat)}
    (hp : ∀ i off ft ti, fs[i]? = some (off, ft) → tab ft = some ti → place i = some (off, ti.size)) :
    ∀ (parts : List (Nat × Operand)) {ps : List (Nat × PV)} {cells r : List PV} {c : Array Value}, opndp tm parts = some ps → fillParts tab fs cells ps = some r →
      Vs w B β cells c.toList → (∀ v ∈ c.toList, v.oneCell' = true) →
      ∃ c', Instr.fill place c (parts.map fun x => (x.1, a.eval x.2)) = some c' ∧ Vs w B β r c'.toList ∧ (∀ v ∈ c'.toList, v.oneCell' = true)
  | [], ps, cells, r, c, h1, h2, h3, h4 => by
    simp [opndp] at h1; subst h1
    simp [fillParts] at h2; subst h2
    exact ⟨c, rfl, h3, h4⟩
  | (i, x) :: parts, ps, cells, r, c, h1, h2, h3, h4 => by
    simp only [opndp] at h1
    split at h1
    · rename_i v vs hv hvs
      simp at h1; subst h1
      simp only [fillParts] at h2
      split at h2
      · rename_i off ft hf
        split at h2
        · rename_i ti cs hti hcs
          split at h2
          · rename_i hc
            simp only [Bool.and_eq_true, beq_iff_eq, decide_eq_true_eq] at hc
            obtain ⟨q1, q2⟩ := cellsOf_ok (opnd_ok ha hv) hcs
            have hsz : (a.eval x).cells.size = ti.size := by rw [← hc.1, q1.1]; simp
            have hcl : cells.length = c.size := by rw [h3.1]; simp
            have hle : off + (a.eval x).cells.size ≤ c.size := by rw [hsz, ← hcl, ← hc.1]; exact hc.2
            obtain ⟨c', g1, g2, g3⟩ := fillParts_ok hT ha hp parts (c := splc c off (a.eval x).cells.toList) hvs h2 (h3.splice q1 hc.2) (fun v hv => (mem_splc hv).elim (h4 v) (q2 v))
            refine ⟨c', ?_, g2, g3⟩
            rw [← g1]
            simp only [List.map_cons]
            conv => lhs; unfold Instr.fill
            simp only [hp i off ft ti hf hti]
            rw [if_neg (by simp; omega)]
            rw [← foldl_splc c off _ hle]
          · simp at h2
        · simp at h2
      · simp at h2
    · simp at h1

theorem build_ok (hT : TabOK P tab) (ha : TmRel w B β tm a) {nid t : Nat} {parts : Array (Nat × Operand)} {o : Oper} (ho : o.op = .build t parts) {e : Eff} (h : evBasic tab rd nid tm o = some e) :
    Quiet P w B β a o e := by
  have fin : ∀ (fs : List (Nat × Nat)) (ti : TI) (ps : List (Nat × PV)) (place : Nat → Option (Nat × Nat)), tab t = some ti → opndp tm parts.toList = some ps →
      (fillParts tab fs ti.zero ps).map (fun cs => (⟨.agg cs, [], []⟩ : Eff)) = some e →
      (∀ i off ft ti, fs[i]? = some (off, ft) → tab ft = some ti → place i = some (off, ti.size)) →
      (∀ info z, P.info? t = some info → info.zero = some z → ∀ l, P.built t l = Instr.fill place z.cells l) → Quiet P w B β a o e := by
    intro fs ti ps place ht hps hf hp hb
    simp only [Option.map_eq_some_iff] at hf
    obtain ⟨cs, hcs, rfl⟩ := hf
    obtain ⟨z, hz, z1, z2, z3⟩ := zero_ok (hT t ti ht)
    obtain ⟨info, z', i1, i2, i3, i4, i5, i6⟩ := (hT t ti ht).info
    have hzz : z' = z := by have := hz w; simpa [zeroValue, typeInfo, i1, i4] using this
    subst hzz
    obtain ⟨c', g1, g2, g3⟩ := fillParts_ok hT ha hp parts.toList hps hcs (z1 w B β) z2
    refine quiet_of (s := Instr.build t (parts.map fun (i, x) => (i, a.eval x))) (v := .agg c') ?_ ?_ ?_
    · simp only [execOp, ho]
    · refine run_build w t _ c' ?_
      rw [hb info z' i1 i4, Array.toList_map]
      exact g1
    · have := Vs.agg g2 g3
      simpa using this
  unfold evBasic at h
  rw [ho] at h
  simp only at h
  split at h
  · rename_i fs _ z _ _ ps ht hps
    have hk := (hT t _ ht).kind
    simp only at hk
    obtain ⟨fields, hk1, hk2⟩ := hk
    obtain ⟨places, p1, p2⟩ := places_ok fields.toList ((hT t _ ht).parts fields hk1)
    refine fin fs _ ps (fun i => places[i]?) ht hps h (fun i off ft ti hi hti => ?_) (fun info z hi hz l => ?_)
    · rw [← hk2, List.getElem?_map] at hi
      simp only [Option.map_eq_some_iff] at hi
      obtain ⟨f, hf, hfe⟩ := hi
      simp at hfe
      obtain ⟨inf, z1, j1, j2, j3⟩ := (hT ft ti hti).info
      rw [← hfe.2] at j1
      have := p2 i f inf hf j1
      rw [this, hfe.1, j2]
    · simp [Program.built, hi, hk1, hz, p1]
  · rename_i n el _ z _ _ ps ht hps
    have hk := (hT t _ ht).kind
    simp only at hk
    split at h
    · rename_i sz hsz
      obtain ⟨tie, hte, rfl⟩ : ∃ tie, tab el = some tie ∧ tie.size = sz := by
        unfold sizeAt at hsz; simpa [Option.map_eq_some_iff] using hsz
      obtain ⟨inf, z1, j1, j2, j3⟩ := (hT el tie hte).info
      refine fin _ _ ps (fun i => some (i * tie.size, tie.size)) ht hps h (fun i off ft ti hi hti => ?_) (fun info z hi hz l => ?_)
      · rw [List.getElem?_map] at hi
        simp only [Option.map_eq_some_iff] at hi
        obtain ⟨j, hj, hje⟩ := hi
        have : j = i := by
          rw [List.getElem?_range] at hj
          · simpa using hj.symm
          · rcases Nat.lt_or_ge i n with h' | h'
            · exact h'
            · simp [List.getElem?_eq_none, h'] at hj
        simp at hje
        obtain ⟨rfl, rfl⟩ := hje
        rw [hte] at hti; simp at hti; subst hti
        rw [this]
      · simp [Program.built, hi, hk, hz, j1, j2]
    · simp at h
  · simp at h

theorem turn_value {o : Oper} {nid : Nat} {e : Eff} {s : Sem Value} {q : Value} {w' : World} {B' : Nat → Prop} {β' : Map} (he : execOp a.eval o = (do pure (.value (← s)))) (h1 : s.run P w = .ok q w')
    (h2 : Step w B β rd w' B' β' (rdU rd e.upd)) (h3 : V w' B' β' e.val q) (h4 : ∀ b, b ≠ nid → β' b = β b) : Turn P w B β rd a o nid e :=
  ⟨_, q, w', B', β', by rw [he]; simp [h1], .inl rfl, h2, h3, h4⟩

theorem ok_inv {p : PV} {e : Eff} (h : ok p = some e) : e = ⟨p, [], []⟩ := by simp [ok] at h; exact h.symm

theorem quiet_val {o : Oper} {s : Sem Value} {e : Eff} (he : execOp a.eval o = (do pure (.value (← s)))) (h : e.upd = [] ∧ ∃ v, s.run P w = .ok v w ∧ V w B β e.val v) : Quiet P w B β a o e := by
  obtain ⟨h1, v, h2, h3⟩ := h
  exact ⟨h1, v, by rw [he]; simp [h2], h3⟩

theorem builtin_ok (hT : TabOK P tab) (hs : Sim w B β rd) {nid : Nat} {b : Builtin} {ts : List Nat} {ps : List PV} {us : List Value} {e : Eff} (h : builtinAt tab rd nid b ts ps = some e) (hu : Vs w B β ps us)
    (hβ : β nid = none) (hr : rd nid = none) (ty : TypeId) (cs : Array Bool) :
    ∃ nx v w' B' β', (builtin b ts.toArray ty cs us.toArray).run P w = .ok nx w' ∧ (nx = .value v ∨ nx = .skip ∧ v = Go.undef) ∧
      Step w B β rd w' B' β' (rdU rd e.upd) ∧ V w' B' β' e.val v ∧ (∀ b, b ≠ nid → β' b = β b) := by
  have quiet : ∀ (s : Sem Value) (q : Value), builtin b ts.toArray ty cs us.toArray = (do pure (.value (← s))) → s.run P w = .ok q w → e.upd = [] → V w B β e.val q →
      ∃ nx v w' B' β', (builtin b ts.toArray ty cs us.toArray).run P w = .ok nx w' ∧ (nx = .value v ∨ nx = .skip ∧ v = Go.undef) ∧
      Step w B β rd w' B' β' (rdU rd e.upd) ∧ V w' B' β' e.val v ∧ (∀ b, b ≠ nid → β' b = β b) := by
    intro s q he hq h1 h2
    refine ⟨_, q, w, B, β, by rw [he]; simp [hq], .inl rfl, ?_, h2, fun _ _ => rfl⟩
    rw [h1]; exact .refl hs
  have turn : ∀ (s : Sem Value), builtin b ts.toArray ty cs us.toArray = (do pure (.value (← s))) → (∃ q w' B' β', s.run P w = .ok q w' ∧ Step w B β rd w' B' β' (rdU rd e.upd) ∧ V w' B' β' e.val q ∧ (∀ b, b ≠ nid → β' b = β b)) →
      ∃ nx v w' B' β', (builtin b ts.toArray ty cs us.toArray).run P w = .ok nx w' ∧ (nx = .value v ∨ nx = .skip ∧ v = Go.undef) ∧
      Step w B β rd w' B' β' (rdU rd e.upd) ∧ V w' B' β' e.val v ∧ (∀ b, b ≠ nid → β' b = β b) := by
    rintro s he ⟨q, w', B', β', h1, h2, h3, h4⟩
    exact ⟨_, q, w', B', β', by rw [he]; simp [h1], .inl rfl, h2, h3, h4⟩
  unfold builtinAt at h
  split at h
  · rename_i t rest v
    obtain ⟨u, us', rfl, h1, h2⟩ := hu.uncons
    rw [h2.of_nil] at *
    split at h
    · rename_i el _ _ _ _ ht
      split at h
      · simp at h
      · rename_i hns
        simp only [Option.map_eq_some_iff] at h
        obtain ⟨n, hn, rfl⟩ := h
        exact quiet (Builtin.len_ (t :: rest).toArray ty #[u]) (.int .i64 n) rfl (len_ok hT ht rfl hn (fun s hs => hns s hs) h1 rest ty) rfl (.int ..)
    · rename_i s ht
      have := ok_inv h; subst this
      have := h1.str_inv; subst this
      exact quiet (Builtin.len_ (t :: rest).toArray ty #[.string s]) _ rfl (lenstr_ok hT ht rfl s rest ty) rfl (.int ..)
    · rename_i n _ _ _ _ _ ht
      have := ok_inv h; subst this
      exact quiet (Builtin.len_ (t :: rest).toArray ty #[u]) _ rfl (lenarr_ok hT ht rfl u rest ty) rfl (.int ..)
    · simp at h
  · rename_i t t' s x
    obtain ⟨u, us', rfl, h1, h2⟩ := hu.uncons
    obtain ⟨v, us'', rfl, h3, h4⟩ := h2.uncons
    rw [h4.of_nil] at *
    split at h
    · rename_i ht'
      exact turn (Builtin.append_ #[t, t'] ty #[u, v]) rfl (append_ok hT hs h ht' rfl h1 h3 hβ hr ty)
    · simp at h
  · rename_i t t' d x
    obtain ⟨u, us', rfl, h1, h2⟩ := hu.uncons
    obtain ⟨v, us'', rfl, h3, h4⟩ := h2.uncons
    rw [h4.of_nil] at *
    obtain ⟨q, w', B', g1, g2, g3⟩ := copy_ok (P := P) (t' := t') hT hs h h1 h3 ty
    exact turn (Builtin.copy_ #[t, t'] ty #[u, v]) rfl ⟨q, w', B', β, g1, g2, g3, fun _ _ => rfl⟩
  · rename_i t rest d
    obtain ⟨u, us', rfl, h1, h2⟩ := hu.uncons
    rw [h2.of_nil] at *
    obtain ⟨q, w', B', g1, g2, g3⟩ := clear_ok (P := P) (ts := rest) hT hs h h1 ty
    exact turn (Builtin.clear_ (t :: rest).toArray ty #[u]) rfl ⟨q, w', B', β, g1, g2, g3, fun _ _ => rfl⟩
  · rename_i k n r
    obtain ⟨u, us', rfl, h1, h2⟩ := hu.uncons
    have := h1.int_inv; subst this
    simp only [Option.map_eq_some_iff] at h
    obtain ⟨m, hm, rfl⟩ := h
    refine quiet (Builtin.min_ ts.toArray ty (Value.int k n :: us').toArray) (.int k m) rfl ?_ rfl (.int ..)
    have := min_ok (k := k) hm h2 (P := P)
    first | exact this | simpa [Builtin.min_] using this
  · rename_i k n r
    obtain ⟨u, us', rfl, h1, h2⟩ := hu.uncons
    have := h1.int_inv; subst this
    simp only [Option.map_eq_some_iff] at h
    obtain ⟨m, hm, rfl⟩ := h
    refine quiet (Builtin.max_ ts.toArray ty (Value.int k n :: us').toArray) (.int k m) rfl ?_ rfl (.int ..)
    have := max_ok (k := k) hm h2 (P := P)
    first | exact this | simpa [Builtin.max_] using this
  · simp at h

theorem basic_ok (hT : TabOK P tab) (hs : Sim w B β rd) (ha : TmRel w B β tm a) {nid : Nat} {o : Oper} {e : Eff} (h : evBasic tab rd nid tm o = some e) (hβ : β nid = none) (hr : rd nid = none) :
    Turn P w B β rd a o nid e := by
  have h0 := h
  unfold evBasic at h
  split at h
  · rename_i x ho
    simp only [Option.map_eq_some_iff] at h; obtain ⟨p, hp, rfl⟩ := h
    exact .quiet hs ⟨rfl, a.eval x, by simp [execOp, ho], opnd_ok ha hp⟩
  · rename_i x ho
    simp only [Option.map_eq_some_iff] at h; obtain ⟨p, hp, rfl⟩ := h
    exact .quiet hs ⟨rfl, a.eval x, by simp [execOp, ho], opnd_ok ha hp⟩
  · rename_i c x y ho
    split at h
    · rename_i b p q hc hx hy
      have := ok_inv h; subst this
      have hb := (opnd_ok ha hc).bool_inv
      refine .quiet hs ⟨rfl, if b then a.eval x else a.eval y, ?_, ?_⟩
      · simp only [execOp, ho, hb, asBool, Sem.run_bind, Sem.run_pure, Result.andThen_ok]
      · cases b
        · exact opnd_ok ha hy
        · exact opnd_ok ha hx
    · simp at h
  · rename_i t ho
    split at h
    · rename_i ti ht
      simp at h; subst h
      exact alloc_ok hT hs ht hβ hr ho
    · simp at h
  · rename_i t x ho
    split at h
    · rename_i cs hcs
      simp at h; subst h
      simp only [Option.bind_eq_some_iff] at hcs
      obtain ⟨p, hp, hc⟩ := hcs
      exact box_ok hs (opnd_ok ha hp) hc hβ hr ho
    · simp at h
  · rename_i t parts ho
    exact .quiet hs (build_ok hT ha ho h0)
  · rename_i t n parts ho
    exact buildSlice_ok hT hs ha ho h0 hβ hr
  · rename_i t x ho
    split at h
    · rename_i ti p ht hp
      exact .quiet hs (quiet_val (s := Instr.loadAt t (a.eval x)) (by simp only [execOp, ho]) (load_ok hs (hT t ti ht) h (opnd_ok ha hp)))
    · simp at h
  · rename_i t x y ho
    split at h
    · rename_i ti p q ht hp hq
      obtain ⟨w', B', g1, g2, g3⟩ := store_ok hT hs ht h (opnd_ok ha hp) (opnd_ok ha hq)
      refine ⟨.skip, Go.undef, w', B', β, ?_, .inr ⟨rfl, rfl⟩, g2, by rw [g3]; exact .void, fun _ _ => rfl⟩
      simp [execOp, ho, g1]
    · simp at h
  · rename_i x ho
    have key : ∀ (p : PV) (v : Value), opnd tm x = some p → V w B β p v → ok p = some e → execOp a.eval o = pure (.value v) → Turn P w B β rd a o nid e := by
      intro p v hp hv he hx
      have := ok_inv he; subst this
      exact .quiet hs ⟨rfl, v, by rw [hx]; simp, hv⟩
    split at h
    · rename_i b k hp
      have hv := opnd_ok ha hp
      generalize hg : a.eval x = g at hv
      have hv' := hv
      cases hv
      exact key _ _ hp hv' h (by simp [execOp, ho, hg])
    · rename_i b i k hp
      have hv := opnd_ok ha hp
      generalize hg : a.eval x = g at hv
      have hv' := hv
      cases hv
      exact key _ _ hp hv' h (by simp [execOp, ho, hg])
    · rename_i xs i k hp
      have hv := opnd_ok ha hp
      generalize hg : a.eval x = g at hv
      have hv' := hv
      cases hv
      exact key _ _ hp hv' h (by simp [execOp, ho, hg])
    · rename_i f cs hp
      have hv := opnd_ok ha hp
      generalize hg : a.eval x = g at hv
      have hv' := hv
      cases hv
      exact key _ _ hp hv' h (by simp [execOp, ho, hg])
    · simp at h
  · rename_i op t x y _ ho
    split at h
    · rename_i p q hp hq
      simp only [Option.map_eq_some_iff] at h; obtain ⟨r, hr', rfl⟩ := h
      obtain ⟨v, g1, g2⟩ := bin_ok hT hr' (opnd_ok ha hp) (opnd_ok ha hq) x y
      exact .quiet hs (quiet_val (s := (do eqGuard op t x y (a.eval x) (a.eval y); binOp op t (a.eval x) (a.eval y))) (by simp only [execOp, ho]) ⟨rfl, v, g1, g2⟩)
    · simp at h
  · rename_i op _ x ho
    split at h
    · rename_i p hp
      simp only [Option.map_eq_some_iff] at h; obtain ⟨r, hr', rfl⟩ := h
      exact .quiet hs (quiet_val (s := Op.unary op (a.eval x)) (by simp only [execOp, ho]) ⟨rfl, un_ok hr' (opnd_ok ha hp)⟩)
    · simp at h
  · rename_i sr d x ho
    split at h
    · rename_i k1 _ _ _ _ k2 _ _ _ _ k3 n h1 h2 hx
      have := ok_inv h; subst this
      have hv := (opnd_ok ha hx).int_inv
      have u1 := (hT sr _ h1).kind
      have u2 := (hT d _ h2).kind
      simp only at u1 u2
      refine .quiet hs (quiet_val (s := convert sr d (a.eval x)) (by simp only [execOp, ho]) ⟨rfl, .int k2 (k2.wrap n), ?_, .int ..⟩)
      rw [hv]
      unfold convert
      simp only [Sem.run_bind, run_underlying u1, run_underlying u2, Result.andThen_ok, Conv.intToInt, Sem.run_pure]
    · simp at h
  · rename_i f first caps ho
    split at h
    · rename_i hf
      simp only [Option.map_eq_some_iff] at h; obtain ⟨cs, hcs, rfl⟩ := h
      have hf' : first = #[] := by simpa using hf
      have hv := opndl_ok ha hcs
      refine .quiet hs (quiet_val (s := Instr.makeFunc (.func f) (first.map a.eval) (caps.map a.eval)) (by simp only [execOp, ho]) ⟨rfl, .func (.func f) #[] (caps.map a.eval), ?_, ?_⟩)
      · rw [hf']; simp [Instr.makeFunc]
      · exact .fn f cs _ (by have := hv.1; simpa using this) fun i c v h1 h2 => hv.2 i c v h1 (by simpa using h2)
    · simp at h
  · rename_i t l c ho
    split at h
    · rename_i el _ _ _ _ ln cn ht hl hc
      split at h
      · rename_i ti hti
        split at h
        · rename_i hb
          simp at h; subst h
          obtain ⟨q, w', β', g1, g2, g3, g4⟩ := makeSlice_ok (P := P) hT hs ht rfl hti hb hβ hr
          refine turn_value (s := Instr.makeSlice t (a.eval l) (a.eval c)) (by simp only [execOp, ho]) ?_ g2 g3 g4
          rw [(opnd_ok ha hl).int_inv, (opnd_ok ha hc).int_inv]; exact g1
        · simp at h
      · simp at h
    · simp at h
  · rename_i t x lo hi ho
    split at h
    · rename_i p l k hx hl hh
      have e1 : OptV w B β l (lo.map a.eval) := by
        cases lo with
        | none => simp at hl; subst hl; trivial
        | some v => simp [Option.map_eq_some_iff] at hl; obtain ⟨y, hy, rfl⟩ := hl; exact opnd_ok ha hy
      have e2 : OptV w B β k (hi.map a.eval) := by
        cases hi with
        | none => simp at hh; subst hh; trivial
        | some v => simp [Option.map_eq_some_iff] at hh; obtain ⟨y, hy, rfl⟩ := hh; exact opnd_ok ha hy
      exact .quiet hs (quiet_val (s := Instr.sliceAt t (a.eval x) (lo.map a.eval) (hi.map a.eval) none) (by simp only [execOp, ho, Option.map_none]) (cut_ok hT h (opnd_ok ha hx) e1 e2))
    · simp at h
  · rename_i st x f ho
    split at h
    · rename_i p hp
      exact .quiet hs (quiet_val (s := Instr.fieldAt st (a.eval x) f) (by simp only [execOp, ho]) (fieldAddr_ok hT h (opnd_ok ha hp)))
    · simp at h
  · rename_i st x f ho
    split at h
    · rename_i p hp
      exact .quiet hs (quiet_val (s := Instr.field st (a.eval x) f) (by simp only [execOp, ho]) (field_ok hT h (opnd_ok ha hp)))
    · simp at h
  · rename_i t x i ho
    split at h
    · rename_i p q hp hq
      exact .quiet hs (quiet_val (s := Instr.indexAt t (a.eval x) (a.eval i)) (by simp only [execOp, ho]) (indexAddr_ok hT h (opnd_ok ha hp) (opnd_ok ha hq)))
    · simp at h
  · rename_i t x i ho
    split at h
    · rename_i p q hp hq
      exact .quiet hs (quiet_val (s := Instr.index t (a.eval x) (a.eval i)) (by simp only [execOp, ho]) (index_ok hT h (opnd_ok ha hp) (opnd_ok ha hq)))
    · simp at h
  · rename_i x i ho
    split at h
    · rename_i vs hx
      split at h
      · rename_i v hv
        have := ok_inv h; subst this
        exact .quiet hs (quiet_val (s := Instr.extract (a.eval x) i) (by simp only [execOp, ho]) ⟨rfl, extract_ok hv (opnd_ok ha hx)⟩)
      · simp at h
    · simp at h
  · rename_i bi args ats ho
    split at h
    · rename_i vs hvs
      obtain ⟨nx, v, w', B', β', g1, g2⟩ := builtin_ok hT hs h (opndl_ok ha hvs) hβ hr o.type (args.map fun | .const _ => true | _ => false)
      refine ⟨nx, v, w', B', β', ?_, g2⟩
      have e1 : (args.toList.map a.eval).toArray = args.map a.eval := by rw [← Array.toList_map]
      rw [e1] at g1
      simp only [Array.toArray_toList] at g1
      simp only [execOp, ho, resolve, Sem.run_bind, Sem.run_pure, Result.andThen_ok, invoke]
      exact g1
    · simp at h
  · simp at h
end
end Go.Pm
