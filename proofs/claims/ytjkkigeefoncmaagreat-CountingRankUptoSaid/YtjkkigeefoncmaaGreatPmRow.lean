/-
  From a run of the evaluator to the row's contract.
-/
import Derived.Test.YtjkkigeefoncmaaGreatPmRead
import Derived.Test.YtjkkigeefoncmaaGreatPmEnv
set_option linter.unusedVariables false
set_option linter.unusedSimpArgs false
namespace Go.Pm
open Go Go.ChangeShapes Go.WideShapes Go.ChangeAt Go.RowKit
variable {P : Program} {H : Type} {enc : TypeId × Value → H}

theorem law_calls {E : Env} (hE : EnvOK P E) {F : Nat} {pvs : List PV} (h : (lim E).pureC F pvs = some (.bool true)) {W : World} {args : Array Value} (hv : Vs W (fun b => b < W.heap.size) (fun _ => none) pvs args.toList) :
    Calls P F args W fun e W' => e = .returned (.bool true) ∧ Below W.heap.size W W' := by
  obtain ⟨n, hn⟩ := lim_p.1 h
  refine Calls.mono ((run_ok hE n).pur.calls F pvs _ hn W _ args (fun b hb => hb) hv) ?_
  rintro en w' ⟨v, rfl, hx, Bc, bs, _, _, _, _, hr⟩
  refine ⟨?_, hx.os, hx.tape, hx.output, hx.size, fun k hk => hx.block k hk (fun h => h)⟩
  congr 1
  cases hr with
  | one _ _ _ _ _ _ h =>
    cases h with
    | one _ _ _ _ _ h =>
      cases h with
      | data _ _ _ h _ => cases h; rfl

theorem arg_agg {bulk : DataW H → Nat} {w : World} {t : Nat} {α : Type} [Enc α] [Sized α] (hr : ReadsAs P enc bulk w t α) {fs : Array Field} (ht : P.underlying t = some (.struct fs)) {base N : Nat} {v : Value} (hok : Value.okWide P w .any base t v)
    {d : DataW H} {p : List MemPlace} (h : DataW.Trod enc P w 0 (fun _ => true) true t v d p) (hb : bulk d ≤ N) : ∃ a : α, Sized.ok N a ∧ V w (fun b => b < w.heap.size) (fun _ => none) (.agg (Enc.cells a)) v := by
  simp only [Value.okWide, ht] at hok
  obtain ⟨cs, rfl, _, _⟩ := hok
  obtain ⟨fuel, hf⟩ := h
  obtain ⟨a, h1, h2, h3, h4⟩ := hr.read N fuel _ d p hf hb
  refine ⟨a, h1, ?_⟩
  have := Vs.agg h4 h3
  rw [show (Value.agg cs).cells = cs from rfl, Array.toArray_toList] at this
  exact this
theorem arg_slice {bulk : DataW H → Nat} {w : World} {t e : Nat} {α : Type} [Enc α] [Sized α] (hr : ReadsAs P enc bulk w t (List α)) (ht : P.underlying t = some (.slice e)) {base N : Nat} {v : Value} (hok : Value.okWide P w .any base t v)
    {d : DataW H} {p : List MemPlace} (h : DataW.Trod enc P w 0 (fun _ => true) true t v d p) (hb : bulk d ≤ N) : ∃ a : List α, Sized.ok N a ∧ V w (fun b => b < w.heap.size) (fun _ => none) (.lit (rows a) fl0) v := by
  simp only [Value.okWide, ht, Cell.okWide] at hok
  obtain ⟨fuel, hf⟩ := h
  have hc : v.cells.toList = [v] := by
    cases v <;> first | rfl | (simp [Cell.ok, ht] at hok)
  rw [hc] at hf
  obtain ⟨a, h1, h2, h3, h4⟩ := hr.read N fuel _ d p hf hb
  exact ⟨a, h1, h4.head⟩
theorem arg_int {bulk : DataW H → Nat} {w : World} {t : Nat} (hr : ReadsAs P enc bulk w t Int) (ht : P.underlying t = some (.int .i64)) {base N : Nat} {v : Value} (hok : Value.okWide P w .any base t v)
    {d : DataW H} {p : List MemPlace} (h : DataW.Trod enc P w 0 (fun _ => true) true t v d p) (hb : bulk d ≤ N) : ∃ a : Int, Sized.ok N a ∧ V w (fun b => b < w.heap.size) (fun _ => none) (.int .i64 a) v := by
  obtain ⟨fuel, hf⟩ := h
  simp only [Value.okWide, ht, Cell.okWide] at hok
  have hc : v.cells.toList = [v] := by
    cases v <;> first | rfl | (simp [Cell.ok, ht] at hok)
  rw [hc] at hf
  obtain ⟨a, h1, h2, h3, h4⟩ := hr.read N fuel _ d p hf hb
  exact ⟨a, h1, h4.head⟩

theorem trodAll_below (hl : laidOutB P = true) {W W' : World} (hb : Below W.heap.size W W') : ∀ {ts : List TypeId} {vs : List Value} {ds : List (DataW H)} {p : List MemPlace}, (∀ t ∈ ts, P.readableRec t = true ∧ t < P.types.size) →
    DataW.TrodAll enc P W 0 (fun _ => true) true ts vs ds p → (∀ x ∈ p, x.block < W.heap.size) → DataW.TrodAll enc P W' 0 (fun b => decide (b < W.heap.size)) true ts vs ds p
  | [], _, _, _, _, h, _ => by
    obtain ⟨rfl, rfl, rfl⟩ := trodAll_nil h
    exact trodAll_mk0
  | t :: ts, _, _, _, ht, h, hp => by
    obtain ⟨v, vs1, d, ds1, a, b, rfl, rfl, rfl, h1, h2⟩ := trodAll_cons h
    obtain ⟨t1, t2⟩ := ht t (List.mem_cons_self ..)
    exact ⟨a, b, Below.trod hl t1 t2 h1 hb fun x hx => hp x (List.mem_append_left _ hx), trodAll_below hl hb (fun x hx => ht x (List.mem_cons_of_mem _ hx)) h2 fun x hx => hp x (List.mem_append_right _ hx), rfl⟩

theorem law_post {f : Func} {s : ChangeSpec} {W W' : World} {args : Array Value} {ds gs : List (DataW H)} {before : List MemPlace} {bt : TypeId} (hl : laidOutB P = true) (hrt : f.resultTypes = #[bt]) (hbt : P.underlying bt = some .bool)
    (hr : ∀ t ∈ f.params.toList, P.readableRec t = true ∧ t < P.types.size) (hvars : s.vars = []) (hW : DataW.Whole enc P f.params.toList s.vars false W args.toList ds gs before)
    (hfn : s.fn H (ds ++ gs) = { results := [.lit (.bool true)], args := ds }) (hb : Below W.heap.size W W') : s.post enc P f false true false false W args (.bool true) W' := by
  have hlt := hW.lt
  have hW' := hW
  obtain ⟨p, q, hA, hV, rfl, hfz, hnd⟩ := hW
  rw [hvars] at hV
  obtain ⟨rfl, rfl⟩ := trodVars_none hV
  refine ⟨ds, [], p ++ [], [], p, [], hW', ?_, ?_, ?_, World.keptBut_mono (fun _ h => h.elim) (hb.frame fun _ => False), fun h => by cases h⟩
  · rw [hrt, hfn]
    exact trodAll_cons_mk (shut_bool hbt _) trodAll_mk0
  · rw [hfn]
    exact trodAll_below hl hb hr hA fun x hx => hlt x (by simpa using hx)
  · rw [hfn, hvars]; rfl
end Go.Pm
