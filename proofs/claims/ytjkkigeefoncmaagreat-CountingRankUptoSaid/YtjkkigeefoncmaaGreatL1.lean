import Derived.Test.YtjkkigeefoncmaaGreatG1
import Derived.Test.YtjkkigeefoncmaaGreatPmLoop
set_option linter.all false
set_option maxRecDepth 10000
namespace Go.S
open Go Go.Pm

def bl (s : ByteArray) : List Int := s.data.toList.map fun b => (b.toNat : Int)
theorem bl_len (s : ByteArray) : (bl s).length = s.size := by simp [bl]
theorem byte_at (s : ByteArray) (i : Nat) : byteAt? s (i : Int) = (bl s)[i]? := by
  have h : (bl s)[i]? = (s.data[i]?).map fun b => (b.toNat : Int) := by simp [bl]
  rw [h]
  have h2 : s[i]? = s.data[i]? := by
    by_cases hi : i < s.size
    · rw [getElem?_pos s i hi, Array.getElem?_eq_getElem (by exact hi)]; rfl
    · rw [getElem?_neg s i hi, Array.getElem?_eq_none (by have : s.data.size = s.size := rfl; omega)]
  simp [byteAt?, h2]

def pLetter (c : Int) : Bool := (decide (97 ≤ c) && decide (c ≤ 122)) || (decide (65 ≤ c) && decide (c ≤ 90))
def pDigit (c : Int) : Bool := decide (48 ≤ c) && decide (c ≤ 57)
def pPart (c : Int) : Bool := pLetter c || pDigit c || (c == 95)
theorem f216_e (c : Int) : f216 c = some (pLetter c) := by
  unfold f216 pLetter; by_cases h1 : 97 ≤ c <;> by_cases h2 : c ≤ 122 <;> by_cases h3 : 65 ≤ c <;> simp [h1, h2, h3]
theorem f219_e (c : Int) : f219 c = some (pDigit c) := by
  unfold f219 pDigit; by_cases h1 : 48 ≤ c <;> simp [h1]
theorem f218_e (c : Int) : f218 c = some (pPart c) := by
  unfold f218 pPart; simp only [f216_e, f219_e, Option.bind_some]; cases pLetter c <;> cases pDigit c <;> simp
theorem f188_e (c : Int) : f188 c = some (pLetter c) := f216_e c
theorem f189_e (c : Int) : f189 c = some (pDigit c) := f219_e c
theorem letter_digit {c : Int} (h : pLetter c = true) : pDigit c = false := by
  simp [pLetter, pDigit] at h ⊢; omega

theorem walk_run {p : Int → Bool} {R : Type} (g : Nat → R) : ∀ (l : List Int) (i : Nat), walk (fun i c k => if p c then k else some (g i)) (some (g (i + l.length))) i l = some (g (i + (l.takeWhile p).length))
  | [], i => rfl
  | c :: l, i => by
    simp only [walk, List.takeWhile_cons]
    cases h : p c with
    | true =>
      have := walk_run (p := p) g l (i + 1)
      simp only [List.length_cons]
      rw [show i + (l.length + 1) = i + 1 + l.length by omega]
      simp only [↓reduceIte]
      rw [this, List.length_cons]; congr 2; omega
    | false => simp

def run (p : Int → Bool) (s : ByteArray) : Nat := ((bl s).takeWhile p).length
theorem run_le (p : Int → Bool) (s : ByteArray) : run p s ≤ s.size := by
  unfold run; rw [← bl_len]
  exact (List.takeWhile_sublist p).length_le
theorem f217_218 (s : ByteArray) (h : s.size ≤ 4000000000) : f217_1_218 s = some (run pPart s : Int) := by
  unfold f217_1_218
  rw [walk_of (bl s) (by rw [bl_len]; omega) (fun m i => f217_1_218_l0 s m i) (fun i c k => if pPart c then k else some (i : Int)) (some ((0 + (bl s).length : Nat) : Int)) (fun m => ?_) (fun m i c hc => ?_) (by rw [bl_len, loopMax_eq]; omega)]
  · rw [walk_run (fun n => (n : Int))]; simp [run]
  · simp [f217_1_218_l0, bl_len]
  · have hi := List.getElem?_eq_some_iff.1 hc
    have hlt : i < s.size := by rw [← bl_len]; exact hi.1
    simp [f217_1_218_l0, byte_at, hc, hlt, f218_e]
theorem f217_219 (s : ByteArray) (h : s.size ≤ 4000000000) : f217_1_219 s = some (run pDigit s : Int) := by
  unfold f217_1_219
  rw [walk_of (bl s) (by rw [bl_len]; omega) (fun m i => f217_1_219_l0 s m i) (fun i c k => if pDigit c then k else some (i : Int)) (some ((0 + (bl s).length : Nat) : Int)) (fun m => ?_) (fun m i c hc => ?_) (by rw [bl_len, loopMax_eq]; omega)]
  · rw [walk_run (fun n => (n : Int))]; simp [run]
  · simp [f217_1_219_l0, bl_len]
  · have hi := List.getElem?_eq_some_iff.1 hc
    have hlt : i < s.size := by rw [← bl_len]; exact hi.1
    simp [f217_1_219_l0, byte_at, hc, hlt, f219_e]
def pQuo (c : Int) : Bool := decide (32 ≤ c) && decide (c ≤ 126) && !(c == 34)
theorem f236_e (c : Int) : f236 c = some (pQuo c) := by
  unfold f236 pQuo; by_cases h1 : 32 ≤ c <;> by_cases h2 : c ≤ 126 <;> simp [h1, h2]
theorem f217_236 (s : ByteArray) (h : s.size ≤ 4000000000) : f217_1_236 s = some (run pQuo s : Int) := by
  unfold f217_1_236
  rw [walk_of (bl s) (by rw [bl_len]; omega) (fun m i => f217_1_236_l0 s m i) (fun i c k => if pQuo c then k else some (i : Int)) (some ((0 + (bl s).length : Nat) : Int)) (fun m => ?_) (fun m i c hc => ?_) (by rw [bl_len, loopMax_eq]; omega)]
  · rw [walk_run (fun n => (n : Int))]; simp [run]
  · simp [f217_1_236_l0, bl_len]
  · have hi := List.getElem?_eq_some_iff.1 hc
    have hlt : i < s.size := by rw [← bl_len]; exact hi.1
    simp [f217_1_236_l0, byte_at, hc, hlt, f236_e]
theorem f190_e (s : ByteArray) (h : s.size ≤ 4000000000) : f190 s 0 false = some (run pPart s : Int) := by
  unfold f190
  rw [walk_of (bl s) (by rw [bl_len]; omega) (fun m i => f190_l0 s 0 false m i) (fun i c k => if pPart c then k else some (i : Int)) (some ((0 + (bl s).length : Nat) : Int)) (fun m => ?_) (fun m i c hc => ?_) (by rw [bl_len, loopMax_eq]; omega)]
  · rw [walk_run (fun n => (n : Int))]; simp [run]
  · have : w64 (0 + (s.size : Int)) = s.size := by rw [Int.zero_add]; exact w64_nat (by omega)
    simp only [f190_l0, bl_len, this]; simp
  · have hi := List.getElem?_eq_some_iff.1 hc
    have hlt : i < s.size := by rw [← bl_len]; exact hi.1
    have : w64 (0 + (i : Int)) = i := by rw [Int.zero_add]; exact w64_nat (by omega)
    simp only [f190_l0, this, byte_at, hc, f189_e, f188_e, Option.bind_some, pPart]
    by_cases h1 : pDigit c = true <;> by_cases h2 : pLetter c = true <;> simp [hlt, h1, h2]
theorem f190_d (s : ByteArray) (h : s.size ≤ 4000000000) : ∃ n : Nat, f190 s 0 true = some (n : Int) ∧ n ≤ s.size := by
  refine ⟨run pDigit s, ?_, run_le _ _⟩
  unfold f190
  rw [walk_of (bl s) (by rw [bl_len]; omega) (fun m i => f190_l0 s 0 true m i) (fun i c k => if pDigit c then k else some (i : Int)) (some ((0 + (bl s).length : Nat) : Int)) (fun m => ?_) (fun m i c hc => ?_) (by rw [bl_len, loopMax_eq]; omega)]
  · rw [walk_run (fun n => (n : Int))]; simp [run]
  · have : w64 (0 + (s.size : Int)) = s.size := by rw [Int.zero_add]; exact w64_nat (by omega)
    simp only [f190_l0, bl_len, this]; simp
  · have hi := List.getElem?_eq_some_iff.1 hc
    have hlt : i < s.size := by rw [← bl_len]; exact hi.1
    have : w64 (0 + (i : Int)) = i := by rw [Int.zero_add]; exact w64_nat (by omega)
    simp only [f190_l0, this, byte_at, hc, f189_e, f188_e, Option.bind_some]
    by_cases h1 : pDigit c = true <;> simp [hlt, h1]

theorem f191_e (s : ByteArray) (h : s.size ≤ 4000000000) (h0 : 0 < s.size) : ∃ v : Int, f191 s 0 = some v ∧ (v = 0 ∨ (2 ≤ v ∧ v ≤ s.size)) := by
  unfold f191
  refine loop_up (f191_l0 s 0) s.size (by omega) (fun i r => 1 ≤ i → ∃ v : Int, r = some v ∧ (v = 0 ∨ ((i + 1 : Nat) ≤ v ∧ v ≤ s.size))) (fun m _ => ?_) (fun m i hi ih h1 => ?_) 1 (by omega) loopMax (by rw [loopMax_eq]; omega) (Nat.le_refl _)
  · have : w64 (0 + (s.size : Int)) = s.size := by rw [Int.zero_add]; exact w64_nat (by omega)
    exact ⟨0, by simp only [f191_l0, this]; simp, .inl rfl⟩
  · have : w64 (0 + (i : Int)) = i := by rw [Int.zero_add]; exact w64_nat (by omega)
    have hb : i < (bl s).length := by rw [bl_len]; exact hi
    obtain ⟨v, hv, hv2⟩ := ih (by omega)
    rw [w64_succ (by omega)] at hv
    simp only [f191_l0, this, byte_at, List.getElem?_eq_getElem hb, Option.bind_some, hv, w64_succ (show i < 4611686018427387904 by omega)]
    generalize (bl s)[i] = c
    have hlt : (i : Int) < s.size := by omega
    simp only [hlt, decide_true, ↓reduceIte]
    by_cases c1 : (c == 34) = true
    · exact ⟨((i + 1 : Nat) : Int), by simp only [c1, ↓reduceIte], .inr (by omega)⟩
    · simp only [c1]
      by_cases c2 : c < 32
      · exact ⟨0, by simp [c2], .inl rfl⟩
      · by_cases c3 : 126 < c
        · exact ⟨0, by simp [c2, c3], .inl rfl⟩
        · refine ⟨v, by simp only [c2, c3, decide_false, Bool.false_eq_true, ↓reduceIte], ?_⟩
          rcases hv2 with h | h
          · exact .inl h
          · exact .inr (by omega)
def Def {α : Type} (o : Option α) : Prop := ∃ a, o = some a
theorem extract_size (s : ByteArray) (i j : Nat) (hj : j ≤ s.size) : (s.extract i j).size = j - i := by
  rw [ByteArray.size_extract]; omega
theorem f220_d (s : ByteArray) (h : s.size ≤ 4000000000) (h0 : 0 < s.size) : Def (f220 s) := by
  unfold f220 Def
  have hs := extract_size s 1 s.size (Nat.le_refl _)
  have hr := f217_236 (s.extract 1 s.size) (by omega)
  have hl := run_le pQuo (s.extract 1 s.size)
  simp only [Int.toNat_one, hr, Option.bind_some]
  generalize run pQuo (s.extract 1 s.size) = n at hl
  have h1 : w64 (1 + (n : Int)) = ((1 + n : Nat) : Int) := by rw [w64_of (by omega) (by omega)]; omega
  simp only [h1]
  have h2 : (1 : Int) ≤ s.size := by omega
  simp only [h2]
  by_cases h3 : ((1 + n : Nat) : Int) = s.size
  · simp [h3]
  · have hlt : 1 + n < (bl s).length := by rw [bl_len]; omega
    simp only [byte_at, List.getElem?_eq_getElem hlt, Option.bind_some]
    simp only [beq_eq_false_iff_ne.2 h3]
    by_cases h4 : ((bl s)[1 + n] == 34) = true <;> by_cases h5 : (60 : Int) < n <;> simp [h4, h5]
theorem f223_w (s : List ByteArray) (v : ByteArray) (h : s.length ≤ 4000000000) : ∃ r : Int, f223 s v = some r ∧ (0 ≤ r ↔ (s.any fun x => decide (v = x)) = true) := by
  unfold f223
  rw [walk_of s (by omega) (fun m i => f223_l0 s v m i) (fun i x k => (some (decide (v = x))).bind fun b => if b then some (i : Int) else k) (some (-1)) (fun m => ?_) (fun m i x hx => ?_) (by rw [loopMax_eq]; omega)]
  · obtain ⟨r, h1, h2, _⟩ := walk_find (fun x => some (decide (v = x))) (fun x => decide (v = x)) s (fun _ _ => rfl) 0
    exact ⟨r, h1, h2⟩
  · simp [f223_l0]
  · have hi := (List.getElem?_eq_some_iff.1 hx).1
    simp only [f223_l0, at_nat, hx, Option.bind_some]; simp [hi]
theorem f200_e (s : List ByteArray) (v : ByteArray) (h : s.length ≤ 4000000000) : f200 s v = some (s.any fun x => decide (v = x)) := by
  unfold f200
  obtain ⟨r, h1, h2⟩ := f223_w s v h
  rw [h1, Option.bind_some]
  congr 1
  rw [Bool.eq_iff_iff, ← h2]; simp
theorem f221_d (s : ByteArray) : Def (f221 s) := by
  unfold f221 Def
  by_cases h : (2 : Int) ≤ s.size
  · simp [h, f200_e]
  · simp [h]
theorem f222_d (s : ByteArray) (c : Int) : Def (f222 s c) := ⟨_, rfl⟩

/-- A name, by its letters. -/
def isName (s : ByteArray) : Bool := match bl s with
  | [] => false
  | c :: _ => pLetter c && (decide (run pPart s ≤ 20) && decide (run pPart s = s.size))
theorem f145_e (s : ByteArray) (h : s.size ≤ 4000000000) : f145 s = some (isName s) := by
  unfold f145 f173
  simp only [show ((1 : Int) == 3) = false from rfl, Bool.false_eq_true, ↓reduceIte]
  by_cases h0 : s = ByteArray.mk (List.toArray [])
  · subst h0; rfl
  · have hpos : 0 < s.size := by
      rcases Nat.eq_zero_or_pos s.size with h1 | h1
      · exfalso; apply h0
        obtain ⟨d⟩ := s
        have : d = #[] := Array.size_eq_zero_iff.1 h1
        rw [this]
      · exact h1
    simp only [h0, decide_false, Bool.false_eq_true, ↓reduceIte]
    unfold f198
    cases hbl : bl s with
    | nil => rw [← bl_len, hbl] at hpos; simp at hpos
    | cons c r =>
      have hb0 : byteAt? s 0 = some c := by
        have := byte_at s 0
        rw [hbl] at this; simpa using this
      simp only [hb0, Option.bind_some, f216_e, f219_e, isName, hbl]
      cases hL : pLetter c with
      | true =>
        simp only [↓reduceIte, f217_218 s h, Option.bind_some, Bool.true_and]
        by_cases h20 : run pPart s ≤ 20
        · have : ¬ ((20 : Int) < run pPart s) := by omega
          simp [this, h20]
          rw [Bool.eq_iff_iff]; simp; omega
        · have : ((20 : Int) < run pPart s) := by omega
          simp [this, h20]
      | false =>
        simp only [Bool.false_eq_true, ↓reduceIte, Bool.false_and]
        cases hD : pDigit c with
        | true =>
          simp only [↓reduceIte, f217_219 s h, Option.bind_some]
          by_cases h9 : (9 : Int) < run pDigit s <;> simp [h9]
        | false =>
          simp only [Bool.false_eq_true, ↓reduceIte]
          by_cases h34 : (c == 34) = true
          · obtain ⟨x, hx⟩ := f220_d s h hpos
            simp only [h34, ↓reduceIte, hx, Option.bind_some]
            by_cases hz : (x.2 == 0) = true <;> simp [hz]
          · obtain ⟨x, hx⟩ := f221_d s
            obtain ⟨y, hy⟩ := f222_d (ByteArray.mk (List.toArray [123, 125, 40, 41, 91, 93, 44, 59, 58, 61, 43, 45, 42, 60, 62, 33, 38, 124, 46, 63])) c
            simp only [h34, hx, hy, Option.bind_some]
            cases x <;> by_cases hy0 : 0 ≤ y <;> simp [hy0]

theorem f163_sig (s : ByteArray) (x10 : List ByteArray) (h : s.size ≤ 4000000000) (hx : ∀ x ∈ x10, x.size ≤ 2) (hl : x10.length ≤ 100) (a b : Int) : ∃ (t : Token) (n e : Int), f163_l0 s 0 x10 loopMax 0 a b = some (t, n, e) ∧ (t.Kind == 1) = false := by
  refine loop_up (fun m i => f163_l0 s 0 x10 m i a b) x10.length (by omega) (fun i r => ∃ (t : Token) (n e : Int), r = some (t, n, e) ∧ (t.Kind == 1) = false) (fun m => ?_) (fun m i hi ih => ?_) 0 (Nat.zero_le _) loopMax (by rw [loopMax_eq]; omega)
  · exact ⟨Token.mk 0 ⟨#[]⟩ 0, 0, 2, by simp [f163_l0], rfl⟩
  · have hg : x10[i]? = some x10[i] := List.getElem?_eq_getElem hi
    have hs := hx x10[i] (List.getElem_mem hi)
    generalize x10[i] = y at hg hs
    have hw : w64 (0 + (y.size : Int)) = y.size := by rw [Int.zero_add]; exact w64_nat (by omega)
    have hi2 : (i : Int) < x10.length := by omega
    have hi0 : (0 : Int) ≤ i := by omega
    have hys : (0 : Int) ≤ y.size := by omega
    simp only [f163_l0, hi2, hi0, decide_true, Bool.and_self, ↓reduceIte, Int.toNat_natCast, hg, Option.bind_some, hw]
    by_cases c1 : (y.size : Int) ≤ s.size
    · simp only [c1, hys, decide_true, ↓reduceIte, and_self, Int.le_refl]
      split
      · exact ⟨_, _, _, rfl, rfl⟩
      · exact ih
    · simp only [c1, decide_false, Bool.false_eq_true, ↓reduceIte]
      exact ih
theorem f100_e (s : ByteArray) (h : s.size ≤ 4000000000) : f100 s = some (isName s) := by
  unfold f100 f131 f162
  simp only [show ((1 : Int) == 3) = false from rfl, Bool.false_eq_true, ↓reduceIte, Option.bind_some]
  by_cases h0 : s = ByteArray.mk (List.toArray [])
  · subst h0; rfl
  · have hpos : 0 < s.size := by
      rcases Nat.eq_zero_or_pos s.size with h1 | h1
      · exfalso; apply h0
        obtain ⟨d⟩ := s
        have : d = #[] := Array.size_eq_zero_iff.1 h1
        rw [this]
      · exact h1
    simp only [h0, decide_false, Bool.false_eq_true, ↓reduceIte]
    unfold f163
    cases hbl : bl s with
    | nil => rw [← bl_len, hbl] at hpos; simp at hpos
    | cons c r =>
      have hb0 : byteAt? s 0 = some c := by
        have := byte_at s 0
        rw [hbl] at this; simpa using this
      simp only [hb0, Option.bind_some, f188_e, f189_e, isName, hbl]
      cases hL : pLetter c with
      | true =>
        have hr := run_le pPart s
        have hw : w64 (0 + (run pPart s : Int)) = run pPart s := by rw [Int.zero_add]; exact w64_nat (by omega)
        simp only [↓reduceIte, letter_digit hL, f190_e s h, Option.bind_some, Bool.true_and, Bool.false_eq_true, hw]
        by_cases h20 : run pPart s ≤ 20
        · have h1 : ¬ ((20 : Int) < run pPart s) := by omega
          have h2 : (0 : Int) ≤ run pPart s := by omega
          have h3 : (run pPart s : Int) ≤ s.size := by omega
          simp only [h1, h2, h3, h20, decide_true, decide_false, Bool.false_eq_true, ↓reduceIte, Int.le_refl, and_self, Option.bind_some, Bool.true_and]
          by_cases h4 : run pPart s = s.size
          · simp [h4]
          · have h5 : ¬ ((run pPart s : Int) = s.size) := by omega
            simp [h4, h5]
        · have : ((20 : Int) < run pPart s) := by omega
          simp [this, h20]
      | false =>
        simp only [Bool.false_eq_true, ↓reduceIte, Bool.false_and]
        cases hD : pDigit c with
        | true =>
          obtain ⟨n, hn, hn2⟩ := f190_d s h
          have hw : w64 (0 + (n : Int)) = n := by rw [Int.zero_add]; exact w64_nat (by omega)
          have h2 : (0 : Int) ≤ n := by omega
          have h3 : (n : Int) ≤ s.size := by omega
          simp only [↓reduceIte, hn, Option.bind_some, hw]
          by_cases h9 : (9 : Int) < n
          · simp only [h9, decide_true, ↓reduceIte, Option.bind_some]; simp
          · simp only [h9, decide_false, Bool.false_eq_true, ↓reduceIte, h2, h3, Int.le_refl, and_self, decide_true, Option.bind_some]
            by_cases h4 : ((n : Int) == s.size) = true <;> simp [h4]
        | false =>
          simp only [Bool.false_eq_true, ↓reduceIte]
          by_cases h34 : (c == 34) = true
          · obtain ⟨x, hx, hx2⟩ := f191_e s h hpos
            simp only [h34, ↓reduceIte, hx, Option.bind_some]
            rcases hx2 with rfl | ⟨g1, g2⟩
            · simp
            · have e1 : (x == 0) = false := by simp; omega
              have e2 : w64 (x - 2) = x - 2 := w64_of (by omega) (by omega)
              have e3 : w64 (0 + 1) = 1 := by rw [w64_of (by omega) (by omega)]; rfl
              have e4 : w64 (0 + x) = x := by rw [Int.zero_add]; exact w64_of (by omega) (by omega)
              have e5 : w64 (x - 1) = x - 1 := w64_of (by omega) (by omega)
              simp only [e1, e2, e3, e4, e5, Bool.false_eq_true, ↓reduceIte]
              have b1 : (0 : Int) ≤ 1 := by omega
              have b2 : (1 : Int) ≤ x - 1 := by omega
              have b3 : x - 1 ≤ (s.size : Int) := by omega
              by_cases h60 : (60 : Int) < x - 2
              · simp only [h60, decide_true, ↓reduceIte, Option.bind_some]; simp
              · simp only [h60, decide_false, Bool.false_eq_true, ↓reduceIte, b1, b2, b3, and_self, decide_true, Option.bind_some]
                by_cases h4 : (x == (s.size : Int)) = true <;> simp [h4]
          · obtain ⟨t, n, e, h1, h2⟩ := f163_sig s _ h (show ∀ x ∈ (ByteArray.mk (List.toArray [45, 62])) :: ((ByteArray.mk (List.toArray [60, 61])) :: ((ByteArray.mk (List.toArray [62, 61])) :: ((ByteArray.mk (List.toArray [61, 61])) :: ((ByteArray.mk (List.toArray [33, 61])) :: ((ByteArray.mk (List.toArray [123])) :: ((ByteArray.mk (List.toArray [125])) :: ((ByteArray.mk (List.toArray [40])) :: ((ByteArray.mk (List.toArray [41])) :: ((ByteArray.mk (List.toArray [91])) :: ((ByteArray.mk (List.toArray [93])) :: ((ByteArray.mk (List.toArray [44])) :: ((ByteArray.mk (List.toArray [59])) :: ((ByteArray.mk (List.toArray [58])) :: ((ByteArray.mk (List.toArray [61])) :: ((ByteArray.mk (List.toArray [43])) :: ((ByteArray.mk (List.toArray [45])) :: ((ByteArray.mk (List.toArray [42])) :: ((ByteArray.mk (List.toArray [60])) :: ((ByteArray.mk (List.toArray [62])) :: ((ByteArray.mk (List.toArray [33])) :: ((ByteArray.mk (List.toArray [38])) :: ((ByteArray.mk (List.toArray [124])) :: ((ByteArray.mk (List.toArray [46])) :: ((ByteArray.mk (List.toArray [63])) :: ([] : List ByteArray))))))))))))))))))))))))), x.size ≤ 2 from of_decide_eq_true (by decide)) (by decide) 0 0
            simp only [h34, Bool.false_eq_true, ↓reduceIte, f192, Option.bind_some, h1]
            by_cases he : (e == 0) = true <;> by_cases hn : (n == (s.size : Int)) = true <;> simp [he, hn, h2]
end Go.S
