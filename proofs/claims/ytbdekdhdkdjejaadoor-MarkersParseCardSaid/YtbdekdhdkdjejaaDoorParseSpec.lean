/- What Parse computes, in plain Lean. -/
import Derived.Test.YtbdekdhdkdjejaaDoorQuotes
import Derived.Test.YtbdekdhdkdjejaaDoorPlain
import Derived.Test.YtbdekdhdkdjejaaDoorShow
import Derived.Test.YtbdekdhdkdjejaaDoorClose
namespace Go.Proofs.YtbdekdhdkdjejaaDoor
open Go.RowKit

def s0 : PS := ⟨[], [], [], [], false⟩
def stepS (s : PS) (x : List UInt8) : Option PS :=
  if s.ins then
    (if x == opM then none else
    if x == seM then (if s.side.isEmpty then none else some (sepS s)) else
    if x == clM then (if s.side.isEmpty then none else some (closeS (sepS s))) else some (sideS s x))
  else (if x == seM || x == clM then none else if x == opM then some (openS s) else some (lineS s x))
/-- The last state, and the number of the line that is refused (0: none). -/
def runL : PS → Nat → List (List UInt8) → PS × Nat
  | s, _, [] => (s, 0)
  | s, n, x :: r => match stepS s x with
    | none => (s, n + 1)
    | some t => runL t (n + 1) r
def endL (len : Nat) (s : PS) : List Reg × Nat × Nat := if s.ins then ([], len + 1, 3) else ((flushS s).out, 0, 0)
def parseL (l : List UInt8) : List Reg × Nat × Nat :=
  if (splitL l).2 = 0 then
    (if (runL s0 0 (splitL l).1).2 = 0 then endL (splitL l).1.length (runL s0 0 (splitL l).1).1 else ([], (runL s0 0 (splitL l).1).2, 3))
  else ([], 0, (splitL l).2)

theorem not_markers {x : List UInt8} (h : isM x = false) : (x == opM) = false ∧ (x == seM) = false ∧ (x == clM) = false := by
  unfold isM at h
  simp only [Bool.or_eq_false_iff] at h
  exact ⟨h.1.1, h.1.2, h.2⟩
theorem step_line {s : PS} {x : List UInt8} (hi : s.ins = false) (h : isM x = false) : stepS s x = some (lineS s x) := by
  obtain ⟨h1, h2, h3⟩ := not_markers h
  simp [stepS, hi, h1, h2, h3]
theorem step_side {s : PS} {x : List UInt8} (hi : s.ins = true) (h : isM x = false) : stepS s x = some (sideS s x) := by
  obtain ⟨h1, h2, h3⟩ := not_markers h
  simp [stepS, hi, h1, h2, h3]
theorem step_open {s : PS} (hi : s.ins = false) : stepS s opM = some (openS s) := by
  have h1 : (opM == seM) = false := by decide
  have h2 : (opM == clM) = false := by decide
  simp [stepS, hi, h1, h2]
theorem step_sep {s : PS} (hi : s.ins = true) (he : s.side.isEmpty = false) : stepS s seM = some (sepS s) := by
  have h1 : (seM == opM) = false := by decide
  simp [stepS, hi, h1, he]
theorem step_close {s : PS} (hi : s.ins = true) (he : s.side.isEmpty = false) : stepS s clM = some (closeS (sepS s)) := by
  have h1 : (clM == opM) = false := by decide
  have h2 : (clM == seM) = false := by decide
  simp [stepS, hi, h1, h2, he]
theorem run_cons {s t : PS} {n : Nat} {x : List UInt8} {r : List (List UInt8)} (h : stepS s x = some t) : runL s n (x :: r) = runL t (n + 1) r := by
  rw [runL, h]

/-- Whether the region ahead has no conflict. -/
def prevOf (p : Bool) (rs : List Reg) : Bool := rs.foldl (fun _ r => !r.conf) p
theorem prevOf_snoc (p : Bool) (a : List Reg) (r : Reg) : prevOf p (a ++ [r]) = !r.conf := by
  unfold prevOf; rw [List.foldl_append]; rfl
theorem check_snoc {p : Bool} {a : List Reg} (r : Reg) (h : checkL p a = 0) : checkL p (a ++ [r]) = regErr (prevOf p a) r := by
  induction a generalizing p with
  | nil =>
    simp only [List.nil_append, checkL]
    show _ = regErr p r
    split
    · rename_i h0; rw [h0]
    · rfl
  | cons x t ih =>
    rw [checkL] at h
    split at h
    · rename_i h0
      rw [List.cons_append, checkL, if_pos h0, ih h]
      rfl
    · rename_i h0; exact absurd h h0
theorem check_snoc_inv {p : Bool} {a : List Reg} {r : Reg} (h : checkL p (a ++ [r]) = 0) : checkL p a = 0 ∧ regErr (prevOf p a) r = 0 := by
  induction a generalizing p with
  | nil =>
    simp only [List.nil_append, checkL] at h
    refine ⟨rfl, ?_⟩
    show regErr p r = 0
    split at h
    · assumption
    · exact h
  | cons x t ih =>
    rw [List.cons_append, checkL] at h
    split at h
    · rename_i h0
      rw [checkL, if_pos h0]
      exact ih h
    · rename_i h0; exact absurd h h0

theorem lines_snoc (a : List Reg) (r : Reg) : linesL (a ++ [r]) = linesL a ++ markedL r := by
  unfold linesL; rw [List.flatMap_append]; simp

/-- The lines that have been read, and what they were parsed to. -/
structure Inv (pre : List (List UInt8)) (s : PS) : Prop where
  text : pre = linesL s.out ++ (if s.ins then sidesL opM (s.sides ++ [s.side]) else quotedL s.lines)
  check : checkL false s.out = 0
  last : s.ins = false → prevOf false s.out = false
  lines : ∀ x ∈ s.lines, goodLine x
  sides : ∀ y ∈ s.sides, y.isEmpty = false ∧ ∀ x ∈ y, goodLine x
  side : ∀ x ∈ s.side, goodLine x
  nil1 : s.ins = true → s.lines = []
  nil2 : s.ins = false → s.sides = [] ∧ s.side = []

theorem inv_start : Inv [] s0 :=
  { text := rfl, check := rfl, last := fun _ => rfl, lines := fun x h => (by cases h), sides := fun x h => (by cases h), side := fun x h => (by cases h), nil1 := fun h => (by cases h), nil2 := fun _ => ⟨rfl, rfl⟩ }

theorem joinErr_all {xs : List (List UInt8)} (h : ∀ x ∈ xs, goodLine x) : joinErr xs = 0 := joinErr_none fun _ hj => h _ (List.getElem_mem hj)

theorem flush_inv {pre : List (List UInt8)} {s : PS} (h : Inv pre s) (hi : s.ins = false) : checkL false (flushS s).out = 0 ∧ linesL (flushS s).out = pre := by
  have ht := h.text
  rw [hi] at ht
  unfold flushS
  cases he : s.lines.isEmpty
  · simp only [Bool.false_eq_true, ↓reduceIte]
    constructor
    · rw [check_snoc _ h.check, h.last hi]
      unfold regErr shapeL allOf
      simp only [he, Bool.false_eq_true, ↓reduceIte, Bool.not_false, List.isEmpty_nil, Bool.and_self, Bool.false_and, List.flatten_nil, List.append_nil]
      exact joinErr_all h.lines
    · rw [lines_snoc, ht]
      rfl
  · simp only [↓reduceIte]
    refine ⟨h.check, ?_⟩
    rw [List.isEmpty_iff.1 he] at ht
    rw [ht]
    simp [quotedL]

theorem good_unquote {x : List UInt8} (h : goodLine x) : goodLine (unquoteL x) := by
  unfold unquoteL
  split
  · refine ⟨by rw [List.length_drop]; have := h.1; omega, ?_⟩
    have h2 := h.2
    unfold cleanL at h2 ⊢
    rw [Bool.not_eq_true', List.any_eq_false] at h2 ⊢
    intro c hc
    exact h2 c (List.mem_of_mem_drop hc)
  · exact h

theorem step_inv {pre : List (List UInt8)} {s t : PS} {x : List UInt8} (h : Inv pre s) (hx : goodLine x) (hs : stepS s x = some t) : Inv (pre ++ [x]) t := by
  cases hi : s.ins
  · obtain ⟨g1, g2⟩ := h.nil2 hi
    have ht := h.text
    rw [hi] at ht
    cases hm : isM x
    · rw [step_line hi hm] at hs
      cases hs
      refine { text := ?_, check := h.check, last := fun _ => h.last hi, lines := ?_, sides := h.sides, side := h.side, nil1 := fun e => ?_, nil2 := fun _ => ⟨g1, g2⟩ }
      · rw [show (lineS s x).ins = s.ins from rfl, hi, ht]
        show _ = linesL s.out ++ quotedL (s.lines ++ [unquoteL x])
        rw [quoted_snoc _ hm]
        simp
      · intro y hy
        rcases List.mem_append.1 (show y ∈ s.lines ++ [unquoteL x] from hy) with hy | hy
        · exact h.lines y hy
        · rw [List.mem_singleton.1 hy]; exact good_unquote hx
      · rw [show (lineS s x).ins = s.ins from rfl, hi] at e; cases e
    · rcases isM_cases hm with rfl | rfl | rfl
      · rw [step_open hi] at hs
        cases hs
        obtain ⟨f1, f2⟩ := flush_inv h hi
        refine { text := ?_, check := f1, last := fun e => (by cases e), lines := ?_, sides := fun y hy => (by cases hy), side := fun y hy => (by cases hy), nil1 := fun _ => ?_, nil2 := fun e => (by cases e) }
        · show _ = linesL (flushS s).out ++ sidesL opM ([] ++ [[]])
          rw [f2]
          rfl
        · intro y hy
          have : y ∈ (flushS s).lines := hy
          unfold flushS at this
          split at this
          · exact h.lines y this
          · cases this
        · show (flushS s).lines = []
          unfold flushS
          split
          · rename_i e; exact List.isEmpty_iff.1 e
          · rfl
      · simp [stepS, hi] at hs
      · simp [stepS, hi] at hs
  · have g1 := h.nil1 hi
    have ht := h.text
    rw [hi] at ht
    cases hm : isM x
    · rw [step_side hi hm] at hs
      cases hs
      refine { text := ?_, check := h.check, last := fun e => ?_, lines := h.lines, sides := h.sides, side := ?_, nil1 := fun _ => g1, nil2 := fun e => ?_ }
      · rw [show (sideS s x).ins = s.ins from rfl, hi, ht]
        show _ = linesL s.out ++ sidesL opM (s.sides ++ [s.side ++ [unquoteL x]])
        simp only [↓reduceIte]
        rw [sides_snoc, sides_snoc, quoted_snoc _ hm]
        simp
      · rw [show (sideS s x).ins = s.ins from rfl, hi] at e; cases e
      · intro y hy
        rcases List.mem_append.1 (show y ∈ s.side ++ [unquoteL x] from hy) with hy | hy
        · exact h.side y hy
        · rw [List.mem_singleton.1 hy]; exact good_unquote hx
      · rw [show (sideS s x).ins = s.ins from rfl, hi] at e; cases e
    · have hsides : s.side.isEmpty = false → ∀ y ∈ s.sides ++ [s.side], y.isEmpty = false ∧ ∀ x ∈ y, goodLine x := by
        intro he y hy
        rcases List.mem_append.1 hy with hy | hy
        · exact h.sides y hy
        · rw [List.mem_singleton.1 hy]; exact ⟨he, h.side⟩
      rcases isM_cases hm with rfl | rfl | rfl
      · simp [stepS, hi] at hs
      · cases he : s.side.isEmpty
        · rw [step_sep hi he] at hs
          cases hs
          refine { text := ?_, check := h.check, last := fun e => ?_, lines := h.lines, sides := hsides he, side := fun y hy => (by cases hy), nil1 := fun _ => g1, nil2 := fun e => ?_ }
          · rw [show (sepS s).ins = s.ins from rfl, hi, ht]
            show _ = linesL s.out ++ sidesL opM ((s.sides ++ [s.side]) ++ [[]])
            simp only [↓reduceIte]
            rw [sides_snoc opM (s.sides ++ [s.side]) []]
            simp [quotedL]
          · rw [show (sepS s).ins = s.ins from rfl, hi] at e; cases e
          · rw [show (sepS s).ins = s.ins from rfl, hi] at e; cases e
        · have h1 : (seM == opM) = false := by decide
          simp [stepS, hi, h1, he] at hs
      · cases he : s.side.isEmpty
        · rw [step_close hi he] at hs
          cases hs
          refine { text := ?_, check := ?_, last := fun _ => ?_, lines := fun y hy => (by cases hy), sides := fun y hy => (by cases hy), side := fun y hy => (by cases hy), nil1 := fun e => (by cases e), nil2 := fun _ => ⟨rfl, rfl⟩ }
          · rw [ht]
            show _ = linesL (s.out ++ [⟨true, [], s.sides ++ [s.side]⟩]) ++ []
            rw [lines_snoc]
            simp [markedL]
          · show checkL false (s.out ++ [⟨true, [], s.sides ++ [s.side]⟩]) = 0
            rw [check_snoc _ h.check]
            have e1 : emptyIn (s.sides ++ [s.side]) = false := by
              unfold emptyIn
              rw [List.any_eq_false]
              intro y hy
              rw [(hsides he y hy).1]; simp
            have e2 : (s.sides ++ [s.side]).isEmpty = false := by simp
            unfold regErr shapeL allOf
            simp only [e1, e2, ↓reduceIte, List.isEmpty_nil, Bool.not_false, Bool.and_self, Bool.not_true, Bool.and_false, List.nil_append, Bool.false_eq_true]
            refine joinErr_all fun z hz => ?_
            obtain ⟨y, hy, hz⟩ := List.mem_flatten.1 hz
            exact (hsides he y hy).2 z hz
          · show prevOf false (s.out ++ [⟨true, [], s.sides ++ [s.side]⟩]) = false
            rw [prevOf_snoc]; rfl
        · have h1 : (clM == opM) = false := by decide
          have h2 : (clM == seM) = false := by decide
          simp [stepS, hi, h1, h2, he] at hs
theorem run_inv {pre xs : List (List UInt8)} {s : PS} {n : Nat} (h : Inv pre s) (hx : ∀ x ∈ xs, goodLine x) (h0 : (runL s n xs).2 = 0) : Inv (pre ++ xs) (runL s n xs).1 := by
  induction xs generalizing pre s n with
  | nil => simpa [runL] using h
  | cons x r ih =>
    rw [runL] at h0 ⊢
    cases hs : stepS s x with
    | none => rw [hs] at h0; simp at h0
    | some t =>
      rw [hs] at h0
      have := ih (step_inv h (hx x (by simp)) hs) (fun y hy => hx y (by simp [hy])) h0
      simpa using this
theorem split_good {l : List UInt8} (h : (splitL l).2 = 0) : ∀ x ∈ (splitL l).1, goodLine x := by
  have ht : isTextL l = true := by unfold isTextL; simpa using h
  obtain ⟨h1, h2, h3, h4, h5, h6⟩ := text_parts ht
  rw [h6]
  intro x hm
  have hb := linesOf_mem [] l (fun c h => (by cases h)) _ hm
  exact ⟨short_of h4 _ hm, clean_of (fun c hc => (hb c hc).1) (fun c hc => not_nul h2 c (by have := (hb c hc).2; simpa using this))⟩
/-- What can be parsed is the marked text of the result. -/
theorem parse_exact {l : List UInt8} (h : (parseL l).2.2 = 0) : (parseL l).2.1 = 0 ∧ checkAll (parseL l).1 = 0 ∧ showL (parseL l).1 = (l, 0) ∧ linesL (parseL l).1 = (splitL l).1 := by
  unfold parseL at h ⊢
  split at h
  · rename_i h1
    rw [if_pos h1]
    split at h
    · rename_i h2
      rw [if_pos h2]
      unfold endL at h ⊢
      split at h
      · simp at h
      · rename_i h3
        rw [if_neg h3]
        have hI := run_inv inv_start (split_good h1) h2
        obtain ⟨f1, f2⟩ := flush_inv hI (by simpa using h3)
        rw [List.nil_append] at f2
        have hj := join_split (l := l) (by unfold isTextL; simpa using h1)
        refine ⟨rfl, f1, ?_, f2⟩
        show showL (flushS (runL s0 0 (splitL l).1).1).out = _
        unfold showL
        rw [if_pos (show checkAll _ = 0 from f1), f2, hj]
        simp
    · simp at h
  · rename_i h1; exact absurd h h1
theorem run_num {s : PS} {n : Nat} {xs : List (List UInt8)} : (runL s n xs).2 = 0 ∨ (n < (runL s n xs).2 ∧ (runL s n xs).2 ≤ n + xs.length) := by
  induction xs generalizing s n with
  | nil => exact .inl rfl
  | cons x r ih =>
    rw [runL]
    cases stepS s x with
    | none => right; simp
    | some t =>
      rcases ih (s := t) (n := n + 1) with h | h
      · exact .inl h
      · right; simp only [List.length_cons]; omega
theorem parse_fails {l : List UInt8} (h : (parseL l).2.2 ≠ 0) : (parseL l).1 = [] ∧ ((parseL l).2.1 = 0 ↔ (splitL l).2 ≠ 0) := by
  unfold parseL at h ⊢
  split
  · rename_i h1
    rw [if_pos h1] at h
    split
    · rename_i h2
      rw [if_pos h2] at h
      unfold endL at h ⊢
      split
      · exact ⟨rfl, by simp [h1]⟩
      · rename_i h3; rw [if_neg h3] at h; exact absurd rfl h
    · rename_i h2
      refine ⟨rfl, ?_⟩
      rcases run_num (s := s0) (n := 0) (xs := (splitL l).1) with h3 | h3
      · exact absurd h3 h2
      · simp [h1]; omega
  · rename_i h1
    exact ⟨rfl, by simp [h1]⟩

theorem run_side {s : PS} {n : Nat} {xs r : List (List UInt8)} (hi : s.ins = true) : runL s n (quotedL xs ++ r) = runL { s with side := s.side ++ xs } (n + xs.length) r := by
  induction xs generalizing s n with
  | nil => simp [quotedL]
  | cons x t ih =>
    show runL s n (quoteL x :: (quotedL t ++ r)) = _
    rw [run_cons (step_side hi (quote_not_marker x)), ih (s := sideS s (quoteL x)) hi]
    unfold sideS
    rw [unquote_quote]
    simp only [List.append_assoc, List.singleton_append, List.length_cons]
    congr 1
    omega
theorem run_lines {s : PS} {n : Nat} {xs r : List (List UInt8)} (hi : s.ins = false) : runL s n (quotedL xs ++ r) = runL { s with lines := s.lines ++ xs } (n + xs.length) r := by
  induction xs generalizing s n with
  | nil => simp [quotedL]
  | cons x t ih =>
    show runL s n (quoteL x :: (quotedL t ++ r)) = _
    rw [run_cons (step_line hi (quote_not_marker x)), ih (s := lineS s (quoteL x)) hi]
    unfold lineS
    rw [unquote_quote]
    simp only [List.append_assoc, List.singleton_append, List.length_cons]
    congr 1
    omega
theorem run_sides {o : List Reg} {a ys : List (List (List UInt8))} {x r : List (List UInt8)} {li : List (List UInt8)} {n : Nat} (hx : x.isEmpty = false) (hy : ∀ y ∈ ys, y.isEmpty = false) :
    ∃ m, runL ⟨o, li, a, x, true⟩ n (sidesL seM ys ++ clM :: r) = runL ⟨o ++ [⟨true, [], a ++ [x] ++ ys⟩], [], [], [], false⟩ m r := by
  induction ys generalizing a x n with
  | nil =>
    refine ⟨n + 1, ?_⟩
    show runL _ n (clM :: r) = _
    rw [run_cons (step_close rfl hx)]
    simp [closeS, sepS]
  | cons y t ih =>
    show ∃ m, runL _ n (seM :: (quotedL y ++ sidesL seM t ++ clM :: r)) = _
    rw [run_cons (step_sep rfl hx)]
    rw [List.append_assoc, run_side (s := sepS ⟨o, li, a, x, true⟩) rfl]
    obtain ⟨m, hm⟩ := ih (a := a ++ [x]) (x := y) (n := n + 1 + y.length) (hy y (by simp)) (fun z hz => hy z (by simp [hz]))
    refine ⟨m, ?_⟩
    show runL ⟨o, li, a ++ [x], [] ++ y, true⟩ _ _ = _
    rw [List.nil_append, hm]
    simp
theorem shape_conf {r : Reg} (h : shapeL r = true) (hc : r.conf = true) : ∃ x ys, r = ⟨true, [], x :: ys⟩ ∧ x.isEmpty = false ∧ ∀ y ∈ ys, y.isEmpty = false := by
  obtain ⟨c, li, si⟩ := r
  simp only at hc
  subst hc
  unfold shapeL at h
  simp only [↓reduceIte, Bool.and_eq_true] at h
  obtain ⟨⟨h1, h2⟩, h3⟩ := h
  have : li = [] := List.isEmpty_iff.1 h1
  subst this
  cases si with
  | nil => simp at h2
  | cons x ys =>
    unfold emptyIn at h3
    simp only [List.any_cons, Bool.not_eq_true', Bool.or_eq_false_iff, List.any_eq_false, Bool.not_eq_true] at h3
    exact ⟨x, ys, rfl, h3.1, h3.2⟩
theorem shape_plain {r : Reg} (h : shapeL r = true) (hc : r.conf = false) : r = ⟨false, r.lines, []⟩ ∧ r.lines.isEmpty = false := by
  obtain ⟨c, li, si⟩ := r
  simp only at hc
  subst hc
  unfold shapeL at h
  simp only [Bool.false_eq_true, ↓reduceIte, Bool.and_eq_true] at h
  obtain ⟨h1, h2⟩ := h
  have : si = [] := List.isEmpty_iff.1 h2
  subst this
  exact ⟨rfl, by simpa using h1⟩
theorem regErr_zero {p : Bool} {r : Reg} (h : regErr p r = 0) : shapeL r = true ∧ (r.conf = false → p = false) ∧ joinErr (allOf r) = 0 := by
  unfold regErr at h
  split at h
  · rename_i h1
    split at h
    · cases h
    · rename_i h2
      refine ⟨h1, fun hc => ?_, h⟩
      rw [hc] at h2
      simpa using h2
  · cases h

/-- The marked lines of regions are parsed to them. -/
theorem run_regions (rs : List Reg) (h : checkL false rs = 0) : ∀ r : List (List UInt8), ∃ s m, runL s0 0 (linesL rs ++ r) = runL s m r ∧ s.ins = false ∧ s.sides = [] ∧ s.side = [] ∧ (flushS s).out = rs ∧ (prevOf false rs = false → s.lines = []) := by
  have hrev : ∀ k, k ≤ rs.length → ∀ r : List (List UInt8), ∃ s m, runL s0 0 (linesL (rs.take k) ++ r) = runL s m r ∧ s.ins = false ∧ s.sides = [] ∧ s.side = [] ∧ (flushS s).out = rs.take k ∧ (prevOf false (rs.take k) = false → s.lines = []) := by
    intro k
    induction k with
    | zero => intro _ r; exact ⟨s0, 0, by simp [linesL], rfl, rfl, rfl, rfl, fun _ => rfl⟩
    | succ k ih =>
      intro hk r
      have hlt : k < rs.length := by omega
      have hc : checkL false (rs.take (k + 1)) = 0 := by
        have : rs = rs.take (k + 1) ++ rs.drop (k + 1) := (List.take_append_drop _ _).symm
        rw [this] at h
        revert h
        generalize rs.take (k + 1) = a
        generalize rs.drop (k + 1) = b
        generalize false = p
        induction a generalizing p with
        | nil => intro _; rfl
        | cons x t ih =>
          intro h
          rw [List.cons_append, checkL] at h
          split at h
          · rename_i h0
            rw [checkL, if_pos h0]
            exact ih _ h
          · rename_i h0; exact absurd h h0
      rw [List.take_succ_eq_append_getElem hlt] at hc ⊢
      obtain ⟨_, hr⟩ := check_snoc_inv hc
      obtain ⟨hs, hp, _⟩ := regErr_zero hr
      obtain ⟨s, m, h1, h2, h3, h4, h5, h6⟩ := ih (by omega) (markedL rs[k] ++ r)
      rw [lines_snoc, List.append_assoc, h1, prevOf_snoc]
      cases hcf : rs[k].conf
      · obtain ⟨e1, e2⟩ := shape_plain hs hcf
        have hl := h6 (hp hcf)
        have hm : markedL rs[k] = quotedL rs[k].lines := by unfold markedL; rw [hcf]; rfl
        rw [hm, run_lines h2, hl, List.nil_append]
        refine ⟨_, _, rfl, h2, h3, h4, ?_, fun e => by cases e⟩
        have hf : flushS s = s := by unfold flushS; rw [hl]; rfl
        rw [hf] at h5
        unfold flushS
        simp only [e2, Bool.false_eq_true, ↓reduceIte]
        rw [h5, ← e1]
      · obtain ⟨x, ys, e1, e2, e3⟩ := shape_conf hs hcf
        have hm : markedL rs[k] = opM :: (quotedL x ++ (sidesL seM ys ++ [clM])) := by
          rw [e1]; simp [markedL, sidesL]
        rw [hm, List.cons_append, run_cons (step_open h2)]
        simp only [List.append_assoc, List.singleton_append]
        rw [run_side (s := openS s) rfl]
        obtain ⟨m2, hm2⟩ := run_sides (o := (flushS s).out) (a := []) (ys := ys) (x := x) (r := r) (li := (flushS s).lines) (n := m + 1 + x.length) e2 e3
        have he : ({ openS s with side := (openS s).side ++ x } : PS) = ⟨(flushS s).out, (flushS s).lines, [], x, true⟩ := by simp [openS]
        rw [he, hm2]
        refine ⟨_, m2, rfl, rfl, rfl, rfl, ?_, fun _ => rfl⟩
        show (flushS s).out ++ [⟨true, [], [] ++ [x] ++ ys⟩] = _
        rw [h5, e1]
        rfl
  intro r
  have := hrev rs.length (Nat.le_refl _) r
  rwa [List.take_length] at this
/-- Parsing the marked text of regions yields the regions. -/
theorem parse_show {rs : List Reg} (h : (showL rs).2 = 0) : parseL (showL rs).1 = (rs, 0, 0) ∧ isTextL (showL rs).1 = true := by
  unfold showL at h ⊢
  split at h
  · rename_i h1
    rw [if_pos h1]
    split at h
    · rename_i h2
      rw [if_pos h2]
      have hs := split_join h2
      obtain ⟨s, m, g1, g2, g3, g4, g5, _⟩ := run_regions rs h1 []
      rw [List.append_nil] at g1
      simp only
      refine ⟨?_, by unfold isTextL; rw [hs]; rfl⟩
      unfold parseL
      rw [hs]
      simp only [g1, runL, ↓reduceIte]
      unfold endL
      rw [g2, g5]
      rfl
    · cases h
  · rename_i h1; exact absurd h h1
/-- A text without a marker behind backslashes is one region. -/
theorem run_clean {xs : List (List UInt8)} (h : ∀ x ∈ xs, quotL x = false) {s : PS} {n : Nat} (hi : s.ins = false) : runL s n xs = ({ s with lines := s.lines ++ xs }, 0) := by
  induction xs generalizing s n with
  | nil => simp [runL]
  | cons x t ih =>
    have hq := h x (by simp)
    have hm : isM x = false := by
      cases e : isM x
      · rfl
      · rw [quot_marker e] at hq; cases hq
    rw [run_cons (step_line hi hm), ih (fun y hy => h y (by simp [hy])) (s := lineS s x) hi]
    have hu : unquoteL x = x := by simp [unquoteL, hq]
    simp [lineS, hu]
theorem parse_clean {l : List UInt8} (h0 : (splitL l).2 = 0) (h : ∀ x ∈ (splitL l).1, quotL x = false) :
    parseL l = ((if (splitL l).1.isEmpty then [] else [⟨false, (splitL l).1, []⟩]), 0, 0) := by
  unfold parseL
  rw [if_pos h0, run_clean h rfl]
  simp only [↓reduceIte]
  unfold endL
  simp only [s0, List.nil_append]
  unfold flushS
  simp only [Bool.false_eq_true, ↓reduceIte]
  cases (splitL l).1.isEmpty <;> rfl
end Go.Proofs.YtbdekdhdkdjejaaDoor
