/- The parser's state function at any line. -/
import Derived.Test.YtbdekdhdkdjejaaDoorClose
import Derived.Test.YtbdekdhdkdjejaaDoorParseSpec
namespace Go.Proofs.YtbdekdhdkdjejaaDoor
open Go.RowKit

def szS (s : PS) : Nat := s.out.length + s.lines.length + s.sides.length + s.side.length
theorem flush_sz (s : PS) : szS (flushS s) ≤ szS s := by
  unfold flushS
  cases h : s.lines.isEmpty
  · have := len_pos h
    simp only [Bool.false_eq_true, ↓reduceIte, szS, List.length_append, List.length_singleton, List.length_nil]
    omega
  · simp
theorem step_sz {s t : PS} {x : List UInt8} (h : stepS s x = some t) : szS t ≤ szS s + 1 := by
  cases hi : s.ins
  · cases hm : isM x
    · rw [step_line hi hm] at h
      cases h
      simp only [szS, lineS, List.length_append, List.length_singleton]; omega
    · rcases isM_cases hm with rfl | rfl | rfl
      · rw [step_open hi] at h
        cases h
        have := flush_sz s
        simp only [szS, openS, List.length_nil] at this ⊢; omega
      · simp [stepS, hi] at h
      · simp [stepS, hi] at h
  · cases hm : isM x
    · rw [step_side hi hm] at h
      cases h
      simp only [szS, sideS, List.length_append, List.length_singleton]; omega
    · rcases isM_cases hm with rfl | rfl | rfl
      · simp [stepS, hi] at h
      · cases he : s.side.isEmpty
        · rw [step_sep hi he] at h
          cases h
          simp only [szS, sepS, List.length_append, List.length_singleton, List.length_nil]; omega
        · have h1 : (seM == opM) = false := by decide
          simp [stepS, hi, h1, he] at h
      · cases he : s.side.isEmpty
        · rw [step_close hi he] at h
          cases h
          simp only [szS, closeS, sepS, List.length_append, List.length_singleton, List.length_nil]; omega
        · have h1 : (clM == opM) = false := by decide
          have h2 : (clM == seM) = false := by decide
          simp [stepS, hi, h1, h2, he] at h

def StepPost (base pb : Nat) (s : PS) (x : List UInt8) (w : World) (e : Ending) (w' : World) : Prop :=
  (∃ t, stepS s x = some t ∧ e = .returned (.bool true) ∧ PInv base pb t w' ∧ FB base pb w w') ∨ (stepS s x = none ∧ e = .returned (.bool false) ∧ w = w')

theorem outside_any (base pb : Nat) (s : PS) (x : List UInt8) (w : World) (h : PInv base pb s w) (hi : s.ins = false) (hl : x.length ≤ 1000000) (hn : szS s ≤ 100000) :
    Calls Tryd.prog 41 #[.pointer (some ⟨pb, 0, none⟩), .string (B x)] w (StepPost base pb s x w) := by
  unfold szS at hn
  cases hm : isM x
  · obtain ⟨φ, vo, vl, vs, vd, us, ss, h⟩ := h
    refine (outside_line base pb s x w φ vo vl vs vd us ss h hi hm hl (by omega)).mono ?_
    rintro e w' ⟨h1, h2, h3⟩
    exact .inl ⟨_, step_line hi hm, h1, h2, h3⟩
  · rcases isM_cases hm with rfl | rfl | rfl
    · refine (outside_open base pb s w h (by omega)).mono ?_
      rintro e w' ⟨h1, h2, h3⟩
      exact .inl ⟨_, step_open hi, h1, h2, h3⟩
    · refine (outside_bad pb _ w (.inl rfl)).mono ?_
      rintro e w' ⟨h1, h2⟩
      exact .inr ⟨by simp [stepS, hi], h1, h2⟩
    · refine (outside_bad pb _ w (.inr rfl)).mono ?_
      rintro e w' ⟨h1, h2⟩
      exact .inr ⟨by simp [stepS, hi], h1, h2⟩
theorem inside_any (base pb : Nat) (s : PS) (x : List UInt8) (w : World) (h : PInv base pb s w) (hi : s.ins = true) (hl : x.length ≤ 1000000) (hn : szS s ≤ 100000) :
    Calls Tryd.prog 63 #[.pointer (some ⟨pb, 0, none⟩), .string (B x)] w (StepPost base pb s x w) := by
  unfold szS at hn
  cases hm : isM x
  · obtain ⟨φ, vo, vl, vs, vd, us, ss, h⟩ := h
    refine (inside_line base pb s x w φ vo vl vs vd us ss h hi hm hl (by omega)).mono ?_
    rintro e w' ⟨h1, h2, h3⟩
    exact .inl ⟨_, step_side hi hm, h1, h2, h3⟩
  · rcases isM_cases hm with rfl | rfl | rfl
    · refine (inside_open pb w).mono ?_
      rintro e w' ⟨h1, h2⟩
      exact .inr ⟨by simp [stepS, hi], h1, h2⟩
    · cases he : s.side.isEmpty
      · obtain ⟨φ, vo, vl, vs, vd, us, ss, h⟩ := h
        refine (inside_sep base pb s w φ vo vl vs vd us ss h hi he (by omega)).mono ?_
        rintro e w' ⟨h1, h2, h3⟩
        exact .inl ⟨_, step_sep hi he, h1, h2, h3⟩
      · refine (inside_empty base pb s _ w h (.inl rfl) he).mono ?_
        rintro e w' ⟨h1, h2⟩
        have g1 : (seM == opM) = false := by decide
        exact .inr ⟨by simp [stepS, hi, g1, he], h1, h2⟩
    · cases he : s.side.isEmpty
      · obtain ⟨φ, vo, vl, vs, vd, us, ss, h⟩ := h
        refine (inside_close base pb s w φ vo vl vs vd us ss h hi he (by omega) (by omega)).mono ?_
        rintro e w' ⟨h1, h2, h3⟩
        exact .inl ⟨_, step_close hi he, h1, h2, h3⟩
      · refine (inside_empty base pb s _ w h (.inr rfl) he).mono ?_
        rintro e w' ⟨h1, h2⟩
        have g1 : (clM == opM) = false := by decide
        have g2 : (clM == seM) = false := by decide
        exact .inr ⟨by simp [stepS, hi, g1, g2, he], h1, h2⟩

/-- The state outlives turns of what is no cells. -/
theorem PState.grown {base pb : Nat} {s : PS} {w w2 : World} {φ : Nat → Prop} {vo vl vs vd : Value} {us : List (Bool × Value × Value)} {ss : List Value} (h : PState base pb s w φ vo vl vs vd us ss) {row : Option Nat} (hg : w.grownBy w2 row)
    (hr : ∀ k, row = some k → ∃ o : Obj, w.heap[k]? = some o ∧ o.isCells = false) : PState base pb s w2 φ vo vl vs vd us ss := by
  have hc : ∀ k : Nat, (∃ cs t, w.heap[k]? = some (Obj.cells cs t (0, 0))) → w2.heap[k]? = w.heap[k]? := by
    rintro k ⟨cs, t, hk⟩
    refine hg.block k (Array.getElem?_eq_some_iff.1 hk).1 (fun e => ?_)
    obtain ⟨o, ho, hf⟩ := hr k e.symm
    rw [hk] at ho
    cases ho
    cases hf
  have K : Keeps φ w w2 := ⟨hg.size, fun k _ hφ => hc k (h.apart.cells k hφ)⟩
  exact {
    lt := h.lt
    le := Nat.le_trans h.le hg.size
    row := (hc pb ⟨_, _, h.row⟩).trans h.row
    out := row_keep h.out (fun k hk => hc k (row_cells h.out hk))
    ulen := h.ulen
    regs := fun i hi hj => ⟨(h.regs i hi hj).1, (h.regs i hi hj).2.1.keeps K, (h.regs i hi hj).2.2.keeps K⟩
    lines := row_keep h.lines (fun k hk => hc k (row_cells h.lines hk))
    sides := row_keep h.sides (fun k hk => hc k (row_cells h.sides hk))
    slen := h.slen
    strs := fun i hi hj => (h.strs i hi hj).keeps K
    side := row_keep h.side (fun k hk => hc k (row_cells h.side hk))
    apart := ⟨fun b hb => cells_kept K hb (h.apart.cells b hb), h.apart.gt, h.apart.out, h.apart.lines, h.apart.sides, h.apart.side⟩
    nil1 := h.nil1
    nil2 := h.nil2 }
theorem PInv.grown {base pb : Nat} {s : PS} {w w2 : World} (h : PInv base pb s w) {row : Option Nat} (hg : w.grownBy w2 row) (hr : ∀ k, row = some k → ∃ o : Obj, w.heap[k]? = some o ∧ o.isCells = false) : PInv base pb s w2 := by
  obtain ⟨φ, vo, vl, vs, vd, us, ss, h⟩ := h
  exact ⟨φ, vo, vl, vs, vd, us, ss, h.grown hg hr⟩

theorem run_snoc {s : PS} {n : Nat} {a : List (List UInt8)} {x : List UInt8} (h : (runL s n a).2 = 0) :
    runL s n (a ++ [x]) = match stepS (runL s n a).1 x with
      | none => ((runL s n a).1, n + a.length + 1)
      | some t => (t, 0) := by
  induction a generalizing s n with
  | nil => rfl
  | cons y r ih =>
    rw [List.cons_append]
    rw [runL] at h ⊢
    cases hs : stepS s y with
    | none => rw [hs] at h; simp at h
    | some t =>
      rw [hs] at h
      simp only at h ⊢
      rw [ih h, runL, hs]
      simp only [List.length_cons]
      rw [show n + 1 + r.length + 1 = n + (r.length + 1) + 1 from by omega]
theorem run_stop {s : PS} {n : Nat} {a b : List (List UInt8)} (h : (runL s n a).2 ≠ 0) : runL s n (a ++ b) = runL s n a := by
  induction a generalizing s n with
  | nil => exact absurd rfl h
  | cons y r ih =>
    rw [List.cons_append]
    rw [runL] at h ⊢
    rw [runL]
    cases hs : stepS s y with
    | none => rfl
    | some t =>
      rw [hs] at h
      exact ih h
theorem run_sz {s : PS} {n : Nat} {a : List (List UInt8)} : szS (runL s n a).1 ≤ szS s + a.length := by
  induction a generalizing s n with
  | nil => exact Nat.le_refl _
  | cons y r ih =>
    rw [runL]
    cases hs : stepS s y with
    | none => simp only [List.length_cons]; omega
    | some t =>
      have h1 := ih (s := t) (n := n + 1)
      have h2 := step_sz hs
      simp only [List.length_cons]
      omega
/-- Inside a conflict at the end: some side has been begun, or the last line opens it. -/
def openEnd (xs : List (List UInt8)) : Bool := match xs.getLast? with
  | some x => x == opM
  | none => false
theorem step_last {s t : PS} {x : List UInt8} (hn : s.ins = false → s.sides = [] ∧ s.side = []) (h : stepS s x = some t) : t.ins = (!t.sides.isEmpty || !t.side.isEmpty || x == opM) ∧ (t.ins = false → t.sides = [] ∧ t.side = []) := by
  cases hi : s.ins
  · obtain ⟨e1, e2⟩ := hn hi
    cases hm : isM x
    · rw [step_line hi hm] at h
      cases h
      have := (not_markers hm).1
      simp [lineS, hi, e1, e2, this]
    · rcases isM_cases hm with rfl | rfl | rfl
      · rw [step_open hi] at h
        cases h
        simp [openS]
      · simp [stepS, hi] at h
      · simp [stepS, hi] at h
  · cases hm : isM x
    · rw [step_side hi hm] at h
      cases h
      simp [sideS, hi]
    · rcases isM_cases hm with rfl | rfl | rfl
      · simp [stepS, hi] at h
      · cases he : s.side.isEmpty
        · rw [step_sep hi he] at h
          cases h
          simp [sepS, hi]
        · have h1 : (seM == opM) = false := by decide
          simp [stepS, hi, h1, he] at h
      · cases he : s.side.isEmpty
        · rw [step_close hi he] at h
          cases h
          have h1 : (clM == opM) = false := by decide
          simp [closeS, h1]
        · have h1 : (clM == opM) = false := by decide
          have h2 : (clM == seM) = false := by decide
          simp [stepS, hi, h1, h2, he] at h
theorem run_last (xs : List (List UInt8)) (h : (runL s0 0 xs).2 = 0) : (runL s0 0 xs).1.ins = (!(runL s0 0 xs).1.sides.isEmpty || !(runL s0 0 xs).1.side.isEmpty || openEnd xs) := by
  have key : ∀ k, k ≤ xs.length → (runL s0 0 (xs.take k)).2 = 0 → (runL s0 0 (xs.take k)).1.ins = (!(runL s0 0 (xs.take k)).1.sides.isEmpty || !(runL s0 0 (xs.take k)).1.side.isEmpty || openEnd (xs.take k)) ∧
      ((runL s0 0 (xs.take k)).1.ins = false → (runL s0 0 (xs.take k)).1.sides = [] ∧ (runL s0 0 (xs.take k)).1.side = []) := by
    intro k
    induction k with
    | zero => intro _ _; exact ⟨rfl, fun _ => ⟨rfl, rfl⟩⟩
    | succ k ih =>
      intro hk h0
      have hlt : k < xs.length := by omega
      rw [List.take_succ_eq_append_getElem hlt] at h0 ⊢
      have h1 : (runL s0 0 (xs.take k)).2 = 0 := by
        by_cases e : (runL s0 0 (xs.take k)).2 = 0
        · exact e
        · rw [run_stop e] at h0; exact h0
      obtain ⟨_, g2⟩ := ih (by omega) h1
      rw [run_snoc h1] at h0 ⊢
      cases hs : stepS (runL s0 0 (xs.take k)).1 xs[k] with
      | none => rw [hs] at h0; simp at h0
      | some t =>
        have := step_last g2 hs
        simp only
        unfold openEnd
        rw [List.getLast?_append]
        simpa using this
  have := (key xs.length (Nat.le_refl _) (by rw [List.take_length]; exact h)).1
  rwa [List.take_length] at this
end Go.Proofs.YtbdekdhdkdjejaaDoor
