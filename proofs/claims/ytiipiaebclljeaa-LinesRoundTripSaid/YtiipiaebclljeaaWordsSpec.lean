import Derived.Test.YtiipiaebclljeaaKind
namespace Go.Proofs.Ytiipiaebclljeaa
open Go.RowKit

/-- The length of the first word. -/
def wlen (l : List UInt8) : Nat := max 1 (max (runLen isWord l) (runLen isBlank l))
def wordsF : Nat → List UInt8 → List (List UInt8)
  | 0, _ => []
  | _, [] => []
  | f + 1, c :: r => (c :: r).take (wlen (c :: r)) :: wordsF f ((c :: r).drop (wlen (c :: r)))
/-- The words of a string. -/
def wordsL (l : List UInt8) : List (List UInt8) := wordsF l.length l

theorem wlen_pos (l : List UInt8) : 1 ≤ wlen l := Nat.le_max_left _ _
theorem wlen_le {l : List UInt8} (h : l ≠ []) : wlen l ≤ l.length := by
  have h1 := runLen_le isWord l
  have h2 := runLen_le isBlank l
  have h3 : 1 ≤ l.length := by cases l <;> simp at h ⊢
  unfold wlen
  omega
theorem wordsF_enough (f g : Nat) (l : List UInt8) (hf : l.length ≤ f) (hg : l.length ≤ g) : wordsF f l = wordsF g l := by
  induction f generalizing g l with
  | zero =>
    have : l = [] := List.eq_nil_of_length_eq_zero (by omega)
    subst this
    cases g <;> rfl
  | succ f ih =>
    cases l with
    | nil => cases g <;> rfl
    | cons c r =>
      cases g with
      | zero => simp at hg
      | succ g =>
        have hp := wlen_pos (c :: r)
        simp only [wordsF]
        rw [ih g _ (by rw [List.length_drop]; omega) (by rw [List.length_drop]; omega)]
theorem wordsL_nil : wordsL [] = [] := rfl
theorem wordsL_cons {l : List UInt8} (h : l ≠ []) : wordsL l = l.take (wlen l) :: wordsL (l.drop (wlen l)) := by
  cases l with
  | nil => exact absurd rfl h
  | cons c r =>
    have hp := wlen_pos (c :: r)
    unfold wordsL
    rw [List.length_cons, wordsF]
    rw [wordsF_enough r.length ((c :: r).drop (wlen (c :: r))).length _ (by rw [List.length_drop, List.length_cons]; omega) (Nat.le_refl _)]
theorem isBlank_not_word (c : UInt8) (h : isBlank c = true) : isWord c = false := by
  unfold isBlank at h
  unfold isWord
  rw [decide_eq_true_eq] at h
  rw [decide_eq_false_iff_not]
  omega
theorem kind_one (c : UInt8) : kindOf c = 1 ↔ isWord c = true := by
  unfold kindOf
  cases h : isWord c
  · cases h2 : isBlank c <;> simp
  · simp
theorem kind_two (c : UInt8) : kindOf c = 2 ↔ isBlank c = true := by
  unfold kindOf
  cases h : isWord c
  · cases h2 : isBlank c <;> simp
  · cases h2 : isBlank c
    · simp
    · have := isBlank_not_word c h2
      rw [h] at this; cases this
theorem kind_le (c : UInt8) : kindOf c ≤ 2 := by
  unfold kindOf
  split
  · omega
  · split <;> omega
theorem runLen_zero {p : UInt8 → Bool} {l : List UInt8} (h : 0 < l.length) (hp : p l[0] = false) : runLen p l = 0 := by
  cases l with
  | nil => rfl
  | cons c r => simp at hp; simp [runLen, hp]
theorem runLen_same {p : UInt8 → Bool} {l : List UInt8} {n q : Nat} (hq : ∀ c, kindOf c = q ↔ p c = true) (hn : n ≤ l.length) (h0 : 0 < l.length) (hk : kindOf l[0] = q)
    (h : ∀ j (hj : j < l.length), 1 ≤ j → j < n → kindOf l[j] = q) (hs : ∀ hl : n < l.length, kindOf l[n] ≠ q) : runLen p l = n := by
  refine runLen_of p l n hn (fun j hj hjn => (hq _).1 ?_) (fun hl => ?_)
  · by_cases e : j = 0
    · subst e; exact hk
    · exact h j hj (by omega) hjn
  · cases hpn : p l[n]
    · rfl
    · exact absurd ((hq _).2 hpn) (hs hl)
/-- What the reference's inner loop comes to. -/
theorem wlen_of {l : List UInt8} {n : Nat} (h0 : 0 < l.length) (hn1 : 1 ≤ n) (hn : n ≤ l.length)
    (h : ∀ j (hj : j < l.length), 1 ≤ j → j < n → 0 < kindOf l[0] ∧ kindOf l[j] = kindOf l[0]) (hs : ∀ hl : n < l.length, ¬ (0 < kindOf l[0] ∧ kindOf l[n] = kindOf l[0])) : wlen l = n := by
  have hle := kind_le l[0]
  by_cases hk0 : kindOf l[0] = 0
  · have hn' : n = 1 := by
      by_cases e : n = 1
      · exact e
      · have := (h 1 (by omega) (by omega) (by omega)).1
        omega
    have a1 : isWord l[0] = false := by
      cases hh : isWord l[0]
      · rfl
      · have := (kind_one _).2 hh; omega
    have a2 : isBlank l[0] = false := by
      cases hh : isBlank l[0]
      · rfl
      · have := (kind_two _).2 hh; omega
    unfold wlen
    rw [runLen_zero h0 a1, runLen_zero h0 a2]
    omega
  · have hs' : ∀ hl : n < l.length, kindOf l[n] ≠ kindOf l[0] := fun hl e => hs hl ⟨by omega, e⟩
    have h' : ∀ j (hj : j < l.length), 1 ≤ j → j < n → kindOf l[j] = kindOf l[0] := fun j hj h1 h2 => (h j hj h1 h2).2
    by_cases hk1 : kindOf l[0] = 1
    · rw [hk1] at hs' h'
      have a2 : isBlank l[0] = false := by
        cases hh : isBlank l[0]
        · rfl
        · have := (kind_two _).2 hh; omega
      unfold wlen
      rw [runLen_same kind_one hn h0 hk1 h' hs', runLen_zero h0 a2]
      omega
    · have hk2 : kindOf l[0] = 2 := by omega
      rw [hk2] at hs' h'
      have a2 : isWord l[0] = false := by
        cases hh : isWord l[0]
        · rfl
        · have := (kind_one _).2 hh; omega
      unfold wlen
      rw [runLen_same kind_two hn h0 hk2 h' hs', runLen_zero h0 a2]
      omega
end Go.Proofs.Ytiipiaebclljeaa
