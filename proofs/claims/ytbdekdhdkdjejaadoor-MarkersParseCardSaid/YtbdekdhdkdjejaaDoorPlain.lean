/- Plain laws of texts and lines. -/
import Derived.Test.YtbdekdhdkdjejaaDoorJoinRef
import Derived.Test.YtbdekdhdkdjejaaDoorText
namespace Go.Proofs.YtbdekdhdkdjejaaDoor
open Go.RowKit

theorem goodEnd {l : List UInt8} (h : badEnd l = false) : l = [] ∨ ∃ p, l = p ++ [10] := by
  cases he : l.isEmpty
  · right
    have hne : l ≠ [] := by rintro rfl; cases he
    rw [badEnd_cons hne] at h
    have hs : Lib.hasSuffix l [10] = true := by simpa using h
    unfold Lib.hasSuffix at hs
    rw [List.isSuffixOf_iff_suffix] at hs
    obtain ⟨p, hp⟩ := hs
    exact ⟨p, hp.symm⟩
  · left
    cases l <;> simp at he ⊢
theorem badEnd_append {a b : List UInt8} (ha : badEnd a = false) (hb : badEnd b = false) : badEnd (a ++ b) = false := by
  rcases goodEnd hb with rfl | ⟨p, rfl⟩
  · rw [List.append_nil]; exact ha
  · have hne : a ++ (p ++ [10]) ≠ [] := by simp
    rw [badEnd_cons hne]
    have : Lib.hasSuffix (a ++ (p ++ [10])) [10] = true := by
      unfold Lib.hasSuffix
      rw [List.isSuffixOf_iff_suffix]
      exact ⟨a ++ p, by simp⟩
    rw [this]; rfl
theorem text_parts {l : List UInt8} (h : isTextL l = true) : l.length ≤ 65536 ∧ hasNul l = false ∧ badEnd l = false ∧ longLine (linesOf [] l) = false ∧ (linesOf [] l).length ≤ 2000 ∧ splitL l = (linesOf [] l, 0) := by
  unfold isTextL at h
  rw [decide_eq_true_eq] at h
  unfold splitL at h ⊢
  split at h
  · simp at h
  · rename_i h1
    rw [if_neg h1]
    split at h
    · simp at h
    · rename_i h2
      rw [if_neg h2]
      split at h
      · simp at h
      · rename_i h3
        rw [if_neg h3]
        simp only [Bool.or_eq_true, not_or, Bool.not_eq_true, decide_eq_true_eq] at h2 h3
        exact ⟨by omega, h2.1, h2.2, h3.1, by omega, rfl⟩
theorem linesOf_mem (cur l : List UInt8) (hc : ∀ c ∈ cur, c.toNat ≠ 10) : ∀ x ∈ linesOf cur l, ∀ c ∈ x, c.toNat ≠ 10 ∧ c ∈ cur ++ l := by
  induction l generalizing cur with
  | nil => intro x hx; rw [linesOf_nil] at hx; cases hx
  | cons d r ih =>
    intro x hx c hcx
    rw [linesOf] at hx
    by_cases hd : d.toNat = 10
    · rw [if_pos hd] at hx
      rcases List.mem_cons.1 hx with rfl | hx
      · exact ⟨hc c hcx, by simp [hcx]⟩
      · have := ih [] (fun c h => (by cases h)) x hx c hcx
        exact ⟨this.1, by have h2 := this.2; simp at h2; simp [h2]⟩
    · rw [if_neg hd] at hx
      have hc' : ∀ c ∈ cur ++ [d], c.toNat ≠ 10 := by
        intro c h
        rcases List.mem_append.1 h with h | h
        · exact hc c h
        · simp at h; rw [h]; exact hd
      have := ih (cur ++ [d]) hc' x hx c hcx
      exact ⟨this.1, by have h2 := this.2; simp at h2 ⊢; exact h2⟩
theorem textOf_linesOf (cur l : List UInt8) (h : l = [] ∧ cur = [] ∨ ∃ p, l = p ++ [10]) : textOf (linesOf cur l) = cur ++ l := by
  induction l generalizing cur with
  | nil =>
    rcases h with ⟨_, rfl⟩ | ⟨p, hp⟩
    · rfl
    · cases p <;> cases hp
  | cons c t ih =>
    have ht : t = [] ∧ c = 10 ∨ ∃ p, t = p ++ [10] := by
      rcases h with ⟨h, _⟩ | ⟨p, hp⟩
      · cases h
      · cases p with
        | nil => left; injection hp with h1 h2; exact ⟨h2, h1⟩
        | cons d p => right; injection hp with h1 h2; exact ⟨p, h2⟩
    rw [linesOf]
    by_cases hc : c.toNat = 10
    · rw [if_pos hc]
      have hq : t = [] ∧ ([] : List UInt8) = [] ∨ ∃ p, t = p ++ [10] := by
        rcases ht with ⟨h1, _⟩ | h1
        · exact .inl ⟨h1, rfl⟩
        · exact .inr h1
      have := ih [] hq
      unfold textOf at this ⊢
      rw [List.flatMap_cons, this, (lf_iff c).1 hc]
      simp
    · rw [if_neg hc]
      rcases ht with ⟨_, h1⟩ | h1
      · exact absurd ((lf_iff c).2 h1) hc
      · rw [ih _ (.inr h1)]
        simp
theorem clean_of {x : List UInt8} (h1 : ∀ c ∈ x, c.toNat ≠ 10) (h2 : ∀ c ∈ x, c.toNat ≠ 0) : cleanL 10 0 x = true := by
  rw [clean_lf]
  have e1 : hasLF x = false := by
    unfold hasLF
    rw [List.any_eq_false]
    intro c hc
    have := h1 c hc
    simpa using this
  have e2 : hasNul x = false := by
    unfold hasNul
    rw [List.any_eq_false]
    intro c hc
    have := h2 c hc
    simpa using this
  rw [e1, e2]; rfl
theorem not_nul {l : List UInt8} (h : hasNul l = false) : ∀ c ∈ l, c.toNat ≠ 0 := by
  unfold hasNul at h
  rw [List.any_eq_false] at h
  intro c hc
  simpa using h c hc
theorem clean_parts {x : List UInt8} (h : cleanL 10 0 x = true) : (∀ c ∈ x, c.toNat ≠ 10) ∧ hasNul x = false := by
  rw [clean_lf, Bool.and_eq_true] at h
  have e1 : hasLF x = false := by simpa using h.1
  refine ⟨?_, by simpa using h.2⟩
  unfold hasLF at e1
  rw [List.any_eq_false] at e1
  intro c hc
  simpa using e1 c hc
theorem short_of {xs : List (List UInt8)} (h : longLine xs = false) : ∀ x ∈ xs, x.length ≤ 1000 := by
  unfold longLine at h
  rw [List.any_eq_false] at h
  intro x hx
  have := h x hx
  simp at this
  omega
/-- Joining the lines of a text yields the text. -/
theorem join_split {l : List UInt8} (h : isTextL l = true) : joinL (splitL l).1 = (l, 0) := by
  obtain ⟨h1, h2, h3, h4, h5, h6⟩ := text_parts h
  rw [h6]
  have hend : l = [] ∧ ([] : List UInt8) = [] ∨ ∃ p, l = p ++ [10] := by
    rcases goodEnd h3 with h | h
    · exact .inl ⟨h, rfl⟩
    · exact .inr h
  have htext : textOf (linesOf [] l) = l := textOf_linesOf [] l hend
  have hgood : ∀ j (hj : j < (linesOf [] l).length), goodLine (linesOf [] l)[j] := by
    intro j hj
    have hm := List.getElem_mem hj
    have hb := linesOf_mem [] l (fun c h => (by cases h)) _ hm
    exact ⟨short_of h4 _ hm, clean_of (fun c hc => (hb c hc).1) (fun c hc => not_nul h2 c (by have := (hb c hc).2; simpa using this))⟩
  have hlen := textOf_length (linesOf [] l)
  rw [htext] at hlen
  show joinL (linesOf [] l) = (l, 0)
  unfold joinL
  rw [if_neg (by omega), joinErr_none hgood, if_neg (by simp), if_neg (by omega), htext]
theorem linesOf_clean (cur x r : List UInt8) (h : ∀ c ∈ x, c.toNat ≠ 10) : linesOf cur (x ++ r) = linesOf (cur ++ x) r := by
  induction x generalizing cur with
  | nil => simp
  | cons c t ih =>
    rw [List.cons_append, linesOf, if_neg (h c (by simp)), ih _ (fun d hd => h d (by simp [hd]))]
    simp
theorem linesOf_textOf {xs : List (List UInt8)} (h : ∀ x ∈ xs, ∀ c ∈ x, c.toNat ≠ 10) : linesOf [] (textOf xs) = xs := by
  induction xs with
  | nil => exact linesOf_nil []
  | cons x r ih =>
    have e : textOf (x :: r) = x ++ (10 :: textOf r) := by unfold textOf; simp
    rw [e, linesOf_clean [] x _ (h x (by simp)), linesOf, if_pos (by rfl), ih (fun y hy => h y (by simp [hy]))]
    rfl
theorem join_good {xs : List (List UInt8)} (h : joinErr xs = 0) : ∀ x ∈ xs, goodLine x := by
  induction xs with
  | nil => intro x hx; cases hx
  | cons y r ih =>
    rw [joinErr] at h
    split at h
    · cases h
    · rename_i h1
      split at h
      · rename_i h2
        intro x hx
        rcases List.mem_cons.1 hx with rfl | hx
        · exact ⟨by omega, h2⟩
        · exact ih h x hx
      · cases h
theorem textOf_bytes (xs : List (List UInt8)) (h : ∀ x ∈ xs, hasNul x = false) : hasNul (textOf xs) = false ∧ badEnd (textOf xs) = false := by
  induction xs with
  | nil => exact ⟨rfl, rfl⟩
  | cons x r ih =>
    obtain ⟨i1, i2⟩ := ih (fun y hy => h y (by simp [hy]))
    have e : textOf (x :: r) = (x ++ [10]) ++ textOf r := by unfold textOf; simp
    have hx := h x (by simp)
    rw [e]
    refine ⟨?_, badEnd_append ?_ i2⟩
    · unfold hasNul at hx i1 ⊢
      rw [List.any_append, List.any_append, hx, i1]
      rfl
    · rw [badEnd_cons (by simp)]
      have : Lib.hasSuffix (x ++ [10]) [10] = true := by
        unfold Lib.hasSuffix
        rw [List.isSuffixOf_iff_suffix]
        exact ⟨x, rfl⟩
      rw [this]; rfl
/-- Splitting a joined text yields its lines. -/
theorem split_join {xs : List (List UInt8)} (h : (joinL xs).2 = 0) : splitL (joinL xs).1 = (xs, 0) := by
  unfold joinL at h ⊢
  split at h
  · cases h
  · rename_i h1
    rw [if_neg h1]
    split at h
    · rename_i h2
      exact absurd h h2
    · rename_i h2
      rw [if_neg h2]
      split at h
      · cases h
      · rename_i h3
        rw [if_neg h3]
        have hz : joinErr xs = 0 := by omega
        have hg := join_good hz
        have hl := linesOf_textOf (xs := xs) (fun x hx => (clean_parts (hg x hx).2).1)
        obtain ⟨b1, b2⟩ := textOf_bytes xs (fun x hx => (clean_parts (hg x hx).2).2)
        have hlen := textOf_length xs
        have hlong : longLine xs = false := longLine_miss (fun j hj => (hg _ (List.getElem_mem hj)).1)
        show splitL (textOf xs) = (xs, 0)
        unfold splitL
        rw [if_neg (by omega), b1, b2, hl, hlong, if_neg (by simp), if_neg (by simp; omega)]
theorem joinErr_cases (xs : List (List UInt8)) : joinErr xs = 0 ∨ joinErr xs = 4 ∨ joinErr xs = 3 := by
  induction xs with
  | nil => exact .inl rfl
  | cons y r ih =>
    rw [joinErr]
    split
    · exact .inr (.inl rfl)
    · split
      · exact ih
      · exact .inr (.inr rfl)
theorem join_fails {xs : List (List UInt8)} (h : (joinL xs).2 ≠ 0) : (joinL xs).1 = [] ∧ ((joinL xs).2 = 4 ∨ (joinL xs).2 = 3) := by
  unfold joinL at h ⊢
  split
  · exact ⟨rfl, .inl rfl⟩
  · rename_i h1
    rw [if_neg h1] at h
    split
    · rename_i h2
      exact ⟨rfl, (joinErr_cases xs).resolve_left h2⟩
    · rename_i h2
      rw [if_neg h2] at h
      split
      · exact ⟨rfl, .inl rfl⟩
      · rename_i h3
        rw [if_neg h3] at h
        exact absurd rfl h
end Go.Proofs.YtbdekdhdkdjejaaDoor
