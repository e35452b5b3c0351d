/- Plain laws of quoted lines. -/
import Derived.Test.YtbdekdhdkdjejaaDoorQuoted
namespace Go.Proofs.YtbdekdhdkdjejaaDoor
open Go.RowKit

theorem trim_cons (l : List UInt8) : trimL (92 :: l) = trimL l := by
  unfold trimL Lib.trimLeftB
  simp
theorem trim_other (c : UInt8) (l : List UInt8) (h : c ≠ 92) : trimL (c :: l) = c :: l := by
  unfold trimL Lib.trimLeftB
  simp [h]
theorem quot_cons (l : List UInt8) : quotL (92 :: l) = quotL l := by
  unfold quotL; rw [trim_cons]
theorem isM_cases {l : List UInt8} (h : isM l = true) : l = opM ∨ l = seM ∨ l = clM := by
  unfold isM at h
  simp only [Bool.or_eq_true, beq_iff_eq] at h
  rcases h with (h | h) | h
  · exact .inl h
  · exact .inr (.inl h)
  · exact .inr (.inr h)
theorem quot_marker {l : List UInt8} (h : isM l = true) : quotL l = true := by
  rcases isM_cases h with rfl | rfl | rfl <;> decide
theorem isM_bs (l : List UInt8) : isM (92 :: l) = false := by
  unfold isM opM seM clM
  simp
theorem unquote_quote (l : List UInt8) : unquoteL (quoteL l) = l := by
  unfold quoteL
  cases h : quotL l
  · simp [unquoteL, h]
  · simp [unquoteL, quot_cons, h, isM_bs]
theorem quote_not_marker (l : List UInt8) : isM (quoteL l) = false := by
  unfold quoteL
  cases h : quotL l
  · cases h2 : isM l
    · simpa using h2
    · rw [quot_marker h2] at h; cases h
  · simpa using isM_bs l
theorem quote_unquote {l : List UInt8} (h : isM l = false) : quoteL (unquoteL l) = l := by
  unfold unquoteL
  cases hq : quotL l
  · simp [quoteL, hq]
  · rw [h]
    cases l with
    | nil => revert hq; decide
    | cons c t =>
      by_cases hc : c = 92
      · subst hc
        rw [quot_cons] at hq
        simp [quoteL, hq]
      · unfold quotL at hq
        rw [trim_other c t hc, h] at hq
        cases hq
theorem quote_inj {a b : List UInt8} : quoteL a = quoteL b ↔ a = b := by
  constructor
  · intro h
    rw [← unquote_quote a, h, unquote_quote]
  · rintro rfl; rfl
theorem quoted_snoc (xs : List (List UInt8)) {x : List UInt8} (h : isM x = false) : quotedL (xs ++ [unquoteL x]) = quotedL xs ++ [x] := by
  unfold quotedL
  rw [List.map_append, List.map_singleton, quote_unquote h]
end Go.Proofs.YtbdekdhdkdjejaaDoor
