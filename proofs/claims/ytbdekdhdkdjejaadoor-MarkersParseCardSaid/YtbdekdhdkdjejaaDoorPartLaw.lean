/- The marked text of regions is put together from theirs, in plain Lean. -/
import Derived.Test.YtbdekdhdkdjejaaDoorParseSpec
namespace Go.Proofs.YtbdekdhdkdjejaaDoor
open Go.RowKit

theorem joinL_ok {xs : List (List UInt8)} (h : (joinL xs).2 = 0) : xs.length ≤ 2000 ∧ joinErr xs = 0 ∧ total xs + xs.length ≤ 65536 ∧ (joinL xs).1 = textOf xs := by
  unfold joinL at h ⊢
  split at h
  · cases h
  · rename_i h1
    rw [if_neg h1]
    split at h
    · rename_i h2; exact absurd h h2
    · rename_i h2
      rw [if_neg h2]
      split at h
      · cases h
      · rename_i h3
        rw [if_neg h3]
        exact ⟨by omega, by omega, by omega, rfl⟩
theorem joinL_of {xs : List (List UInt8)} (h1 : xs.length ≤ 2000) (h2 : joinErr xs = 0) (h3 : total xs + xs.length ≤ 65536) : joinL xs = (textOf xs, 0) := by
  unfold joinL
  rw [if_neg (by omega), if_neg (by omega), if_neg (by omega)]
theorem total_append (a b : List (List UInt8)) : total (a ++ b) = total a + total b := by
  unfold total; simp
theorem textOf_append (a b : List (List UInt8)) : textOf (a ++ b) = textOf a ++ textOf b := by
  unfold textOf; rw [List.flatMap_append]
theorem show_ok {rs : List Reg} (h : (showL rs).2 = 0) : checkAll rs = 0 ∧ (joinL (linesL rs)).2 = 0 ∧ (showL rs).1 = textOf (linesL rs) := by
  unfold showL at h ⊢
  split at h
  · rename_i h1
    rw [if_pos h1]
    split at h
    · rename_i h2
      rw [if_pos h2]
      exact ⟨h1, h2, (joinL_ok h2).2.2.2⟩
    · cases h
  · rename_i h1; exact absurd h h1
theorem show_part {rs : List Reg} (h : (showL rs).2 = 0) {r : Reg} (hr : r ∈ rs) : showL [r] = (textOf (markedL r), 0) := by
  obtain ⟨h1, h2, _⟩ := show_ok h
  obtain ⟨j1, j2, j3, _⟩ := joinL_ok h2
  obtain ⟨s1, s2⟩ := check_all h1 r hr
  have hc : checkAll [r] = 0 := by
    have : regErr false r = 0 := by unfold regErr; rw [if_pos s1]; simp [s2]
    show checkL false [r] = 0
    rw [checkL, if_pos this]
    rfl
  obtain ⟨a, b, rfl⟩ := List.append_of_mem hr
  have e : linesL (a ++ r :: b) = linesL a ++ (markedL r ++ linesL b) := by
    unfold linesL
    rw [List.flatMap_append, List.flatMap_cons]
  rw [e] at j1 j2 j3
  have e2 : linesL [r] = markedL r := by unfold linesL; simp
  have hj : joinL (linesL [r]) = (textOf (markedL r), 0) := by
    rw [e2]
    refine joinL_of ?_ ?_ ?_
    · simp only [List.length_append] at j1; omega
    · have hg := join_good j2
      exact joinErr_all fun x hx => hg x (by simp [hx])
    · rw [total_append, total_append] at j3
      simp only [List.length_append] at j3
      omega
  unfold showL
  rw [if_pos hc, hj]
  simp
theorem text_succ {rs : List Reg} {k : Nat} (h : k < rs.length) : textOf (linesL (rs.take (k + 1))) = textOf (linesL (rs.take k)) ++ textOf (markedL rs[k]) := by
  rw [lines_succ h, textOf_append]
end Go.Proofs.YtbdekdhdkdjejaaDoor
