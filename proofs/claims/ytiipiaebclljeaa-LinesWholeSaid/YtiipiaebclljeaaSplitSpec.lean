import Derived.Test.YtiipiaebclljeaaEach
import Derived.Test.YtiipiaebclljeaaClean
namespace Go.Proofs.Ytiipiaebclljeaa
open Go.RowKit

def hasNul (l : List UInt8) : Bool := l.any fun c => c.toNat == 0
def badEnd (l : List UInt8) : Bool := !l.isEmpty && !(l[l.length - 1]?.getD 0 == 10)
def longLine (xs : List (List UInt8)) : Bool := xs.any fun x => decide (1000 < x.length)
/-- The lines of a text, and the error. -/
def splitL (l : List UInt8) : List (List UInt8) × Nat :=
  if 65536 < l.length then ([], 4) else
  if hasNul l || badEnd l then ([], 3) else
  if longLine (linesOf [] l) || decide (2000 < (linesOf [] l).length) then ([], 4) else (linesOf [] l, 0)

theorem nul_iff (c : UInt8) : c.toNat = 0 ↔ c = 0 := by
  constructor
  · intro h; apply UInt8.toNat_inj.1; exact h
  · rintro rfl; rfl
theorem nulAt_neg {l : List UInt8} (h : hasNul l = false) : nulAt l = -1 := by
  have h1 := Lib.indexByte_ge l 0
  rcases (show nulAt l = -1 ∨ 0 ≤ nulAt l from by unfold nulAt; omega) with h2 | h2
  · exact h2
  · exfalso
    obtain ⟨k, hk⟩ : ∃ k : Nat, Lib.indexByte l 0 = k := ⟨(nulAt l).toNat, by unfold nulAt at h2 ⊢; omega⟩
    obtain ⟨h3, _⟩ := Lib.indexByte_some hk
    unfold hasNul at h
    rw [List.any_eq_false] at h
    have := h 0 (List.mem_of_getElem? h3)
    simp at this
theorem nulAt_pos {l : List UInt8} (h : hasNul l = true) : ∃ k : Nat, nulAt l = k := by
  have h1 := Lib.indexByte_ge l 0
  rcases (show nulAt l = -1 ∨ 0 ≤ nulAt l from by unfold nulAt; omega) with h2 | h2
  · exfalso
    unfold hasNul at h
    rw [List.any_eq_true] at h
    obtain ⟨c, hc, hc0⟩ := h
    obtain ⟨k, hk⟩ := List.getElem?_of_mem hc
    refine Lib.indexByte_none h2 k ?_
    rw [hk, (nul_iff c).1 (by simpa using hc0)]
  · exact ⟨(nulAt l).toNat, by omega⟩
theorem clean_nul (l : List UInt8) : cleanL 0 0 l = !hasNul l := by
  unfold cleanL hasNul
  congr 2
  funext c
  unfold badC
  rw [Bool.or_self, Bool.eq_iff_iff]
  simp
theorem suffix_lf {l : List UInt8} (h : l ≠ []) : Lib.hasSuffix l [10] = (l[l.length - 1]?.getD 0 == 10) := by
  unfold Lib.hasSuffix
  obtain ⟨r, c, rfl⟩ : ∃ r c, l = r ++ [c] := ⟨l.dropLast, l.getLast h, (List.dropLast_concat_getLast h).symm⟩
  have e : (r ++ [c])[(r ++ [c]).length - 1]? = some c := by simp
  rw [e, Option.getD_some, Bool.eq_iff_iff]
  simp only [List.isSuffixOf_iff_suffix, beq_iff_eq]
  constructor
  · rintro ⟨t, ht⟩
    have := congrArg List.getLast? ht
    simp at this
    exact this.symm
  · rintro rfl
    exact ⟨r, rfl⟩
theorem badEnd_nil : badEnd [] = false := rfl
theorem badEnd_cons {l : List UInt8} (h : l ≠ []) : badEnd l = !Lib.hasSuffix l [10] := by
  unfold badEnd
  rw [suffix_lf h]
  cases l with
  | nil => exact absurd rfl h
  | cons c r => simp
end Go.Proofs.Ytiipiaebclljeaa
