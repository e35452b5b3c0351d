/-  -/
import Derived.Test.YtbdekdhdkdjejaaDoorEach
import Derived.Test.YtbdekdhdkdjejaaDoorClean
import Derived.Maps.AppendAt
namespace Go.Proofs.YtbdekdhdkdjejaaDoor
open Go.RowKit

def hasNul (l : List UInt8) : Bool := l.any fun c => c.toNat == 0
def badEnd (l : List UInt8) : Bool := !l.isEmpty && !(l[l.length - 1]?.getD 0 == 10)
def longLine (xs : List (List UInt8)) : Bool := xs.any fun x => decide (1000 < x.length)
/-- The lines of a text, and the error. -/
def splitL (l : List UInt8) : List (List UInt8) × Nat :=
  if 65536 < l.length then ([], 4) else
  if hasNul l || badEnd l then ([], 3) else
  if longLine (linesOf [] l) || decide (2000 < (linesOf [] l).length) then ([], 4) else (linesOf [] l, 0)

theorem nul_iff (c : UInt8) : c.toNat = 0 ↔ c = 0 := by
  constructor
  · intro h; apply UInt8.toNat_inj.1; exact h
  · rintro rfl; rfl
theorem nulAt_neg {l : List UInt8} (h : hasNul l = false) : nulAt l = -1 := by
  have h1 := Lib.indexByte_ge l 0
  rcases (show nulAt l = -1 ∨ 0 ≤ nulAt l from by unfold nulAt; omega) with h2 | h2
  · exact h2
  · exfalso
    obtain ⟨k, hk⟩ : ∃ k : Nat, Lib.indexByte l 0 = k := ⟨(nulAt l).toNat, by unfold nulAt at h2 ⊢; omega⟩
    obtain ⟨h3, _⟩ := Lib.indexByte_some hk
    unfold hasNul at h
    rw [List.any_eq_false] at h
    have := h 0 (List.mem_of_getElem? h3)
    simp at this
theorem nulAt_pos {l : List UInt8} (h : hasNul l = true) : ∃ k : Nat, nulAt l = k := by
  have h1 := Lib.indexByte_ge l 0
  rcases (show nulAt l = -1 ∨ 0 ≤ nulAt l from by unfold nulAt; omega) with h2 | h2
  · exfalso
    unfold hasNul at h
    rw [List.any_eq_true] at h
    obtain ⟨c, hc, hc0⟩ := h
    obtain ⟨k, hk⟩ := List.getElem?_of_mem hc
    refine Lib.indexByte_none h2 k ?_
    rw [hk, (nul_iff c).1 (by simpa using hc0)]
  · exact ⟨(nulAt l).toNat, by omega⟩
theorem clean_nul (l : List UInt8) : cleanL 0 0 l = !hasNul l := by
  unfold cleanL hasNul
  congr 2
  funext c
  unfold badC
  rw [Bool.or_self, Bool.eq_iff_iff]
  simp
theorem suffix_lf {l : List UInt8} (h : l ≠ []) : Lib.hasSuffix l [10] = (l[l.length - 1]?.getD 0 == 10) := by
  unfold Lib.hasSuffix
  obtain ⟨r, c, rfl⟩ : ∃ r c, l = r ++ [c] := ⟨l.dropLast, l.getLast h, (List.dropLast_concat_getLast h).symm⟩
  have e : (r ++ [c])[(r ++ [c]).length - 1]? = some c := by simp
  rw [e, Option.getD_some, Bool.eq_iff_iff]
  simp only [List.isSuffixOf_iff_suffix, beq_iff_eq]
  constructor
  · rintro ⟨t, ht⟩
    have := congrArg List.getLast? ht
    simp at this
    exact this.symm
  · rintro rfl
    exact ⟨r, rfl⟩
theorem badEnd_nil : badEnd [] = false := rfl
theorem badEnd_cons {l : List UInt8} (h : l ≠ []) : badEnd l = !Lib.hasSuffix l [10] := by
  unfold badEnd
  rw [suffix_lf h]
  cases l with
  | nil => exact absurd rfl h
  | cons c r => simp
end Go.Proofs.YtbdekdhdkdjejaaDoor
namespace Go.Proofs.YtbdekdhdkdjejaaDoor
open Go.RowKit Go.Shelf
attribute [local go_sem] Oper.semAt_some

def SplitOut (l : List UInt8) (w : World) (e : Ending) (w' : World) : Prop :=
  ∃ v, e = .returned (.tuple #[v, .int .i64 ((splitL l).2 : Nat)]) ∧ Strs w' v (splitL l).1 ∧ Below w.heap.size w w'
theorem splitOut_err {l : List UInt8} {w w' : World} {n : Nat} (h : splitL l = ([], n)) (hb : Below w.heap.size w w') : SplitOut l w (.returned (.tuple #[.slice none 0 0, .int .i64 (n : Nat)])) w' := by
  unfold SplitOut
  rw [h]
  exact ⟨_, rfl, .inl ⟨rfl, none, 0, rfl, Nat.zero_le _, fun _ => rfl⟩, hb⟩

theorem hasSuffix_lf (l : List UInt8) (w : World) (hl : l.length ≤ maxLen) : Calls Tryd.prog 49 #[.string (B l), .string (B [10])] w fun e w' => e = .returned (.bool (Lib.hasSuffix l [10])) ∧ w = w' :=
  (Tryd.strings_HasSuffix (B l) (B [10]) w (by rw [B_size]; exact hl)).mono fun _ _ h => ⟨h.1, h.2.symm⟩

set_option maxHeartbeats 400000 in
theorem split_great (l : List UInt8) (w : World) (h : 65536 < l.length) : Calls Tryd.prog 26 #[.string (B l)] w (SplitOut l w) := by
  have h' : decide ((65536 : Int) < (l.length : Int)) = true := by simp; omega
  go_enter Tryd.func26, Tryd.ntmps26
  go_wp2
  go_ret2
  exact splitOut_err (n := 4) (by unfold splitL; rw [if_pos h]) (Below.refl _ _)

set_option maxHeartbeats 400000 in
theorem split_nul (l : List UInt8) (w : World) (h : l.length ≤ 65536) (h0 : hasNul l = true) : Calls Tryd.prog 26 #[.string (B l)] w (SplitOut l w) := by
  obtain ⟨k, hk⟩ := nulAt_pos h0
  have HK := Lib.hid hk
  have H0 := Lib.hid h0
  clear hk h0
  go_enter Tryd.func26, Tryd.ntmps26
  go_wp2_with (go_at_call 48; refine (index_nul _ _).mono ?_; rintro e w' ⟨rfl, rfl⟩; rw [HK.out])
  go_ret2
  exact splitOut_err (n := 3) (by unfold splitL; rw [if_neg (by omega), H0.out]; rfl) (Below.refl _ _)

set_option maxHeartbeats 400000 in
theorem split_end (l : List UInt8) (w : World) (h : l.length ≤ 65536) (h0 : hasNul l = false) (h1 : badEnd l = true) : Calls Tryd.prog 26 #[.string (B l)] w (SplitOut l w) := by
  have hne : l ≠ [] := by rintro rfl; cases h1
  have hs : Lib.hasSuffix l [10] = false := by rw [badEnd_cons hne] at h1; simpa using h1
  have HS := Lib.hid hs
  have HK := Lib.hid (nulAt_neg h0)
  have H1 := Lib.hid h1
  have he : l.isEmpty = false := by cases l <;> simp at hne ⊢
  clear h0 h1 hs hne
  go_enter Tryd.func26, Tryd.ntmps26
  go_wp2_with (first | (go_at_call 48; refine (index_nul _ _).mono ?_; rintro e w' ⟨rfl, rfl⟩; rw [HK.out]) | (go_at_call 49; refine (hasSuffix_lf _ _ (by unfold maxLen; omega)).mono ?_; rintro e w' ⟨rfl, rfl⟩; rw [HS.out]))
  go_ret2
  exact splitOut_err (n := 3) (by unfold splitL; rw [if_neg (by omega), H1.out, Bool.or_true]; rfl) (Below.refl _ _)
end Go.Proofs.YtbdekdhdkdjejaaDoor
