import Derived.Test.YtiipiaebclljeaaSplitSpec
import Derived.Maps.AppendAt
namespace Go.Proofs.Ytiipiaebclljeaa
open Go.RowKit Go.Shelf
attribute [local go_sem] Oper.semAt_some

def SplitOut (l : List UInt8) (w : World) (e : Ending) (w' : World) : Prop :=
  ∃ v, e = .returned (.tuple #[v, .int .i64 ((splitL l).2 : Nat)]) ∧ Strs w' v (splitL l).1 ∧ Below w.heap.size w w'
theorem splitOut_err {l : List UInt8} {w w' : World} {n : Nat} (h : splitL l = ([], n)) (hb : Below w.heap.size w w') : SplitOut l w (.returned (.tuple #[.slice none 0 0, .int .i64 (n : Nat)])) w' := by
  unfold SplitOut
  rw [h]
  exact ⟨_, rfl, .inl ⟨rfl, none, 0, rfl, Nat.zero_le _, fun _ => rfl⟩, hb⟩

theorem hasSuffix_lf (l : List UInt8) (w : World) (hl : l.length ≤ maxLen) : Calls Try.prog 32 #[.string (B l), .string (B [10])] w fun e w' => e = .returned (.bool (Lib.hasSuffix l [10])) ∧ w = w' :=
  (Try.strings_HasSuffix (B l) (B [10]) w (by rw [B_size]; exact hl)).mono fun _ _ h => ⟨h.1, h.2.symm⟩

set_option maxHeartbeats 400000 in
theorem split_great (l : List UInt8) (w : World) (h : 65536 < l.length) : Calls Try.prog 19 #[.string (B l)] w (SplitOut l w) := by
  have h' : decide ((65536 : Int) < (l.length : Int)) = true := by simp; omega
  go_enter Try.func19, Try.ntmps19
  go_wp2
  go_ret2
  exact splitOut_err (n := 4) (by unfold splitL; rw [if_pos h]) (Below.refl _ _)

set_option maxHeartbeats 400000 in
theorem split_nul (l : List UInt8) (w : World) (h : l.length ≤ 65536) (h0 : hasNul l = true) : Calls Try.prog 19 #[.string (B l)] w (SplitOut l w) := by
  obtain ⟨k, hk⟩ := nulAt_pos h0
  have HK := Lib.hid hk
  have H0 := Lib.hid h0
  clear hk h0
  go_enter Try.func19, Try.ntmps19
  go_wp2_with (go_at_call 31; refine (index_nul _ _).mono ?_; rintro e w' ⟨rfl, rfl⟩; rw [HK.out])
  go_ret2
  exact splitOut_err (n := 3) (by unfold splitL; rw [if_neg (by omega), H0.out]; rfl) (Below.refl _ _)

set_option maxHeartbeats 400000 in
theorem split_end (l : List UInt8) (w : World) (h : l.length ≤ 65536) (h0 : hasNul l = false) (h1 : badEnd l = true) : Calls Try.prog 19 #[.string (B l)] w (SplitOut l w) := by
  have hne : l ≠ [] := by rintro rfl; cases h1
  have hs : Lib.hasSuffix l [10] = false := by rw [badEnd_cons hne] at h1; simpa using h1
  have HS := Lib.hid hs
  have HK := Lib.hid (nulAt_neg h0)
  have H1 := Lib.hid h1
  have he : l.isEmpty = false := by cases l <;> simp at hne ⊢
  clear h0 h1 hs hne
  go_enter Try.func19, Try.ntmps19
  go_wp2_with (first | (go_at_call 31; refine (index_nul _ _).mono ?_; rintro e w' ⟨rfl, rfl⟩; rw [HK.out]) | (go_at_call 32; refine (hasSuffix_lf _ _ (by unfold maxLen; omega)).mono ?_; rintro e w' ⟨rfl, rfl⟩; rw [HS.out]))
  go_ret2
  exact splitOut_err (n := 3) (by unfold splitL; rw [if_neg (by omega), H1.out, Bool.or_true]; rfl) (Below.refl _ _)
end Go.Proofs.Ytiipiaebclljeaa
