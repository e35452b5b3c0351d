/- lines.IsText, lines.Valid and their references. -/
import Derived.Test.YtbdekdhdkdjejaaDoorSplitMain
import Derived.Test.YtbdekdhdkdjejaaDoorSplitRef
namespace Go.Proofs.YtbdekdhdkdjejaaDoor
open Go.RowKit

def isTextL (l : List UInt8) : Bool := decide ((splitL l).2 = 0)
def Says (b : Bool) (w : World) (e : Ending) (w' : World) : Prop := e = .returned (.bool b) ∧ Below w.heap.size w w'

theorem err_bool (n : Nat) : (((n : Int)) == 0) = decide (n = 0) := by
  rw [Bool.eq_iff_iff]; simp

set_option maxHeartbeats 400000 in
theorem isText_any (l : List UInt8) (w : World) : Calls Tryd.prog 29 #[.string (B l)] w (Says (isTextL l) w) := by
  have HE := Lib.hid (err_bool (splitL l).2)
  go_enter Tryd.func29, Tryd.ntmps29
  go_wp2_with (go_at_call 26; refine (split_any _ _).mono ?_; rintro e w1 ⟨v, rfl, _, hb⟩)
  go_ret
  exact ⟨ret_bool HE.out, hb⟩
/-- Is it a line? -/
def validL (l : List UInt8) : Bool := decide (l.length ≤ 1000) && cleanL 10 0 l
def hasLF (l : List UInt8) : Bool := l.any fun c => c.toNat == 10
theorem clean_lf (l : List UInt8) : cleanL 10 0 l = (!hasLF l && !hasNul l) := by
  unfold cleanL hasLF hasNul
  rw [← Bool.not_or]
  congr 1
  induction l with
  | nil => rfl
  | cons c r ih =>
    simp only [List.any_cons, ih]
    unfold badC
    have e1 : ((c.toNat : Int) == 10) = (c.toNat == 10) := by rw [Bool.eq_iff_iff]; simp; omega
    have e2 : ((c.toNat : Int) == 0) = (c.toNat == 0) := by rw [Bool.eq_iff_iff]; simp
    rw [e1, e2]
    cases c.toNat == 10 <;> cases c.toNat == 0 <;> cases r.any (fun c => c.toNat == 10) <;> cases r.any (fun c => c.toNat == 0) <;> rfl
theorem lfAt_neg {l : List UInt8} (h : hasLF l = false) : lfAt l = -1 := by
  rcases lfAt_cases l with h1 | ⟨k, h1⟩
  · exact h1
  · obtain ⟨hk, h10, _⟩ := lfAt_some h1
    unfold hasLF at h
    rw [List.any_eq_false] at h
    have := h _ (List.getElem_mem hk)
    simp [h10] at this
theorem lfAt_pos {l : List UInt8} (h : hasLF l = true) : ∃ k : Nat, lfAt l = k := by
  rcases lfAt_cases l with h1 | h1
  · unfold hasLF at h
    rw [List.any_eq_true] at h
    obtain ⟨c, hc, hc0⟩ := h
    exact absurd (by simpa using hc0) (lfAt_none h1 c hc)
  · exact h1

set_option maxHeartbeats 400000 in
theorem ref_valid_any (l : List UInt8) (w : World) (hl : l.length ≤ maxLen) : Calls Tryd.prog 73 #[.string (B l)] w (Read w (.bool (validL l))) := by
  have hm := hl
  unfold maxLen at hm
  by_cases h : l.length ≤ 1000
  · have hd : decide ((l.length : Int) ≤ 1000) = true := by simp; omega
    have HE := Lib.hid (show cleanL 10 0 l = validL l from by unfold validL; simp [h])
    go_enter Tryd.func73, Tryd.ntmps73
    go_wp2_with (go_at_call 56; refine (clean_any _ _ _ _ hl).mono ?_; rintro e w' ⟨rfl, q, rfl⟩)
    go_ret
    exact ⟨ret_bool HE.out, q, rfl⟩
  · have hd : decide ((l.length : Int) ≤ 1000) = false := by simp; omega
    have HE := Lib.hid (show false = validL l from by unfold validL; simp [h])
    go_enter Tryd.func73, Tryd.ntmps73
    go_wp2_with (go_at_call 56; refine (clean_any _ _ _ _ hl).mono ?_; rintro e w' ⟨rfl, q, rfl⟩)
    go_ret
    exact ⟨ret_bool HE.out, 0, rfl⟩

set_option maxHeartbeats 400000 in
theorem valid_any (l : List UInt8) (w : World) (hl : l.length ≤ maxLen) : Calls Tryd.prog 51 #[.string (B l)] w (Read w (.bool (validL l))) := by
  have hm := hl
  unfold maxLen at hm
  by_cases h : l.length ≤ 1000
  · have hd : decide ((l.length : Int) ≤ 1000) = true := by simp; omega
    cases h1 : hasLF l
    · have HX := Lib.hid (lfAt_neg h1)
      cases h2 : hasNul l
      · have HY := Lib.hid (nulAt_neg h2)
        have HE := Lib.hid (show true = validL l from by unfold validL; rw [clean_lf, h1, h2]; simp [h])
        clear h1 h2
        go_enter Tryd.func51, Tryd.ntmps51
        go_wp2_with (go_at_call 48; first | ((with_reducible refine (index_lf _ _).mono ?_); rintro e w' ⟨rfl, rfl⟩; rw [HX.out]) | ((with_reducible refine (index_nul _ _).mono ?_); rintro e w' ⟨rfl, rfl⟩; rw [HY.out]))
        go_ret
        exact ⟨ret_bool HE.out, 0, rfl⟩
      · obtain ⟨k, hk⟩ := nulAt_pos h2
        have HY := Lib.hid hk
        have HE := Lib.hid (show false = validL l from by unfold validL; rw [clean_lf, h1, h2]; simp)
        clear h1 h2 hk
        go_enter Tryd.func51, Tryd.ntmps51
        go_wp2_with (go_at_call 48; first | ((with_reducible refine (index_lf _ _).mono ?_); rintro e w' ⟨rfl, rfl⟩; rw [HX.out]) | ((with_reducible refine (index_nul _ _).mono ?_); rintro e w' ⟨rfl, rfl⟩; rw [HY.out]))
        go_ret
        exact ⟨ret_bool HE.out, 0, rfl⟩
    · obtain ⟨k, hk⟩ := lfAt_pos h1
      have HX := Lib.hid hk
      have HE := Lib.hid (show false = validL l from by unfold validL; rw [clean_lf, h1]; simp)
      clear h1 hk
      go_enter Tryd.func51, Tryd.ntmps51
      go_wp2_with (go_at_call 48; first | ((with_reducible refine (index_lf _ _).mono ?_); rintro e w' ⟨rfl, rfl⟩; rw [HX.out]))
      go_ret
      exact ⟨ret_bool HE.out, 0, rfl⟩
  · have hd : decide ((l.length : Int) ≤ 1000) = false := by simp; omega
    have HE := Lib.hid (show false = validL l from by unfold validL; simp [h])
    go_enter Tryd.func51, Tryd.ntmps51
    go_wp2
    go_ret
    exact ⟨ret_bool HE.out, 0, rfl⟩
end Go.Proofs.YtbdekdhdkdjejaaDoor
