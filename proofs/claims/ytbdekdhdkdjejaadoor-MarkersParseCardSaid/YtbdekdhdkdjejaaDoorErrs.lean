/- markers.checkLines and the reference's lines. -/
import Derived.Test.YtbdekdhdkdjejaaDoorShape
namespace Go.Proofs.YtbdekdhdkdjejaaDoor
open Go.RowKit

theorem contains_lf (l : List UInt8) (w : World) : Calls Tryd.prog 59 #[.string (B l), .int .i32 10] w fun e w' => e = .returned (.bool (hasLF l)) ∧ w = w' := by
  refine (Tryd.strings_ContainsRune_ascii (B l) 10 w (by omega) (by omega)).mono ?_
  rintro e w' ⟨rfl, rfl⟩
  refine ⟨ret_bool ?_, rfl⟩
  show decide (0 ≤ lfAt l) = _
  cases h : hasLF l
  · rw [lfAt_neg h]; rfl
  · obtain ⟨k, hk⟩ := lfAt_pos h
    rw [hk]; simp
theorem contains_nul (l : List UInt8) (w : World) : Calls Tryd.prog 59 #[.string (B l), .int .i32 0] w fun e w' => e = .returned (.bool (hasNul l)) ∧ w = w' := by
  refine (Tryd.strings_ContainsRune_ascii (B l) 0 w (by omega) (by omega)).mono ?_
  rintro e w' ⟨rfl, rfl⟩
  refine ⟨ret_bool ?_, rfl⟩
  show decide (0 ≤ nulAt l) = _
  cases h : hasNul l
  · rw [nulAt_neg h]; rfl
  · obtain ⟨k, hk⟩ := nulAt_pos h
    rw [hk]; simp

theorem good_of {l : List UInt8} (h : l.length ≤ 1000) (h1 : hasLF l = false) (h2 : hasNul l = false) : goodLine l := ⟨h, by rw [clean_lf, h1, h2]; rfl⟩
theorem good_step {xs : List (List UInt8)} {k : Nat} (hk : k < xs.length) (h : ∀ j (hj : j < xs.length), j < k → goodLine xs[j]) (hg : goodLine xs[k]) : ∀ j (hj : j < xs.length), j < k + 1 → goodLine xs[j] := by
  intro j hj hjk
  by_cases e : j = k
  · subst e; exact hg
  · exact h j hj (by omega)

set_option maxHeartbeats 1000000 in
theorem checkLines_any (v : Value) (xs : List (List UInt8)) (w : World) (hx : Strs w v xs) : Calls Tryd.prog 35 #[v] w (Read w (.int .i64 (joinErr xs : Nat))) := by
  obtain ⟨a, c, rfl⟩ := hx.slice
  have hm := hx.le
  unfold maxLen at hm
  go_enter Tryd.func35, Tryd.ntmps35
  go_wp2
  go_loopw [4, 7] (fun _ i wr => ∃ k q : Nat, i = .int .i64 k ∧ k ≤ xs.length ∧ wr = w.drewN q ∧ ∀ j (hj : j < xs.length), j < k → goodLine xs[j]) (fun _ i _ => xs.length - (intOf i).toNat)
  case atStart => exact ⟨0, 0, rfl, by omega, rfl, by omega⟩
  case round =>
    obtain ⟨k, q, rfl, hk, rfl, hp⟩ := hrel
    have HP := Lib.hid hp
    clear hp
    by_cases hlt : k < xs.length
    · obtain ⟨b, off, rfl, hcell⟩ := hx.elem hlt
      have hin : (k : Int) < (xs.length : Int) := by omega
      by_cases hl : 1000 < xs[k].length
      · have hd : decide ((1000 : Int) < (xs[k].length : Int)) = true := by simp; omega
        have HE := Lib.hid (joinErr_long hlt HP.out hl)
        go_wp2
        go_ret
        exact ⟨ret_int (by rw [HE.out]; rfl), _, rfl⟩
      · have hd : decide ((1000 : Int) < (xs[k].length : Int)) = false := by simp; omega
        have hl' : xs[k].length ≤ 1000 := by omega
        have HL := Lib.hid hl'
        cases h1 : hasLF xs[k]
        · cases h2 : hasNul xs[k]
          · have HG := Lib.hid (good_of hl' h1 h2)
            go_wp2_with (go_at_call 59; first | ((with_reducible refine (contains_lf _ _).mono ?_); rintro e w' ⟨rfl, rfl⟩; rw [h1]) | ((with_reducible refine (contains_nul _ _).mono ?_); rintro e w' ⟨rfl, rfl⟩; rw [h2]))
            go_roundw
            case rel => exact ⟨k + 1, _, by go_num, by omega, rfl, good_step hlt HP.out HG.out⟩
            case measure => simp [intOf]; omega
          · have HE := Lib.hid (joinErr_bad hlt HP.out hl' (by rw [clean_lf, h1, h2]; rfl))
            go_wp2_with (go_at_call 59; first | ((with_reducible refine (contains_lf _ _).mono ?_); rintro e w' ⟨rfl, rfl⟩; rw [h1]) | ((with_reducible refine (contains_nul _ _).mono ?_); rintro e w' ⟨rfl, rfl⟩; rw [h2]))
            go_ret
            exact ⟨ret_int (by rw [HE.out]; rfl), _, rfl⟩
        · have HE := Lib.hid (joinErr_bad hlt HP.out hl' (by rw [clean_lf, h1]; rfl))
          go_wp2_with (go_at_call 59; first | ((with_reducible refine (contains_lf _ _).mono ?_); rintro e w' ⟨rfl, rfl⟩; rw [h1]))
          go_ret
          exact ⟨ret_int (by rw [HE.out]; rfl), _, rfl⟩
    · have HE := Lib.hid (joinErr_none (fun j hj => HP.out j hj (by omega)))
      go_wp2
      go_ret
      exact ⟨ret_int (by rw [HE.out]; rfl), _, rfl⟩

def lineErr (x : List UInt8) : Nat := if 1000 < x.length then 4 else if cleanL 10 0 x then 0 else 3
set_option maxHeartbeats 1000000 in
theorem line_any (x : List UInt8) (w : World) (hl : x.length ≤ maxLen) : Calls Tryd.prog 61 #[.string (B x)] w (Read w (.int .i64 (lineErr x : Nat))) := by
  by_cases h : 1000 < x.length
  · have hd : decide ((1000 : Int) < (x.length : Int)) = true := by simp; omega
    have HE := Lib.hid (show lineErr x = 4 from by unfold lineErr; rw [if_pos h])
    go_enter Tryd.func61, Tryd.ntmps61
    go_wp2
    go_ret
    exact ⟨ret_int (by rw [HE.out]; rfl), 0, rfl⟩
  · have hd : decide ((1000 : Int) < (x.length : Int)) = false := by simp; omega
    cases hv : validL x
    · have hc : cleanL 10 0 x = false := by unfold validL at hv; simpa [show x.length ≤ 1000 by omega] using hv
      have HE := Lib.hid (show lineErr x = 3 from by unfold lineErr; rw [if_neg h, hc]; rfl)
      go_enter Tryd.func61, Tryd.ntmps61
      go_wp2_with (go_at_call 73; refine (ref_valid_any _ _ hl).mono ?_; rintro e w' ⟨rfl, q, rfl⟩; rw [hv])
      go_ret
      exact ⟨ret_int (by rw [HE.out]; rfl), q, rfl⟩
    · have hc : cleanL 10 0 x = true := by unfold validL at hv; simpa [show x.length ≤ 1000 by omega] using hv
      have HE := Lib.hid (show lineErr x = 0 from by unfold lineErr; rw [if_neg h, hc]; rfl)
      go_enter Tryd.func61, Tryd.ntmps61
      go_wp2_with (go_at_call 73; refine (ref_valid_any _ _ hl).mono ?_; rintro e w' ⟨rfl, q, rfl⟩; rw [hv])
      go_ret
      exact ⟨ret_int (by rw [HE.out]; rfl), q, rfl⟩
theorem lineErr_zero {x : List UInt8} (h : lineErr x = 0) : goodLine x := by
  unfold lineErr at h
  split at h
  · omega
  · split at h
    · exact ⟨by omega, by assumption⟩
    · omega
theorem joinErr_at {xs : List (List UInt8)} {k : Nat} (hk : k < xs.length) (h : ∀ j (hj : j < xs.length), j < k → goodLine xs[j]) (h0 : lineErr xs[k] ≠ 0) : joinErr xs = lineErr xs[k] := by
  unfold lineErr at *
  split at h0
  · rw [if_pos (by assumption)]; exact joinErr_long hk h (by assumption)
  · rename_i h1
    rw [if_neg h1]
    split at h0
    · exact absurd rfl h0
    · rename_i h2
      rw [if_neg h2]
      exact joinErr_bad hk h (by omega) (by simpa using h2)

set_option maxHeartbeats 1000000 in
theorem ref_lines_any (v : Value) (xs : List (List UInt8)) (w : World) (hx : Strs w v xs) (hr : ∀ x ∈ xs, x.length ≤ maxLen) : Calls Tryd.prog 38 #[v] w (Read w (.int .i64 (joinErr xs : Nat))) := by
  obtain ⟨a, c, rfl⟩ := hx.slice
  have hm := hx.le
  have HR := Lib.hid hr
  clear hr
  unfold maxLen at hm
  go_enter Tryd.func38, Tryd.ntmps38
  go_wp2
  go_loopw [3, 4] (fun i _ wr => ∃ k q : Nat, i = .int .i64 k ∧ k ≤ xs.length ∧ wr = w.drewN q ∧ ∀ j (hj : j < xs.length), j < k → goodLine xs[j]) (fun i _ _ => xs.length - (intOf i).toNat)
  case atStart => exact ⟨0, 0, rfl, by omega, rfl, by omega⟩
  case round =>
    obtain ⟨k, q, rfl, hk, rfl, hp⟩ := hrel
    have HP := Lib.hid hp
    clear hp
    by_cases hlt : k < xs.length
    · obtain ⟨b, off, rfl, hcell⟩ := hx.elem hlt
      have hin : (k : Int) < (xs.length : Int) := by omega
      have hcall := fun w => line_any xs[k] w (HR.out _ (List.getElem_mem hlt))
      by_cases h0 : lineErr xs[k] = 0
      · have HG := Lib.hid (lineErr_zero h0)
        rw [h0] at hcall
        go_wp2_with (go_at_call 61; refine (hcall _).mono ?_; rintro e w' ⟨rfl, q', rfl⟩)
        go_roundw
        case rel => exact ⟨k + 1, _, by go_num, by omega, rfl, good_step hlt HP.out HG.out⟩
        case measure => simp [intOf]; omega
      · have HE := Lib.hid (joinErr_at hlt HP.out h0)
        have hne : ((lineErr xs[k] : Int) != 0) = true := by rw [bne_iff_ne]; omega
        go_wp2_with (go_at_call 61; refine (hcall _).mono ?_; rintro e w' ⟨rfl, q', rfl⟩)
        go_ret
        exact ⟨ret_int (by rw [HE.out]), _, rfl⟩
    · have HE := Lib.hid (joinErr_none (fun j hj => HP.out j hj (by omega)))
      go_wp2
      go_ret
      exact ⟨ret_int (by rw [HE.out]; rfl), _, rfl⟩
end Go.Proofs.YtbdekdhdkdjejaaDoor
