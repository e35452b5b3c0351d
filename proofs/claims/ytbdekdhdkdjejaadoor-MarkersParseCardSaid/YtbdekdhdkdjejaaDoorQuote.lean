/- markers.isMarker, quotable, Quote, Unquote and their references. -/
import Derived.Test.YtbdekdhdkdjejaaDoorTrim
import Derived.Test.YtbdekdhdkdjejaaDoorOwn
namespace Go.Proofs.YtbdekdhdkdjejaaDoor
open Go.RowKit

def opM : List UInt8 := [60, 60, 60, 60, 60, 60, 60]
def seM : List UInt8 := [61, 61, 61, 61, 61, 61, 61]
def clM : List UInt8 := [62, 62, 62, 62, 62, 62, 62]
def isM (l : List UInt8) : Bool := l == opM || l == seM || l == clM
def trimL (l : List UInt8) : List UInt8 := Lib.trimLeftB l 92
def quotL (l : List UInt8) : Bool := isM (trimL l)
def quoteL (l : List UInt8) : List UInt8 := if quotL l then 92 :: l else l
def unquoteL (l : List UInt8) : List UInt8 := if quotL l && !isM l then l.drop 1 else l

theorem trim_call (l : List UInt8) (w : World) : Calls Tryd.prog 66 #[.string (B l), .string (B [92])] w fun e w' => e = .returned (.string (B (trimL l))) ∧ w = w' :=
  (Tryd.strings_TrimLeft_one (B l) 92 (by decide) w).mono fun _ _ h => ⟨h.1, h.2.symm⟩

set_option maxHeartbeats 400000 in
theorem isMarker_any (l : List UInt8) (w : World) : Calls Tryd.prog 47 #[.string (B l)] w fun e w' => e = .returned (.bool (isM l)) ∧ w = w' := by
  unfold isM
  cases h1 : (l == opM) <;> cases h2 : (l == seM) <;> cases h3 : (l == clM) <;>
  (unfold opM at h1; unfold seM at h2; unfold clM at h3
   go_enter Tryd.func47, Tryd.ntmps47
   go_wp2
   go_ret
   exact ⟨rfl, rfl⟩)
set_option maxHeartbeats 400000 in
theorem marker_any (l : List UInt8) (w : World) : Calls Tryd.prog 45 #[.string (B l)] w fun e w' => e = .returned (.bool (isM l)) ∧ w = w' := by
  unfold isM
  cases h1 : (l == opM) <;> cases h2 : (l == seM) <;> cases h3 : (l == clM) <;>
  (unfold opM at h1; unfold seM at h2; unfold clM at h3
   go_enter Tryd.func45, Tryd.ntmps45
   go_wp2
   go_ret
   exact ⟨rfl, rfl⟩)
set_option maxHeartbeats 400000 in
theorem quotable_any (l : List UInt8) (w : World) : Calls Tryd.prog 46 #[.string (B l)] w fun e w' => e = .returned (.bool (quotL l)) ∧ w = w' := by
  go_enter Tryd.func46, Tryd.ntmps46
  go_wp2_with (first | (go_at_call 66; refine (trim_call _ _).mono ?_; rintro e w' ⟨rfl, rfl⟩) | (go_at_call 47; refine (isMarker_any _ _).mono ?_; rintro e w' ⟨rfl, rfl⟩))
  go_ret
  exact ⟨rfl, rfl⟩

theorem trimL_hit {l : List UInt8} {k : Nat} (hk : k < l.length) (h : ∀ j (hj : j < l.length), j < k → l[j] = 92) (h2 : l[k] ≠ 92) : trimL l = l.drop k := by
  refine Lib.trimLeftB_drop l 92 k (by omega) (fun j b hj hb => ?_) (fun b hb => ?_)
  · obtain ⟨h3, rfl⟩ := List.getElem?_eq_some_iff.1 hb; exact h j h3 hj
  · obtain ⟨h3, rfl⟩ := List.getElem?_eq_some_iff.1 hb; exact h2
theorem trimL_all {l : List UInt8} {k : Nat} (hk : k = l.length) (h : ∀ j (hj : j < l.length), j < k → l[j] = 92) : trimL l = l.drop k := by
  refine Lib.trimLeftB_drop l 92 k (by omega) (fun j b hj hb => ?_) (fun b hb => ?_)
  · obtain ⟨h3, rfl⟩ := List.getElem?_eq_some_iff.1 hb; exact h j h3 hj
  · obtain ⟨h3, rfl⟩ := List.getElem?_eq_some_iff.1 hb; omega
theorem eq92 (c : UInt8) : (c.toNat = 92) ↔ c = 92 := by
  constructor
  · intro h; apply UInt8.toNat_inj.1; exact h
  · rintro rfl; rfl

set_option maxHeartbeats 400000 in
theorem ref_quotable_any (l : List UInt8) (w : World) (hl : l.length ≤ maxLen) : Calls Tryd.prog 27 #[.string (B l)] w fun e w' => e = .returned (.bool (quotL l)) ∧ w = w' := by
  unfold maxLen at hl
  go_enter Tryd.func27, Tryd.ntmps27
  go_wp2
  go_loop [3] (fun i => ∃ k : Nat, i = .int .i64 k ∧ k ≤ l.length ∧ ∀ j (hj : j < l.length), j < k → l[j] = 92) (fun i => l.length - (intOf i).toNat)
  case atStart => exact ⟨0, rfl, by omega, fun j _ h => by omega⟩
  case round =>
    obtain ⟨k, rfl, hk, hp⟩ := hrel
    have HP := Lib.hid hp
    clear hp
    by_cases hlt : k < l.length
    · by_cases hc : l[k].toNat = 92
      · have hc' : ((l[k].toNat : Int) == 92) = true := by rw [hc]; rfl
        go_wp2
        go_round
        case rel =>
          refine ⟨k + 1, by go_num, by omega, fun j hj hjk => ?_⟩
          by_cases e : j = k
          · subst e; exact (eq92 _).1 hc
          · exact HP.out j hj (by omega)
        case measure => simp [intOf]; omega
      · have hc' : ((l[k].toNat : Int) == 92) = false := by simp; omega
        have HE := Lib.hid (trimL_hit hlt HP.out (fun h => hc ((eq92 _).2 h)))
        go_wp2_with (go_at_call 45; refine (marker_any _ _).mono ?_; rintro e w' ⟨rfl, rfl⟩)
        go_ret
        exact ⟨ret_bool (by unfold quotL; rw [HE.out]), rfl⟩
    · have HE := Lib.hid (trimL_all (by omega : k = l.length) HP.out)
      go_wp2_with (go_at_call 45; refine (marker_any _ _).mono ?_; rintro e w' ⟨rfl, rfl⟩)
      go_ret
      exact ⟨ret_bool (by unfold quotL; rw [HE.out]), rfl⟩

theorem ret_str {a b : List UInt8} (h : a = b) : Ending.returned (.string (B a)) = .returned (.string (B b)) := by rw [h]

set_option maxHeartbeats 400000 in
theorem quote_any (l : List UInt8) (w : World) (hl : l.length ≤ 1000000) : Calls Tryd.prog 22 #[.string (B l)] w fun e w' => e = .returned (.string (B (quoteL l))) ∧ w = w' := by
  have hadd := fun W => run_string_add_sum (P := Tryd.prog) W (B [92]) (B l) (by rw [B_size, B_size, List.length_singleton]; omega)
  cases h : quotL l
  · have HE := Lib.hid (show l = quoteL l from by unfold quoteL; rw [h]; rfl)
    go_enter Tryd.func22, Tryd.ntmps22
    go_wp2_with (go_at_call 46; refine (quotable_any _ _).mono ?_; rintro e w' ⟨rfl, rfl⟩)
    go_ret
    exact ⟨ret_str HE.out, rfl⟩
  · have HE := Lib.hid (show [92] ++ l = quoteL l from by unfold quoteL; rw [h]; rfl)
    go_enter Tryd.func22, Tryd.ntmps22
    go_wp2_with (go_at_call 46; refine (quotable_any _ _).mono ?_; rintro e w' ⟨rfl, rfl⟩)
    go_ret
    exact ⟨ret_str HE.out, rfl⟩
set_option maxHeartbeats 400000 in
theorem ref_quote_any (l : List UInt8) (w : World) (hl : l.length ≤ 1000000) : Calls Tryd.prog 23 #[.string (B l)] w fun e w' => e = .returned (.string (B (quoteL l))) ∧ w = w' := by
  have hadd := fun W => run_string_add_sum (P := Tryd.prog) W (B [92]) (B l) (by rw [B_size, B_size, List.length_singleton]; omega)
  cases h : quotL l
  · have HE := Lib.hid (show l = quoteL l from by unfold quoteL; rw [h]; rfl)
    go_enter Tryd.func23, Tryd.ntmps23
    go_wp2_with (go_at_call 27; refine (ref_quotable_any _ _ (by unfold maxLen; omega)).mono ?_; rintro e w' ⟨rfl, rfl⟩)
    go_ret
    exact ⟨ret_str HE.out, rfl⟩
  · have HE := Lib.hid (show [92] ++ l = quoteL l from by unfold quoteL; rw [h]; rfl)
    go_enter Tryd.func23, Tryd.ntmps23
    go_wp2_with (go_at_call 27; refine (ref_quotable_any _ _ (by unfold maxLen; omega)).mono ?_; rintro e w' ⟨rfl, rfl⟩)
    go_ret
    exact ⟨ret_str HE.out, rfl⟩
theorem quot_pos {l : List UInt8} (h : quotL l = true) : 1 ≤ l.length := by
  cases l with
  | nil => exact absurd h (by decide)
  | cons c r => simp

set_option maxHeartbeats 400000 in
theorem unquote_any (l : List UInt8) (w : World) (hl : l.length ≤ 1000000) : Calls Tryd.prog 24 #[.string (B l)] w fun e w' => e = .returned (.string (B (unquoteL l))) ∧ w = w' := by
  cases h : quotL l
  · have HE := Lib.hid (show l = unquoteL l from by unfold unquoteL; rw [h]; rfl)
    go_enter Tryd.func24, Tryd.ntmps24
    go_wp2_with (go_at_call 46; refine (quotable_any _ _).mono ?_; rintro e w' ⟨rfl, rfl⟩)
    go_ret
    exact ⟨ret_str HE.out, rfl⟩
  · have h1 := quot_pos h
    cases hm : isM l
    · have HE := Lib.hid (show l.tail = unquoteL l from by unfold unquoteL; rw [h, hm]; simp)
      go_enter Tryd.func24, Tryd.ntmps24
      go_wp2_with (first | (go_at_call 46; refine (quotable_any _ _).mono ?_; rintro e w' ⟨rfl, rfl⟩) | (go_at_call 47; refine (isMarker_any _ _).mono ?_; rintro e w' ⟨rfl, rfl⟩))
      go_ret
      exact ⟨ret_str HE.out, rfl⟩
    · have HE := Lib.hid (show l = unquoteL l from by unfold unquoteL; rw [h, hm]; simp)
      go_enter Tryd.func24, Tryd.ntmps24
      go_wp2_with (first | (go_at_call 46; refine (quotable_any _ _).mono ?_; rintro e w' ⟨rfl, rfl⟩) | (go_at_call 47; refine (isMarker_any _ _).mono ?_; rintro e w' ⟨rfl, rfl⟩))
      go_ret
      exact ⟨ret_str HE.out, rfl⟩

set_option maxHeartbeats 400000 in
theorem ref_unquote_any (l : List UInt8) (w : World) (hl : l.length ≤ 1000000) : Calls Tryd.prog 25 #[.string (B l)] w fun e w' => e = .returned (.string (B (unquoteL l))) ∧ w = w' := by
  cases h : quotL l
  · have HE := Lib.hid (show l = unquoteL l from by unfold unquoteL; rw [h]; rfl)
    go_enter Tryd.func25, Tryd.ntmps25
    go_wp2_with (go_at_call 27; refine (ref_quotable_any _ _ (by unfold maxLen; omega)).mono ?_; rintro e w' ⟨rfl, rfl⟩)
    go_ret
    exact ⟨ret_str HE.out, rfl⟩
  · have h1 := quot_pos h
    cases hm : isM l
    · have HE := Lib.hid (show l.tail = unquoteL l from by unfold unquoteL; rw [h, hm]; simp)
      go_enter Tryd.func25, Tryd.ntmps25
      go_wp2_with (first | (go_at_call 27; refine (ref_quotable_any _ _ (by unfold maxLen; omega)).mono ?_; rintro e w' ⟨rfl, rfl⟩) | (go_at_call 45; refine (marker_any _ _).mono ?_; rintro e w' ⟨rfl, rfl⟩))
      go_ret
      exact ⟨ret_str HE.out, rfl⟩
    · have HE := Lib.hid (show l = unquoteL l from by unfold unquoteL; rw [h, hm]; simp)
      go_enter Tryd.func25, Tryd.ntmps25
      go_wp2_with (first | (go_at_call 27; refine (ref_quotable_any _ _ (by unfold maxLen; omega)).mono ?_; rintro e w' ⟨rfl, rfl⟩) | (go_at_call 45; refine (marker_any _ _).mono ?_; rintro e w' ⟨rfl, rfl⟩))
      go_ret
      exact ⟨ret_str HE.out, rfl⟩

end Go.Proofs.YtbdekdhdkdjejaaDoor
