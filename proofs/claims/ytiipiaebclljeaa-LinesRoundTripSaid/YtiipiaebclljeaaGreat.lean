import Derived.Test.YtiipiaebclljeaaBase
namespace Go.Proofs.Ytiipiaebclljeaa
open Go.RowKit

def total (xs : List (List UInt8)) : Nat := (xs.map List.length).sum
def greatL (xs : List (List UInt8)) : Bool := decide (40 < xs.length) || decide (3000 < total xs)
theorem total_le (xs : List (List UInt8)) (M : Nat) (h : ∀ x ∈ xs, x.length ≤ M) : total xs ≤ xs.length * M := by
  induction xs with
  | nil => simp [total]
  | cons x r ih =>
    have h1 := h x (by simp)
    have h2 := ih (fun y hy => h y (by simp [hy]))
    simp only [total, List.map_cons, List.sum_cons, List.length_cons, Nat.add_mul] at *
    omega
theorem total_take_le (xs : List (List UInt8)) (k : Nat) : total (xs.take k) ≤ total xs := by
  have : total xs = total (xs.take k) + total (xs.drop k) := by
    unfold total
    rw [← List.sum_append, ← List.map_append, List.take_append_drop]
  omega
theorem total_succ (xs : List (List UInt8)) (k : Nat) (h : k < xs.length) : total (xs.take (k + 1)) = total (xs.take k) + xs[k].length := by
  unfold total
  rw [List.take_succ_eq_append_getElem h, List.map_append, List.sum_append]
  simp

set_option maxHeartbeats 400000 in
/-- A great list is long: the sum may have wrapped. -/
theorem great_long (b off c : Nat) (xs : List (List UInt8)) (w : World) (hm : xs.length ≤ maxLen) (h40 : 40 < xs.length)
    (hx : ∀ i, i < xs.length → w.cell? ⟨b, off + i, none⟩ = some (.string (B (xs[i]?.getD [])))) :
    Calls Try.prog 11 #[.slice (some ⟨b, off, none⟩) xs.length c] w (Read w (.bool true)) := by
  unfold maxLen at hm
  have hg : decide ((40 : Int) < (xs.length : Int)) = true := by simp; omega
  go_enter Try.func11, Try.ntmps11
  go_wp2
  go_loop [3, 4] (fun s i => ∃ (k : Nat) (m : Int), s = .int .i64 m ∧ i = .int .i64 k ∧ k ≤ xs.length) (fun _ i => xs.length - (intOf i).toNat)
  case atStart => exact ⟨0, 0, rfl, rfl, by omega⟩
  case round =>
    obtain ⟨k, m, rfl, rfl, hk⟩ := hrel
    by_cases hlt : k < xs.length
    · have h1 := hx k hlt
      clear hx
      simp [hlt] at h1
      go_wp2
      go_round
      case rel => exact ⟨k + 1, _, rfl, by go_num, by omega⟩
      case measure => simp [intOf]; omega
    · go_wp2
      go_ret
      exact ⟨rfl, 0, rfl⟩

theorem great_end (xs : List (List UInt8)) (h40 : xs.length ≤ 40) : (decide ((40 : Int) < (xs.length : Int)) || decide ((3000 : Int) < (total xs : Int))) = decide (3000 < total xs) := by
  rw [Bool.eq_iff_iff]
  simp
  omega

set_option maxHeartbeats 400000 in
theorem great_short (b off c : Nat) (xs : List (List UInt8)) (w : World) (h40 : xs.length ≤ 40) (ht : total xs ≤ 9000000000000000)
    (hx : ∀ i, i < xs.length → w.cell? ⟨b, off + i, none⟩ = some (.string (B (xs[i]?.getD [])))) :
    Calls Try.prog 11 #[.slice (some ⟨b, off, none⟩) xs.length c] w (Read w (.bool (decide (3000 < total xs)))) := by
  have hg : ¬ ((40 : Int) < (xs.length : Int)) := by omega
  go_enter Try.func11, Try.ntmps11
  go_wp2
  go_loop [3, 4] (fun s i => ∃ (k : Nat), s = .int .i64 (total (xs.take k) : Nat) ∧ i = .int .i64 k ∧ k ≤ xs.length) (fun _ i => xs.length - (intOf i).toNat)
  case atStart => exact ⟨0, rfl, rfl, by omega⟩
  case round =>
    obtain ⟨k, rfl, rfl, hk⟩ := hrel
    by_cases hlt : k < xs.length
    · have h1 := hx k hlt
      have h2 := total_succ xs k hlt
      have h3 := total_take_le xs (k + 1)
      have H2 := Lib.hid h2
      have h4 : total (List.take k xs) + xs[k].length ≤ 9000000000000000 := by omega
      clear hx h2 h3
      simp [hlt] at h1
      go_wp2
      go_round
      case rel => exact ⟨k + 1, by rw [H2.out]; go_num, by go_num, by omega⟩
      case measure => simp [intOf]; omega
    · have hk' : xs.take k = xs := List.take_of_length_le (by omega)
      rw [hk']
      clear hx
      go_wp2
      go_ret
      exact ⟨ret_bool (great_end xs h40), 0, rfl⟩

set_option maxHeartbeats 400000 in
theorem great_nil (a : Option Addr) (c : Nat) (w : World) :
    Calls Try.prog 11 #[.slice a 0 c] w (Read w (.bool false)) := by
  go_enter Try.func11, Try.ntmps11
  go_wp2
  go_loop [3, 4] (fun s i => s = .int .i64 0 ∧ i = .int .i64 0) (fun _ _ => 0)
  case atStart => exact ⟨rfl, rfl⟩
  case round =>
    obtain ⟨rfl, rfl⟩ := hrel
    go_wp2
    go_ret
    exact ⟨rfl, 0, rfl⟩

/-- quiltref04.Great. -/
theorem great_any (v : Value) (xs : List (List UInt8)) (w : World) (hx : Strs w v xs) (hr : ∀ x ∈ xs, x.length ≤ 140737488351232) :
    Calls Try.prog 11 #[v] w (Read w (.bool (greatL xs))) := by
  rcases hx with ⟨rfl, a, cap, rfl, _, _⟩ | ⟨b, off, cap, rfl, h2, h3, h4, h5, h6⟩
  · exact great_nil _ _ _
  · by_cases h40 : 40 < xs.length
    · have e : greatL xs = true := by unfold greatL; simp [h40]
      rw [e]
      exact great_long _ _ _ _ _ (by omega) h40 h6
    · have e : greatL xs = decide (3000 < total xs) := by unfold greatL; simp [h40]
      rw [e]
      have := total_le xs _ hr
      have h7 : xs.length * 140737488351232 ≤ 40 * 140737488351232 := Nat.mul_le_mul_right _ (by omega)
      exact great_short _ _ _ _ _ (by omega) (by omega) h6


end Go.Proofs.Ytiipiaebclljeaa
