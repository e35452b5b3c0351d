import Derived.Test.YtbdekdhdkdjejaaDoorBase
namespace Go.Proofs.YtbdekdhdkdjejaaDoor
open Go.RowKit

def total (xs : List (List UInt8)) : Nat := (xs.map List.length).sum
def greatL (xs : List (List UInt8)) : Bool := decide (40 < xs.length) || decide (3000 < total xs)
theorem total_le (xs : List (List UInt8)) (M : Nat) (h : ∀ x ∈ xs, x.length ≤ M) : total xs ≤ xs.length * M := by
  induction xs with
  | nil => simp [total]
  | cons x r ih =>
    have h1 := h x (by simp)
    have h2 := ih (fun y hy => h y (by simp [hy]))
    simp only [total, List.map_cons, List.sum_cons, List.length_cons, Nat.add_mul] at *
    omega
theorem total_take_le (xs : List (List UInt8)) (k : Nat) : total (xs.take k) ≤ total xs := by
  have : total xs = total (xs.take k) + total (xs.drop k) := by
    unfold total
    rw [← List.sum_append, ← List.map_append, List.take_append_drop]
  omega
theorem total_succ (xs : List (List UInt8)) (k : Nat) (h : k < xs.length) : total (xs.take (k + 1)) = total (xs.take k) + xs[k].length := by
  unfold total
  rw [List.take_succ_eq_append_getElem h, List.map_append, List.sum_append]
  simp

end Go.Proofs.YtbdekdhdkdjejaaDoor
