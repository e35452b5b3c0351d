/- quiltlaw04.repeated. -/
import Derived.Test.YtiipiaebclljeaaSplitMain
import Derived.Lib.AppendStr
import Derived.Lib.ConvBytes
import Derived.Lib.UnsafeStr
namespace Go.Proofs.Ytiipiaebclljeaa
open Go.RowKit

theorem Try.info5 : (Try.prog.info? 5).map (fun i => (i.zero, i.size, i.bytes)) = some (some (.int .u8 0), 1, 1) := by kernel_rfl
theorem B_nil : ByteArray.empty = B [] := rfl
/-- A row of bytes as a string. -/
theorem conv_row {W : World} {base : Nat} {v : Value} {x : List UInt8} (h : W.ownsRow base 5 1 v x.length (Lib.byteCells x)) : (convert 50 9 v).run Try.prog W = .ok (.string (B x)) W := by
  rcases id h with ⟨_, ⟨rfl, h0⟩ | ⟨g, cap, cur, rfl, hb, hg, _⟩⟩
  · have : x = [] := List.eq_nil_of_length_eq_zero h0
    subst this
    rw [run_convert_bytes_string W 50 9 5 none 0 0 Try.underlying50 Try.underlying5 Try.underlying9]
    rfl
  · refine run_convert_bytes_back (P := Try.prog) W 50 9 5 ⟨g, 0, none⟩ cap x Try.underlying50 Try.underlying5 Try.underlying9 (fun j hj => ?_)
    exact h.cells (g := g) rfl j _ (by rw [Lib.byteCells, List.getElem?_map, List.getElem?_eq_getElem hj]; rfl)

set_option maxHeartbeats 1000000 in
theorem repeated_any (l : List UInt8) (n : Nat) (w : World) (hl : l.length ≤ 51) (hn : n ≤ 3000) :
    Calls Try.prog 26 #[.string (B l), .int .i64 (n : Nat)] w fun e w' => ∃ x, e = .returned (.string (B x)) ∧ Below w.heap.size w w' := by
  obtain ⟨i0, hi, hz0, hz1, hz2⟩ := info_parts Try.info5
  go_enter Try.func26, Try.ntmps26
  go_wp2
  go_loopw [5, 8] (fun v i wr => ∃ (k : Nat) (x : List UInt8), i = .int .i64 k ∧ k ≤ n ∧ x.length ≤ k * 51 ∧ wr.ownsRow w.heap.size 5 1 v x.length (Lib.byteCells x) ∧ Below w.heap.size w wr) (fun _ i _ => n - (intOf i).toNat)
  case atStart => exact ⟨0, [], rfl, by omega, by simp, World.ownsRow_made w #[] 0 (Nat.le_refl _) (Nat.zero_le _) rfl, (Below.refl _ _).alloc (Nat.le_refl _) _⟩
  case round =>
    obtain ⟨k, x, rfl, hk, hx, hown, hbel⟩ := hrel
    have hsz := hbel.size
    by_cases hlt : k < n
    · have hxx : x.length ≤ 153000 := by omega
      go_wp2_with (at_builtin; go_must (refine Lib.wpList_append_own_string _ rfl _ _ 50 9 rfl w.heap.size 5 i0 Try.underlying50 Try.underlying9 hi hz0 hz1 hz2 _ _ _ rfl hown (B l) rfl (by rw [B_size]; unfold maxLen; omega) (by rw [B_size]; omega) hsz ?_); intro v' w1 hown' hgrow _)
      have hown2 : w1.ownsRow w.heap.size 5 1 v' (x ++ l).length (Lib.byteCells (x ++ l)) := by
        rw [List.length_append, Lib.byteCells_append]
        rw [B_size] at hown'
        exact hown'
      have hbel2 : Below w.heap.size w w1 := hbel.grown hgrow hsz (fun j hj => (hown.lt j hj).1)
      go_roundw
      case rel =>
        have hR : ∃ (k' : Nat) (y : List UInt8), Value.int .i64 ((k : Int) + 1) = .int .i64 k' ∧ k' ≤ n ∧ y.length ≤ k' * 51 ∧ w1.ownsRow w.heap.size 5 1 v' y.length (Lib.byteCells y) ∧ Below w.heap.size w w1 :=
          ⟨k + 1, x ++ l, by go_num, by omega, by rw [List.length_append]; omega, hown2, hbel2⟩
        first | exact hR | ((repeat apply Exists.intro); exact ⟨hR, rfl⟩)
      case measure => simp [intOf]; omega
    · have hcv := conv_row hown
      go_wp2
      go_ret
      exact ⟨x, rfl, hbel⟩
end Go.Proofs.Ytiipiaebclljeaa
