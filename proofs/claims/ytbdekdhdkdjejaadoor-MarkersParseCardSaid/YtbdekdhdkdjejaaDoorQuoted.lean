/- markers.quoted and the reference's. -/
import Derived.Test.YtbdekdhdkdjejaaDoorQuote
import Derived.Test.YtbdekdhdkdjejaaDoorParts
import Derived.Test.YtbdekdhdkdjejaaDoorJoin
namespace Go.Proofs.YtbdekdhdkdjejaaDoor
open Go.RowKit

def quotedL (xs : List (List UInt8)) : List (List UInt8) := xs.map quoteL
theorem quoted_succ {xs : List (List UInt8)} {k : Nat} (h : k < xs.length) : quotedL (xs.take (k + 1)) = quotedL (xs.take k) ++ [quoteL xs[k]] := by
  unfold quotedL
  rw [List.take_succ_eq_append_getElem h, List.map_append]
  rfl
theorem quoted_len (xs : List (List UInt8)) : (quotedL xs).length = xs.length := by unfold quotedL; simp
theorem quoted_take_len (xs : List (List UInt8)) (k : Nat) (h : k ≤ xs.length) : (quotedL (xs.take k)).length = k := by
  rw [quoted_len, List.length_take, Nat.min_eq_left h]

set_option maxHeartbeats 1000000 in
theorem quoted_any (v : Value) (xs : List (List UInt8)) (w : World) (hx : Strs w v xs) (hs : xs.length ≤ 1000000) (hl : ∀ x ∈ xs, x.length ≤ 1000000) :
    Calls Tryd.prog 30 #[v] w fun e w' => ∃ v', e = .returned v' ∧ Strs w' v' (quotedL xs) ∧ Below w.heap.size w w' := by
  obtain ⟨a, c, rfl⟩ := hx.slice
  have HR := Lib.hid hl
  clear hl
  obtain ⟨i0, hi, hz0, hz1, hz2⟩ := info_parts Tryd.info9
  go_enter Tryd.func30, Tryd.ntmps30
  go_wp2
  go_loopw [3, 5, 8] (fun o _ i wr => ∃ k : Nat, i = .int .i64 k ∧ k ≤ xs.length ∧ Owns wr w.heap.size o (quotedL (xs.take k)) ∧ Below w.heap.size w wr) (fun _ _ i _ => xs.length - (intOf i).toNat)
  case atStart => exact ⟨0, rfl, by omega, Owns.nil _ _, Below.refl _ _⟩
  case round =>
    obtain ⟨k, rfl, hk, hown, hbel⟩ := hrel
    have hsz := hbel.size
    by_cases hlt : k < xs.length
    · obtain ⟨b, off, rfl, hcell⟩ := (hx.below hbel).elem hlt
      have hin : (k : Int) < (xs.length : Int) := by omega
      have hql := quoted_take_len xs k hk
      have hcall := fun w => quote_any xs[k] w (HR.out _ (List.getElem_mem hlt))
      have HQ := Lib.hid hql
      clear hql
      go_wp2_with (first | (go_at_call 22; refine (hcall _).mono ?_; rintro e w' ⟨rfl, rfl⟩) | (at_builtin; go_must (refine wpList_append_own _ rfl _ _ 35 rfl (w.heap.size) 9 i0 (.string ⟨#[]⟩) 1 16 Tryd.underlying35 hi hz0 hz1 hz2 rfl (by decide) _ _ _ rfl (World.ownsRow.alloc hown _) ⟨wr.heap.size, 0, none⟩ 1 1 [strV (quoteL xs[k])] rfl rfl (cell_one_new _ _ _) (by simp [strV, Value.oneCell']) (by rw [HQ.out]; unfold maxLen; omega) (by rw [HQ.out]; omega) (by simp; omega) ?_); intro v' w1 hown' hgrow _))
      have hown2 : Owns w1 w.heap.size v' (quotedL (xs.take (k + 1))) := by
        unfold Owns
        rw [quoted_succ hlt, List.length_append, List.map_append]
        exact hown'
      have hbel2 : Below w.heap.size w w1 := (hbel.alloc hsz _).grown hgrow (by simp; omega) (fun j hj => (World.ownsRow.lt hown j hj).1)
      go_roundw
      case rel => exact ⟨k + 1, by go_num, by omega, hown2, hbel2⟩
      case measure => simp [intOf]; omega
    · go_wp2
      go_ret
      refine ⟨_, rfl, ?_, hbel⟩
      have := hown.strs
      rwa [List.take_of_length_le (by omega)] at this
end Go.Proofs.YtbdekdhdkdjejaaDoor
