import Derived.Test.YtbdekdhdkdjejaaDoorOwn
namespace Go.Proofs.YtbdekdhdkdjejaaDoor
open Go.RowKit

theorem owns_made (w : World) : Owns (w.alloc (.cells #[] 9)) w.heap.size (.slice (some ⟨w.heap.size, 0, none⟩) 0 0) [] :=
  World.ownsRow_made w #[] 0 (Nat.le_refl _) (Nat.zero_le _) rfl

theorem linesOf_nil (cur : List UInt8) : linesOf cur [] = [] := by cases cur <;> rfl
theorem linesOf_step {l cur : List UInt8} {k : Nat} (h : k < l.length) : linesOf cur (l.drop k) = if l[k].toNat = 10 then cur :: linesOf [] (l.drop (k + 1)) else linesOf (cur ++ [l[k]]) (l.drop (k + 1)) := by
  rw [List.drop_eq_getElem_cons h, linesOf]
theorem cur_succ {l : List UInt8} {f k : Nat} (hf : f ≤ k) (h : k < l.length) : (l.drop f).take (k + 1 - f) = (l.drop f).take (k - f) ++ [l[k]] := by
  rw [show k + 1 - f = (k - f) + 1 from by omega, List.take_succ_eq_append_getElem (by rw [List.length_drop]; omega), List.getElem_drop]
  congr 3
  omega

set_option maxHeartbeats 1000000 in
theorem parts_any (l : List UInt8) (w : World) (hl : l.length ≤ 65536) :
    Calls Tryd.prog 65 #[.string (B l)] w fun e w' => ∃ v, e = .returned v ∧ Strs w' v (linesOf [] l) ∧ Below w.heap.size w w' := by
  obtain ⟨i0, hi, hz0, hz1, hz2⟩ := info_parts Tryd.info9
  go_enter Tryd.func65, Tryd.ntmps65
  go_wp2
  go_loopw [3, 4, 5] (fun v f i wr => ∃ (k f0 : Nat) (xs : List (List UInt8)), i = .int .i64 k ∧ f = .int .i64 f0 ∧ f0 ≤ k ∧ k ≤ l.length ∧ xs.length ≤ k ∧
      linesOf [] l = xs ++ linesOf ((l.drop f0).take (k - f0)) (l.drop k) ∧ Owns wr w.heap.size v xs ∧ Below w.heap.size w wr) (fun _ _ i _ => l.length - (intOf i).toNat)
  case atStart => exact ⟨0, 0, [], rfl, rfl, by omega, by omega, by simp, by simp, owns_made w, (Below.refl _ _).alloc (Nat.le_refl _) _⟩
  case round =>
    obtain ⟨k, f0, xs, rfl, rfl, hf, hk, hxk, hinv, hown, hbel⟩ := hrel
    have HI := Lib.hid hinv
    have hsz := hbel.size
    clear hinv
    by_cases hlt : k < l.length
    · by_cases h10 : l[k].toNat = 10
      · have hb : ((l[k].toNat : Int) == 10) = true := by simp; omega
        have HE := Lib.hid (linesOf_step (cur := (l.drop f0).take (k - f0)) hlt)
        have H10 := Lib.hid h10
        clear h10
        go_wp2_with (at_builtin; refine wpList_append_own _ rfl _ _ 35 rfl (w.heap.size) 9 i0 (.string ⟨#[]⟩) 1 16 Tryd.underlying35 hi hz0 hz1 hz2 rfl (by decide) _ _ _ rfl (World.ownsRow.alloc hown _) ⟨wr.heap.size, 0, none⟩ 1 1 [strV ((l.drop f0).take (k - f0))] rfl rfl (cell_one_new _ _ _) (by simp [strV, Value.oneCell']) (by unfold maxLen; omega) (by omega) (by simp; omega) ?_; intro v' w1 hown' hgrow _)
        have hown2 : Owns w1 w.heap.size v' (xs ++ [(l.drop f0).take (k - f0)]) := by
          unfold Owns
          rw [List.length_append, List.map_append]
          exact hown'
        have hbel2 : Below w.heap.size w w1 := (hbel.alloc hsz _).grown hgrow (by simp; omega) (fun j hj => (World.ownsRow.lt hown j hj).1)
        go_roundw
        case rel =>
          refine ⟨k + 1, k + 1, _, by go_num, by go_num, Nat.le_refl _, by omega, ?_, ?_, hown2, hbel2⟩
          · simp; omega
          · rw [HI.out, HE.out, if_pos H10.out]
            simp
        case measure => simp [intOf]; omega
      · have hb : ((l[k].toNat : Int) == 10) = false := by simp; omega
        have HE := Lib.hid (linesOf_step (cur := (l.drop f0).take (k - f0)) hlt)
        have H10 := Lib.hid h10
        clear h10
        go_wp2
        go_roundw
        case rel =>
          refine ⟨k + 1, f0, xs, by go_num, rfl, by omega, by omega, by omega, ?_, hown, hbel⟩
          rw [HI.out, HE.out, if_neg H10.out, cur_succ hf hlt]
        case measure => simp [intOf]; omega
    · go_wp2
      go_ret
      refine ⟨_, rfl, ?_, hbel⟩
      have e : l.drop k = [] := List.drop_eq_nil_of_le (by omega)
      rw [HI.out, e, linesOf_nil, List.append_nil]
      exact hown.strs
end Go.Proofs.YtbdekdhdkdjejaaDoor
