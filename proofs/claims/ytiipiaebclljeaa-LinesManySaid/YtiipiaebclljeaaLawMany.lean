/- The walk of LinesMany. -/
import Derived.Test.YtiipiaebclljeaaRepeat
import Derived.Test.YtiipiaebclljeaaLawJoin
namespace Go.Proofs.Ytiipiaebclljeaa
open Go.RowKit

set_option maxHeartbeats 2000000 in
/-- Behind the loop: the list is there. -/
theorem lawMany (l : List UInt8) (n : Nat) (w : World) (hl : l.length ≤ reach) (hn : n ≤ 65535) : Calls Try.prog 9 #[.string (B l), .int .u16 (n : Nat)] w (Yes w) := by
  unfold reach at hl
  by_cases h : 50 < l.length
  · have hd : decide ((50 : Int) < (l.length : Int)) = true := by simp; omega
    go_enter Try.func9, Try.ntmps9
    go_wp2_with (go_at_call 12; refine (awake_any _).mono ?_; rintro e w1 ⟨rfl, hb⟩)
    go_ret
    exact ⟨rfl, hb⟩
  · have hd : decide ((50 : Int) < (l.length : Int)) = false := by simp; omega
    by_cases h2 : 3000 < n
    · have hd2 : decide ((3000 : Int) < (n : Int)) = true := by simp; omega
      go_enter Try.func9, Try.ntmps9
      go_wp2_with (go_at_call 12; refine (awake_any _).mono ?_; rintro e w1 ⟨rfl, hb⟩)
      go_ret
      exact ⟨rfl, hb⟩
    · have hd2 : decide ((3000 : Int) < (n : Int)) = false := by simp; omega
      obtain ⟨i0, hi, hz0, hz1, hz2⟩ := info_parts Try.info9
      have hml : l.length ≤ maxLen := by unfold maxLen; omega
      have hadd := fun W => run_string_add_sum (P := Try.prog) W (B l) (B [10]) (by rw [B_size, B_size, List.length_singleton]; omega)
      go_enter Try.func9, Try.ntmps9
      go_wp2
      go_loopw [5, 25] (fun v i wr => ∃ (k : Nat) (xs : List (List UInt8)), i = .int .u16 k ∧ k ≤ n ∧ xs.length = k ∧ Owns wr w.heap.size v xs ∧ Below w.heap.size w wr) (fun _ i _ => n - (intOf i).toNat)
      case atStart => exact ⟨0, [], rfl, by omega, rfl, owns_made w, (Below.refl _ _).alloc (Nat.le_refl _) _⟩
      case round =>
        obtain ⟨k, xs, rfl, hk, hxk, hown, hbel⟩ := hrel
        have HXK := Lib.hid hxk
        have hxk2 : xs.length ≤ 3000 := by omega
        have hsz := hbel.size
        clear hxk
        by_cases hlt : k < n
        · go_wp2_with (at_builtin; go_must (refine wpList_append_own _ rfl _ _ 22 rfl (w.heap.size) 9 i0 (.string ⟨#[]⟩) 1 16 Try.underlying22 hi hz0 hz1 hz2 rfl (by decide) _ _ _ rfl (World.ownsRow.alloc hown _) ⟨wr.heap.size, 0, none⟩ 1 1 [strV l] rfl rfl (cell_one_new _ _ _) (by simp [strV, Value.oneCell']) (by unfold maxLen; omega) (by omega) (by simp; omega) ?_); intro v' w1 hown' hgrow _)
          have hown2 : Owns w1 w.heap.size v' (xs ++ [l]) := by
            unfold Owns
            rw [List.length_append, List.map_append]
            exact hown'
          have hbel2 : Below w.heap.size w w1 := (hbel.alloc hsz _).grown hgrow (by simp; omega) (fun j hj => (World.ownsRow.lt hown j hj).1)
          go_roundw
          case rel =>
            have hR : ∃ (k' : Nat) (ys : List (List UInt8)), Value.int .u16 ((k : Int) + 1) = .int .u16 k' ∧ k' ≤ n ∧ ys.length = k' ∧ Owns w1 w.heap.size v' ys ∧ Below w.heap.size w w1 :=
              ⟨k + 1, xs ++ [l], by go_num, by omega, by rw [List.length_append, HXK.out]; rfl, hown2, hbel2⟩
            first | exact hR | ((repeat apply Exists.intro); exact ⟨hR, rfl⟩)
          case measure => simp [intOf]; omega
        · obtain ⟨a, c, rfl, hc⟩ := hown.strs.cap
          have hst := Lib.hid hown.strs
          cases hv : validL l
          · have HV := Lib.hid hv
            clear hv
            go_wp2_with fail
            refine (ref_valid_any _ _ hml).mono ?_
            rintro e w1 ⟨rfl, q1, rfl⟩
            rw [HV.out]
            have bb0 : Below wr.heap.size wr (wr.drewN q1) := below_drewN (Below.refl _ _) q1
            go_wp2_with fail
            refine (join_any a c xs _ (hst.out.below bb0)).mono ?_
            rintro e w4 ⟨rfl, hb4⟩
            have b4 : Below wr.heap.size wr w4 := bb0.trans (hb4.mono bb0.size)
            go_wp2_with fail
            refine (ref_join_any a c xs _ (hst.out.below b4)).mono ?_
            rintro e w5 ⟨rfl, hb5⟩
            have b5 : Below wr.heap.size wr w5 := b4.trans (hb5.mono b4.size)
            go_wp2_with fail
            refine (split_any [] _).mono ?_
            rintro e w6 ⟨v6, rfl, hs6, hb6⟩
            have b6 : Below wr.heap.size wr w6 := b5.trans (hb6.mono b5.size)
            go_wp2_with fail
            refine (ref_split_any [] _).mono ?_
            rintro e w7 ⟨v7, rfl, hs7, hb7⟩
            have b7 : Below wr.heap.size wr w7 := b6.trans (hb7.mono b6.size)
            go_wp2_with fail
            refine (same_true _ _ (splitL []).1 _ (hs6.below hb7) hs7).mono ?_
            rintro e w8 ⟨rfl, q8, rfl⟩
            go_wp2_with fail
            refine (awake_any _).mono ?_
            rintro e w9 ⟨rfl, hb9⟩
            go_wp2_with fail
            go_ret
            have b9 : Below wr.heap.size wr w9 := (below_drewN b7 q8).trans (hb9.mono (below_drewN b7 q8).size)
            exact ⟨rfl, hbel.trans (b9.mono hsz)⟩
          · have HV := Lib.hid hv
            clear hv
            go_wp2_with fail
            refine (ref_valid_any _ _ hml).mono ?_
            rintro e w1 ⟨rfl, q1, rfl⟩
            rw [HV.out]
            go_wp2_with fail
            refine (repeated_any (l ++ [10]) n _ (by rw [List.length_append, List.length_singleton]; omega) (by omega)).mono ?_
            rintro e w3 ⟨x, rfl, hb3⟩
            have bb0 : Below wr.heap.size wr w3 := (below_drewN (Below.refl _ _) q1).trans hb3
            go_wp2_with fail
            refine (join_any a c xs _ (hst.out.below bb0)).mono ?_
            rintro e w4 ⟨rfl, hb4⟩
            have b4 : Below wr.heap.size wr w4 := bb0.trans (hb4.mono bb0.size)
            go_wp2_with fail
            refine (ref_join_any a c xs _ (hst.out.below b4)).mono ?_
            rintro e w5 ⟨rfl, hb5⟩
            have b5 : Below wr.heap.size wr w5 := b4.trans (hb5.mono b4.size)
            go_wp2_with fail
            refine (split_any x _).mono ?_
            rintro e w6 ⟨v6, rfl, hs6, hb6⟩
            have b6 : Below wr.heap.size wr w6 := b5.trans (hb6.mono b5.size)
            go_wp2_with fail
            refine (ref_split_any x _).mono ?_
            rintro e w7 ⟨v7, rfl, hs7, hb7⟩
            have b7 : Below wr.heap.size wr w7 := b6.trans (hb7.mono b6.size)
            go_wp2_with fail
            refine (same_true _ _ (splitL x).1 _ (hs6.below hb7) hs7).mono ?_
            rintro e w8 ⟨rfl, q8, rfl⟩
            go_wp2_with fail
            refine (awake_any _).mono ?_
            rintro e w9 ⟨rfl, hb9⟩
            go_wp2_with fail
            go_ret
            have b9 : Below wr.heap.size wr w9 := (below_drewN b7 q8).trans (hb9.mono (below_drewN b7 q8).size)
            exact ⟨rfl, hbel.trans (b9.mono hsz)⟩
end Go.Proofs.Ytiipiaebclljeaa
