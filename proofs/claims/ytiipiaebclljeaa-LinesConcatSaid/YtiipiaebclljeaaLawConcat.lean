/- The walk of LinesConcat. -/
import Derived.Test.YtiipiaebclljeaaLawSplit
namespace Go.Proofs.Ytiipiaebclljeaa
open Go.RowKit

theorem below_of_le {N : Nat} {w w' : World} (h : Below w.heap.size w w') (hN : N ≤ w.heap.size) : Below N w w' := h.mono hN

set_option maxHeartbeats 2000000 in
theorem lawConcat (l r : List UInt8) (w : World) (hl : l.length ≤ reach) (hr : r.length ≤ reach) : Calls Try.prog 6 #[.string (B l), .string (B r)] w (Yes w) := by
  unfold reach at hl hr
  by_cases h : 1000 < l.length
  · have hd : decide ((1000 : Int) < (l.length : Int)) = true := by simp; omega
    go_enter Try.func6, Try.ntmps6
    go_wp2_with (go_at_call 12; refine (awake_any _).mono ?_; rintro e w1 ⟨rfl, hb⟩)
    go_ret
    exact ⟨rfl, hb⟩
  · have hd : decide ((1000 : Int) < (l.length : Int)) = false := by simp; omega
    by_cases h2 : 1000 < r.length
    · have hd2 : decide ((1000 : Int) < (r.length : Int)) = true := by simp; omega
      go_enter Try.func6, Try.ntmps6
      go_wp2_with (go_at_call 12; refine (awake_any _).mono ?_; rintro e w1 ⟨rfl, hb⟩)
      go_ret
      exact ⟨rfl, hb⟩
    · have hd2 : decide ((1000 : Int) < (r.length : Int)) = false := by simp; omega
      cases ht : isTextL l
      · have HT := Lib.hid ht
        clear ht
        go_enter Try.func6, Try.ntmps6
        go_wp2_with fail
        refine (isText_any _ _).mono ?_
        rintro e w1 ⟨rfl, hb1⟩
        rw [HT.out]
        go_wp2_with fail
        refine (awake_any _).mono ?_
        rintro e w2 ⟨rfl, hb2⟩
        go_wp2_with fail
        go_ret
        exact ⟨rfl, hb1.trans (hb2.mono hb1.size)⟩
      · cases ht2 : isTextL r
        · have HT := Lib.hid ht
          have HT2 := Lib.hid ht2
          clear ht ht2
          go_enter Try.func6, Try.ntmps6
          go_wp2_with fail
          refine (isText_any _ _).mono ?_
          rintro e w1 ⟨rfl, hb1⟩
          rw [HT.out]
          go_wp2_with fail
          refine (isText_any _ _).mono ?_
          rintro e w2 ⟨rfl, hb2⟩
          rw [HT2.out]
          have b2 : Below w.heap.size w w2 := hb1.trans (hb2.mono hb1.size)
          go_wp2_with fail
          refine (awake_any _).mono ?_
          rintro e w3 ⟨rfl, hb3⟩
          go_wp2_with fail
          go_ret
          exact ⟨rfl, b2.trans (hb3.mono b2.size)⟩
        · obtain ⟨s1, s2, s3⟩ := splitL_append ht ht2 (by omega) (by omega)
          have n1 : (splitL l).1.length ≤ 1000 := by
            rw [(text_parts ht).2.2.2.2.2]
            have := linesOf_length [] l
            show (linesOf [] l).length ≤ 1000
            omega
          have n2 : (splitL r).1.length ≤ 1000 := by
            rw [(text_parts ht2).2.2.2.2.2]
            have := linesOf_length [] r
            show (linesOf [] r).length ≤ 1000
            omega
          have HT := Lib.hid ht
          have HT2 := Lib.hid ht2
          have S1 := Lib.hid s1
          have S2 := Lib.hid s2
          have S3 := Lib.hid s3
          clear ht ht2 s1 s2 s3
          have hadd := fun W => run_string_add_sum (P := Try.prog) W (B l) (B r) (by rw [B_size, B_size]; omega)
          go_enter Try.func6, Try.ntmps6
          go_wp2_with fail
          refine (isText_any _ _).mono ?_
          rintro e w1 ⟨rfl, hb1⟩
          rw [HT.out]
          go_wp2_with fail
          refine (isText_any _ _).mono ?_
          rintro e w2 ⟨rfl, hb2⟩
          rw [HT2.out]
          have b2 : Below w.heap.size w w2 := hb1.trans (hb2.mono hb1.size)
          clear hb1 hb2
          go_wp2_with fail
          refine (split_any _ _).mono ?_
          rintro e w3 ⟨v3, rfl, hs3, hb3⟩
          rw [S2.out]
          go_wp2_with fail
          refine (split_any _ _).mono ?_
          rintro e w4 ⟨v4, rfl, hs4, hb4⟩
          rw [S3.out]
          go_wp2_with fail
          refine (split_any _ _).mono ?_
          rintro e w5 ⟨v5, rfl, hs5, hb5⟩
          rw [S1.out] at hs5
          rw [S1.out]
          have b5 : Below w.heap.size w w5 := b2.trans ((hb3.trans (hb4.mono hb3.size)).mono b2.size |>.trans (hb5.mono (by have := b2.size; have := hb3.size; have := hb4.size; omega)))
          have k3 := (hs3.below hb4).below hb5
          have k4 := hs4.below hb5
          clear hs3 hs4 hb3 hb4 hb5 b2
          -- the three rows: an empty one, and two appends
          have bm : Below w5.heap.size w5 (w5.alloc (.cells #[] 9)) := (Below.refl _ _).alloc (Nat.le_refl _) _
          obtain ⟨v6, w6, r6, o6, b6⟩ := run_append_strs w5.heap.size _ v3 [] (splitL l).1 (w5.alloc (.cells #[] 9)) (owns_made w5) (k3.below bm) (by simp; omega) (by simp)
          have b56 : Below w5.heap.size w5 w6 := bm.trans b6
          obtain ⟨v7, w7, r7, o7, b7⟩ := run_append_strs w5.heap.size v6 v4 ([] ++ (splitL l).1) (splitL r).1 w6 o6 (k4.below b56) (by simp; omega) b56.size
          have b57 : Below w5.heap.size w5 w7 := b56.trans b7
          have st7 : Strs w7 v7 ((splitL l).1 ++ (splitL r).1) := by have := o7.strs; simpa using this
          have st5 := hs5.below b57
          have H7 := Lib.hid st7
          have H5 := Lib.hid st5
          have HB := Lib.hid (b5.trans (b57.mono b5.size))
          clear st7 st5 o6 o7 b6 b7 k3 k4 hs5 bm b56 b57 b5
          have R6 := Lib.hid r6
          have R7 := Lib.hid r7
          clear r6 r7
          go_wp2_with (at_builtin; go_must (first | refine wpList_append_run rfl _ _ 22 22 rfl R6.out ?_ | refine wpList_append_run rfl _ _ 22 22 rfl R7.out ?_))
          refine (same_true _ _ _ _ H5.out H7.out).mono ?_
          rintro e w8 ⟨rfl, q8, rfl⟩
          go_wp2_with fail
          refine (awake_any _).mono ?_
          rintro e w9 ⟨rfl, hb9⟩
          go_wp2_with fail
          go_ret
          exact ⟨rfl, (below_drewN HB.out q8).trans (hb9.mono (below_drewN HB.out q8).size)⟩
end Go.Proofs.Ytiipiaebclljeaa
