/- The walk of LinesRoundTrip. -/
import Derived.Test.YtiipiaebclljeaaLawJoin
namespace Go.Proofs.Ytiipiaebclljeaa
open Go.RowKit

set_option maxHeartbeats 2000000 in
theorem round_no_ok (l : List UInt8) (a : Option Addr) (c : Nat) (xs : List (List UInt8)) (w : World) (hx : Strs w (.slice a xs.length c) xs) (HR : Hid (∀ x ∈ xs, x.length ≤ 140737488351232)) (h : ¬ 3000 < l.length)
    (HG : Hid (greatL xs = false)) (ht : isTextL l = false) (t : List UInt8) (hj : joinL xs = (t, 0)) : Calls Try.prog 10 #[.string (B l), .slice a xs.length c] w (Yes w) := by
  have hd : decide ((3000 : Int) < (l.length : Int)) = false := by simp; omega
  have HSJ := Lib.hid (show splitL t = (xs, 0) from by have := split_join (xs := xs) (by rw [hj]); rw [hj] at this; exact this)
  have HJ := Lib.hid hj
  clear hj
  have hne : (splitL l).2 ≠ 0 := by unfold isTextL at ht; simpa using ht
  have HT := Lib.hid ht
  have hnb : (((splitL l).2 : Int) == 0) = false := by simp; omega
  clear ht
  go_enter Try.func10, Try.ntmps10
  go_wp2_with fail
  refine (great_any _ _ _ hx HR.out).mono ?_
  rintro e w1 ⟨rfl, q, rfl⟩
  rw [HG.out]
  go_wp2_with fail
  refine (split_any _ _).mono ?_
  rintro e w2 ⟨v2, rfl, hs2, hb2⟩
  have b2 : Below w.heap.size w w2 := (below_drewN (Below.refl _ _) q).trans hb2
  go_wp2_with fail
  refine (isText_any _ _).mono ?_
  rintro e w3 ⟨rfl, hb3⟩
  rw [HT.out]
  have b3 : Below w.heap.size w w3 := b2.trans (hb3.mono b2.size)
  go_wp2_with fail
  refine (join_any a c xs _ (hx.below b3)).mono ?_
  rintro e w4 ⟨rfl, hb4⟩
  rw [HJ.out]
  have b4 : Below w.heap.size w w4 := b3.trans (hb4.mono b3.size)
  go_wp2_with fail
  refine (split_any _ _).mono ?_
  rintro e w5 ⟨v5, rfl, hs5, hb5⟩
  rw [HSJ.out] at hs5 ⊢
  have b5 : Below w.heap.size w w5 := b4.trans (hb5.mono b4.size)
  go_wp2_with fail
  refine (same_true _ _ xs _ hs5 (hx.below b5)).mono ?_
  rintro e w6 ⟨rfl, q6, rfl⟩
  go_wp2_with fail
  refine (awake_any _).mono ?_
  rintro e w7 ⟨rfl, hb7⟩
  go_wp2_with fail
  go_ret
  exact ⟨rfl, (below_drewN b5 q6).trans (hb7.mono (below_drewN b5 q6).size)⟩

set_option maxHeartbeats 2000000 in
theorem round_no_four (l : List UInt8) (a : Option Addr) (c : Nat) (xs : List (List UInt8)) (w : World) (hx : Strs w (.slice a xs.length c) xs) (HR : Hid (∀ x ∈ xs, x.length ≤ 140737488351232)) (h : ¬ 3000 < l.length)
    (HG : Hid (greatL xs = false)) (ht : isTextL l = false) (hj : joinL xs = ([], 4)) : Calls Try.prog 10 #[.string (B l), .slice a xs.length c] w (Yes w) := by
  have hd : decide ((3000 : Int) < (l.length : Int)) = false := by simp; omega

  have HJ := Lib.hid hj
  clear hj
  have hne : (splitL l).2 ≠ 0 := by unfold isTextL at ht; simpa using ht
  have HT := Lib.hid ht
  have hnb : (((splitL l).2 : Int) == 0) = false := by simp; omega
  clear ht
  go_enter Try.func10, Try.ntmps10
  go_wp2_with fail
  refine (great_any _ _ _ hx HR.out).mono ?_
  rintro e w1 ⟨rfl, q, rfl⟩
  rw [HG.out]
  go_wp2_with fail
  refine (split_any _ _).mono ?_
  rintro e w2 ⟨v2, rfl, hs2, hb2⟩
  have b2 : Below w.heap.size w w2 := (below_drewN (Below.refl _ _) q).trans hb2
  go_wp2_with fail
  refine (isText_any _ _).mono ?_
  rintro e w3 ⟨rfl, hb3⟩
  rw [HT.out]
  have b3 : Below w.heap.size w w3 := b2.trans (hb3.mono b2.size)
  go_wp2_with fail
  refine (join_any a c xs _ (hx.below b3)).mono ?_
  rintro e w4 ⟨rfl, hb4⟩
  rw [HJ.out]
  have b4 : Below w.heap.size w w4 := b3.trans (hb4.mono b3.size)
  go_wp2_with fail
  refine (awake_any _).mono ?_
  rintro e w5 ⟨rfl, hb5⟩
  go_wp2_with fail
  go_ret
  exact ⟨rfl, b4.trans (hb5.mono b4.size)⟩

set_option maxHeartbeats 2000000 in
theorem round_no_three (l : List UInt8) (a : Option Addr) (c : Nat) (xs : List (List UInt8)) (w : World) (hx : Strs w (.slice a xs.length c) xs) (HR : Hid (∀ x ∈ xs, x.length ≤ 140737488351232)) (h : ¬ 3000 < l.length)
    (HG : Hid (greatL xs = false)) (ht : isTextL l = false) (hj : joinL xs = ([], 3)) : Calls Try.prog 10 #[.string (B l), .slice a xs.length c] w (Yes w) := by
  have hd : decide ((3000 : Int) < (l.length : Int)) = false := by simp; omega

  have HJ := Lib.hid hj
  clear hj
  have hne : (splitL l).2 ≠ 0 := by unfold isTextL at ht; simpa using ht
  have HT := Lib.hid ht
  have hnb : (((splitL l).2 : Int) == 0) = false := by simp; omega
  clear ht
  go_enter Try.func10, Try.ntmps10
  go_wp2_with fail
  refine (great_any _ _ _ hx HR.out).mono ?_
  rintro e w1 ⟨rfl, q, rfl⟩
  rw [HG.out]
  go_wp2_with fail
  refine (split_any _ _).mono ?_
  rintro e w2 ⟨v2, rfl, hs2, hb2⟩
  have b2 : Below w.heap.size w w2 := (below_drewN (Below.refl _ _) q).trans hb2
  go_wp2_with fail
  refine (isText_any _ _).mono ?_
  rintro e w3 ⟨rfl, hb3⟩
  rw [HT.out]
  have b3 : Below w.heap.size w w3 := b2.trans (hb3.mono b2.size)
  go_wp2_with fail
  refine (join_any a c xs _ (hx.below b3)).mono ?_
  rintro e w4 ⟨rfl, hb4⟩
  rw [HJ.out]
  have b4 : Below w.heap.size w w4 := b3.trans (hb4.mono b3.size)
  go_wp2_with fail
  refine (awake_any _).mono ?_
  rintro e w5 ⟨rfl, hb5⟩
  go_wp2_with fail
  go_ret
  exact ⟨rfl, b4.trans (hb5.mono b4.size)⟩

set_option maxHeartbeats 2000000 in
theorem round_yes_ok (l : List UInt8) (a : Option Addr) (c : Nat) (xs : List (List UInt8)) (w : World) (hx : Strs w (.slice a xs.length c) xs) (HR : Hid (∀ x ∈ xs, x.length ≤ 140737488351232)) (h : ¬ 3000 < l.length)
    (HG : Hid (greatL xs = false)) (ht : isTextL l = true) (t : List UInt8) (hj : joinL xs = (t, 0)) : Calls Try.prog 10 #[.string (B l), .slice a xs.length c] w (Yes w) := by
  have hd : decide ((3000 : Int) < (l.length : Int)) = false := by simp; omega
  have HSJ := Lib.hid (show splitL t = (xs, 0) from by have := split_join (xs := xs) (by rw [hj]); rw [hj] at this; exact this)
  have HJ := Lib.hid hj
  clear hj
  have HS0 := Lib.hid (show (splitL l).2 = 0 from by unfold isTextL at ht; simpa using ht)
  have HJ0 := Lib.hid (join_split ht)
  have HT := Lib.hid ht
  clear ht
  go_enter Try.func10, Try.ntmps10
  go_wp2_with fail
  refine (great_any _ _ _ hx HR.out).mono ?_
  rintro e w1 ⟨rfl, q, rfl⟩
  rw [HG.out]
  go_wp2_with fail
  refine (split_any _ _).mono ?_
  rintro e w2 ⟨v2, rfl, hs2, hb2⟩
  have b2 : Below w.heap.size w w2 := (below_drewN (Below.refl _ _) q).trans hb2
  rw [HS0.out]
  go_wp2_with fail
  refine (isText_any _ _).mono ?_
  rintro e w3 ⟨rfl, hb3⟩
  rw [HT.out]
  have b3 : Below w.heap.size w w3 := b2.trans (hb3.mono b2.size)
  have hs3 := hs2.below hb3
  obtain ⟨a2, c2, rfl, hc2⟩ := hs3.cap
  go_wp2_with fail
  refine (join_any a2 c2 (splitL l).1 _ hs3).mono ?_
  rintro e w3' ⟨rfl, hb3'⟩
  rw [HJ0.out]
  have b3' : Below w.heap.size w w3' := b3.trans (hb3'.mono b3.size)
  go_wp2_with fail
  refine (join_any a c xs _ (hx.below b3')).mono ?_
  rintro e w4 ⟨rfl, hb4⟩
  rw [HJ.out]
  have b4 : Below w.heap.size w w4 := b3'.trans (hb4.mono b3'.size)
  go_wp2_with fail
  refine (split_any _ _).mono ?_
  rintro e w5 ⟨v5, rfl, hs5, hb5⟩
  rw [HSJ.out] at hs5 ⊢
  have b5 : Below w.heap.size w w5 := b4.trans (hb5.mono b4.size)
  go_wp2_with fail
  refine (same_true _ _ xs _ hs5 (hx.below b5)).mono ?_
  rintro e w6 ⟨rfl, q6, rfl⟩
  go_wp2_with fail
  refine (awake_any _).mono ?_
  rintro e w7 ⟨rfl, hb7⟩
  go_wp2_with fail
  go_ret
  exact ⟨rfl, (below_drewN b5 q6).trans (hb7.mono (below_drewN b5 q6).size)⟩

set_option maxHeartbeats 2000000 in
theorem round_yes_four (l : List UInt8) (a : Option Addr) (c : Nat) (xs : List (List UInt8)) (w : World) (hx : Strs w (.slice a xs.length c) xs) (HR : Hid (∀ x ∈ xs, x.length ≤ 140737488351232)) (h : ¬ 3000 < l.length)
    (HG : Hid (greatL xs = false)) (ht : isTextL l = true) (hj : joinL xs = ([], 4)) : Calls Try.prog 10 #[.string (B l), .slice a xs.length c] w (Yes w) := by
  have hd : decide ((3000 : Int) < (l.length : Int)) = false := by simp; omega

  have HJ := Lib.hid hj
  clear hj
  have HS0 := Lib.hid (show (splitL l).2 = 0 from by unfold isTextL at ht; simpa using ht)
  have HJ0 := Lib.hid (join_split ht)
  have HT := Lib.hid ht
  clear ht
  go_enter Try.func10, Try.ntmps10
  go_wp2_with fail
  refine (great_any _ _ _ hx HR.out).mono ?_
  rintro e w1 ⟨rfl, q, rfl⟩
  rw [HG.out]
  go_wp2_with fail
  refine (split_any _ _).mono ?_
  rintro e w2 ⟨v2, rfl, hs2, hb2⟩
  have b2 : Below w.heap.size w w2 := (below_drewN (Below.refl _ _) q).trans hb2
  rw [HS0.out]
  go_wp2_with fail
  refine (isText_any _ _).mono ?_
  rintro e w3 ⟨rfl, hb3⟩
  rw [HT.out]
  have b3 : Below w.heap.size w w3 := b2.trans (hb3.mono b2.size)
  have hs3 := hs2.below hb3
  obtain ⟨a2, c2, rfl, hc2⟩ := hs3.cap
  go_wp2_with fail
  refine (join_any a2 c2 (splitL l).1 _ hs3).mono ?_
  rintro e w3' ⟨rfl, hb3'⟩
  rw [HJ0.out]
  have b3' : Below w.heap.size w w3' := b3.trans (hb3'.mono b3.size)
  go_wp2_with fail
  refine (join_any a c xs _ (hx.below b3')).mono ?_
  rintro e w4 ⟨rfl, hb4⟩
  rw [HJ.out]
  have b4 : Below w.heap.size w w4 := b3'.trans (hb4.mono b3'.size)
  go_wp2_with fail
  refine (awake_any _).mono ?_
  rintro e w5 ⟨rfl, hb5⟩
  go_wp2_with fail
  go_ret
  exact ⟨rfl, b4.trans (hb5.mono b4.size)⟩

set_option maxHeartbeats 2000000 in
theorem round_yes_three (l : List UInt8) (a : Option Addr) (c : Nat) (xs : List (List UInt8)) (w : World) (hx : Strs w (.slice a xs.length c) xs) (HR : Hid (∀ x ∈ xs, x.length ≤ 140737488351232)) (h : ¬ 3000 < l.length)
    (HG : Hid (greatL xs = false)) (ht : isTextL l = true) (hj : joinL xs = ([], 3)) : Calls Try.prog 10 #[.string (B l), .slice a xs.length c] w (Yes w) := by
  have hd : decide ((3000 : Int) < (l.length : Int)) = false := by simp; omega

  have HJ := Lib.hid hj
  clear hj
  have HS0 := Lib.hid (show (splitL l).2 = 0 from by unfold isTextL at ht; simpa using ht)
  have HJ0 := Lib.hid (join_split ht)
  have HT := Lib.hid ht
  clear ht
  go_enter Try.func10, Try.ntmps10
  go_wp2_with fail
  refine (great_any _ _ _ hx HR.out).mono ?_
  rintro e w1 ⟨rfl, q, rfl⟩
  rw [HG.out]
  go_wp2_with fail
  refine (split_any _ _).mono ?_
  rintro e w2 ⟨v2, rfl, hs2, hb2⟩
  have b2 : Below w.heap.size w w2 := (below_drewN (Below.refl _ _) q).trans hb2
  rw [HS0.out]
  go_wp2_with fail
  refine (isText_any _ _).mono ?_
  rintro e w3 ⟨rfl, hb3⟩
  rw [HT.out]
  have b3 : Below w.heap.size w w3 := b2.trans (hb3.mono b2.size)
  have hs3 := hs2.below hb3
  obtain ⟨a2, c2, rfl, hc2⟩ := hs3.cap
  go_wp2_with fail
  refine (join_any a2 c2 (splitL l).1 _ hs3).mono ?_
  rintro e w3' ⟨rfl, hb3'⟩
  rw [HJ0.out]
  have b3' : Below w.heap.size w w3' := b3.trans (hb3'.mono b3.size)
  go_wp2_with fail
  refine (join_any a c xs _ (hx.below b3')).mono ?_
  rintro e w4 ⟨rfl, hb4⟩
  rw [HJ.out]
  have b4 : Below w.heap.size w w4 := b3'.trans (hb4.mono b3'.size)
  go_wp2_with fail
  refine (awake_any _).mono ?_
  rintro e w5 ⟨rfl, hb5⟩
  go_wp2_with fail
  go_ret
  exact ⟨rfl, b4.trans (hb5.mono b4.size)⟩

theorem joinL_cases (xs : List (List UInt8)) : (∃ t, joinL xs = (t, 0)) ∨ joinL xs = ([], 4) ∨ joinL xs = ([], 3) := by
  by_cases h : (joinL xs).2 = 0
  · exact .inl ⟨(joinL xs).1, by rw [← h]⟩
  · obtain ⟨h1, h2 | h2⟩ := join_fails h
    · exact .inr (.inl (by rw [← h1, ← h2]))
    · exact .inr (.inr (by rw [← h1, ← h2]))

set_option maxHeartbeats 1000000 in
theorem lawRound (l : List UInt8) (v : Value) (xs : List (List UInt8)) (w : World) (hl : l.length ≤ reach) (hx : Strs w v xs) (hr : ∀ x ∈ xs, x.length ≤ reach) : Calls Try.prog 10 #[.string (B l), v] w (Yes w) := by
  unfold reach at hl hr
  have HR := Lib.hid hr
  clear hr
  obtain ⟨a, c, rfl, hc⟩ := hx.cap
  by_cases h : 3000 < l.length
  · have hd : decide ((3000 : Int) < (l.length : Int)) = true := by simp; omega
    go_enter Try.func10, Try.ntmps10
    go_wp2_with (go_at_call 12; refine (awake_any _).mono ?_; rintro e w1 ⟨rfl, hb⟩)
    go_ret
    exact ⟨rfl, hb⟩
  · cases hg : greatL xs
    · have HG := Lib.hid hg
      cases ht : isTextL l
      · rcases joinL_cases xs with ⟨t, hj⟩ | hj | hj
        · exact round_no_ok l a c xs w hx HR h HG ht t hj
        · exact round_no_four l a c xs w hx HR h HG ht hj
        · exact round_no_three l a c xs w hx HR h HG ht hj
      · rcases joinL_cases xs with ⟨t, hj⟩ | hj | hj
        · exact round_yes_ok l a c xs w hx HR h HG ht t hj
        · exact round_yes_four l a c xs w hx HR h HG ht hj
        · exact round_yes_three l a c xs w hx HR h HG ht hj
    · have hd : decide ((3000 : Int) < (l.length : Int)) = false := by simp; omega
      have HG := Lib.hid hg
      clear hg
      go_enter Try.func10, Try.ntmps10
      go_wp2_with fail
      refine (great_any _ _ _ hx HR.out).mono ?_
      rintro e w1 ⟨rfl, q, rfl⟩
      rw [HG.out]
      go_wp2_with fail
      refine (awake_any _).mono ?_
      rintro e w4 ⟨rfl, hb4⟩
      go_wp2_with fail
      go_ret
      exact ⟨rfl, (below_drewN (Below.refl _ _) q).trans hb4⟩
end Go.Proofs.Ytiipiaebclljeaa
