/- The walk of MarkersClean. -/
import Derived.Test.YtbdekdhdkdjejaaDoorLawExact
namespace Go.Proofs.YtbdekdhdkdjejaaDoor
open Go.RowKit Go.Shelf

set_option maxRecDepth 100000 in
set_option maxHeartbeats 1000000 in
theorem clean_great (l : List UInt8) (w : World) (h : 3000 < l.length) : Calls Tryd.prog 7 #[.string (B l)] w (Yes w) := by
  have hd : decide ((3000 : Int) < (l.length : Int)) = true := by simp; omega
  go_enter Tryd.func7, Tryd.ntmps7
  go_wp2_with (go_at_call 12; refine (awake_any _).mono ?_; rintro e w1 ⟨rfl, hb⟩)
  go_ret
  exact ⟨rfl, hb⟩

set_option maxRecDepth 100000 in
set_option maxHeartbeats 1000000 in
theorem clean_bad (l : List UInt8) (w : World) (h : ¬ 3000 < l.length) (h0 : (splitL l).2 ≠ 0) : Calls Tryd.prog 7 #[.string (B l)] w (Yes w) := by
  have hd : decide ((3000 : Int) < (l.length : Int)) = false := by simp; omega
  have hb : (((splitL l).2 : Int) != 0) = true := by rw [bne_iff_ne]; omega
  clear h h0
  go_enter Tryd.func7, Tryd.ntmps7
  go_wp2_with fail
  refine (split_any _ _).mono ?_
  rintro e w1 ⟨v, rfl, hs, hb1⟩
  have HB1 := Lib.hid hb1
  clear hb1 hs
  go_wp2_with fail
  refine (awake_any _).mono ?_
  rintro e w4 ⟨rfl, hb4⟩
  have HB4 := Lib.hid (HB1.out.trans (hb4.mono HB1.out.size))
  clear hb4
  go_wp2_with fail
  go_ret
  exact ⟨rfl, HB4.out⟩

set_option maxRecDepth 100000 in
set_option maxHeartbeats 2000000 in
theorem clean_text (l : List UInt8) (w : World) (h : ¬ 3000 < l.length) (h0 : (splitL l).2 = 0) : Calls Tryd.prog 7 #[.string (B l)] w (Yes w) := by
  have hd : decide ((3000 : Int) < (l.length : Int)) = false := by simp; omega
  have hb : (((splitL l).2 : Int) != 0) = false := by simp [h0]
  have hbd := split_bounds h0
  have HBD := Lib.hid hbd
  have H0 := Lib.hid h0
  clear h hbd h0
  go_enter Tryd.func7, Tryd.ntmps7
  go_wp2_with fail
  refine (split_any _ _).mono ?_
  rintro e w1 ⟨v, rfl, hs, hb1⟩
  obtain ⟨a, c, rfl⟩ := hs.slice
  have hm : (splitL l).1.length ≤ 2000 := HBD.out.1
  have HB1 := Lib.hid hb1
  clear hb1
  go_wp2_with fail
  go_loop [26] (fun i => ∃ k : Nat, k ≤ (splitL l).1.length ∧ i = .int .i64 k ∧ ∀ j (hj : j < (splitL l).1.length), j < k → quotL (splitL l).1[j] = false) (fun i => (splitL l).1.length - (intOf i).toNat)
  case atStart => exact ⟨0, Nat.zero_le _, rfl, fun j _ h => absurd h (Nat.not_lt_zero _)⟩
  case round =>
    obtain ⟨k, hk, rfl, hq⟩ := hrel
    have HQ := Lib.hid hq
    clear hq
    by_cases hlt : k < (splitL l).1.length
    · obtain ⟨b, off, rfl, hcell⟩ := hs.elem hlt
      have hx : ((splitL l).1[k]).length ≤ maxLen := by
        have := HBD.out.2 _ (List.getElem_mem hlt)
        unfold maxLen
        omega
      cases hqk : quotL (splitL l).1[k]
      · have HQK := Lib.hid hqk
        clear hqk
        go_wp2_with fail
        refine (ref_quotable_any _ _ hx).mono ?_
        rintro e w2 ⟨rfl, rfl⟩
        rw [HQK.out]
        go_wp2_with fail
        go_round
        case rel =>
          refine ⟨k + 1, by omega, by go_num, fun j hj hjk => ?_⟩
          by_cases e : j = k
          · subst e; exact HQK.out
          · exact HQ.out j hj (by omega)
        case measure => simp [intOf]; omega
      · have HQK := Lib.hid hqk
        clear hqk
        go_wp2_with fail
        refine (ref_quotable_any _ _ hx).mono ?_
        rintro e w2 ⟨rfl, rfl⟩
        rw [HQK.out]
        go_wp2_with fail
        refine (awake_any _).mono ?_
        rintro e w4 ⟨rfl, hb4⟩
        have HB4 := Lib.hid (HB1.out.trans (hb4.mono HB1.out.size))
        clear hb4
        go_wp2_with fail
        go_ret
        exact ⟨rfl, HB4.out⟩
    · have hall : ∀ x ∈ (splitL l).1, quotL x = false := by
        intro x hx
        obtain ⟨j, hj, rfl⟩ := List.mem_iff_getElem.1 hx
        exact HQ.out j hj (by omega)
      have hp := parse_clean H0.out hall
      obtain ⟨_, p2, p3, _⟩ := parse_exact (l := l) (by rw [hp])
      have ps := parse_small (l := l) (by rw [hp])
      rw [hp] at p2 p3 ps
      have HP := Lib.hid hp
      clear hp hall
      cases he : (splitL l).1.isEmpty
      · rw [he] at p2 p3 ps
        simp only [Bool.false_eq_true, ↓reduceIte] at p2 p3 ps
        have HE := Lib.hid he
        have HPP := Lib.hid (show parseL l = ([⟨false, (splitL l).1, []⟩], 0, 0) from by rw [HP.out, he]; rfl)
        have P2 := Lib.hid p2
        have P3 := Lib.hid p3
        have PS := Lib.hid ps
        have hc : cleanR [⟨false, (splitL l).1, []⟩] = true := by unfold cleanR; rw [p2]; rfl
        have HC := Lib.hid hc
        have hpos := len_pos he
        have hne : (((splitL l).1.length : Int) == 0) = false := by rw [zero_dec]; exact he
        clear hc he p2 p3 ps
        go_wp2_with fail
        refine (parse_any l _).mono ?_
        rintro e w2 ⟨v2, rfl, hr, hb2⟩
        rw [HPP.out] at hr ⊢
        obtain ⟨a2, c2, rfl⟩ := hr.slice
        simp only [List.length_singleton] at hr ⊢
        have HR := Lib.hid hr
        have HB2 := Lib.hid (HB1.out.trans (hb2.mono HB1.out.size))
        have HS2 := Lib.hid (hs.below hb2)
        clear hr hb2
        go_wp2_with fail
        refine (clean_main Any _ _ _ HR.out PS.out.1).mono ?_
        rintro e w3 ⟨rfl, hb3⟩
        rw [HC.out]
        have HR3 := Lib.hid (HR.out.keeps (Keeps.of_below hb3))
        have HB3 := Lib.hid (HB2.out.trans (hb3.mono HB2.out.size))
        have HS3 := Lib.hid (HS2.out.below hb3)
        clear hb3
        go_wp2_with fail
        refine (show_any Any _ _ _ HR3.out PS.out).mono ?_
        rintro e w4 ⟨rfl, hb4⟩
        rw [P3.out]
        have HR4 := Lib.hid (HR3.out.keeps (Keeps.of_below hb4))
        have HB4 := Lib.hid (HB3.out.trans (hb4.mono HB3.out.size))
        have HS4 := Lib.hid (HS3.out.below hb4)
        clear hb4
        obtain ⟨b2, off2, u1, u2, rfl, _, _, g1, _, g2, _⟩ := HR4.out.elem (k := 0) (by simp)
        simp only [Nat.zero_mul, Nat.add_zero] at g1
        obtain ⟨a5, c5, rfl⟩ := g2.1.slice
        have G2 := Lib.hid g2.1
        clear g2
        go_wp2_with fail
        refine (same_true _ _ (splitL l).1 _ G2.out HS4.out).mono ?_
        rintro e w5 ⟨rfl, q5, rfl⟩
        have HB5 := Lib.hid (below_drewN HB4.out q5)
        go_wp2_with fail
        refine (awake_any _).mono ?_
        rintro e w6 ⟨rfl, hb6⟩
        have HB6 := Lib.hid (HB5.out.trans (hb6.mono HB5.out.size))
        clear hb6
        go_wp2_with fail
        go_ret
        exact ⟨rfl, HB6.out⟩
      · rw [he] at p2
        simp only [↓reduceIte] at p2
        have HPP := Lib.hid (show parseL l = ([], 0, 0) from by rw [HP.out, he]; rfl)
        have hc : cleanR [] = true := rfl
        have HC := Lib.hid hc
        have hz := len_zero he
        clear hc he p2 p3 ps
        go_wp2_with fail
        refine (parse_any l _).mono ?_
        rintro e w2 ⟨v2, rfl, hr, hb2⟩
        rw [HPP.out] at hr ⊢
        obtain ⟨a2, c2, rfl⟩ := hr.slice
        simp only [List.length_nil] at hr ⊢
        have HR := Lib.hid hr
        have HB2 := Lib.hid (HB1.out.trans (hb2.mono HB1.out.size))
        clear hr hb2
        go_wp2_with fail
        refine (clean_main Any _ [] _ HR.out (fun r hr => by cases hr)).mono ?_
        rintro e w3 ⟨rfl, hb3⟩
        rw [HC.out]
        have HB3 := Lib.hid (HB2.out.trans (hb3.mono HB2.out.size))
        clear hb3
        go_wp2_with fail
        refine (awake_any _).mono ?_
        rintro e w6 ⟨rfl, hb6⟩
        have HB6 := Lib.hid (HB3.out.trans (hb6.mono HB3.out.size))
        clear hb6
        go_wp2_with fail
        go_ret
        exact ⟨rfl, HB6.out⟩

theorem lawClean (l : List UInt8) (w : World) : Calls Tryd.prog 7 #[.string (B l)] w (Yes w) := by
  by_cases h : 3000 < l.length
  · exact clean_great l w h
  · by_cases h0 : (splitL l).2 = 0
    · exact clean_text l w h h0
    · exact clean_bad l w h h0
end Go.Proofs.YtbdekdhdkdjejaaDoor
