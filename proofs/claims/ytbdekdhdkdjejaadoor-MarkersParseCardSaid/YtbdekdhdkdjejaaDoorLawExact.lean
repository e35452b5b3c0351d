/- The walk of MarkersExact. -/
import Derived.Test.YtbdekdhdkdjejaaDoorLawQuote
import Derived.Test.YtbdekdhdkdjejaaDoorPartLaw
namespace Go.Proofs.YtbdekdhdkdjejaaDoor
open Go.RowKit Go.Shelf

theorem all_le {rs : List Reg} (h : checkAll rs = 0) {r : Reg} (hr : r ∈ rs) : (allOf r).length ≤ (linesL rs).length := by
  obtain ⟨hs, _⟩ := check_all h r hr
  have h1 : (allOf r).length ≤ (markedL r).length := by
    cases hc : r.conf
    · obtain ⟨e, _⟩ := shape_plain hs hc
      rw [e]
      simp [allOf, markedL, quotedL]
    · obtain ⟨x, ys, e, _, _⟩ := shape_conf hs hc
      rw [e]
      have := sides_len opM (x :: ys)
      simp only [allOf, markedL, ↓reduceIte, List.length_append, List.nil_append, List.length_singleton]
      omega
  obtain ⟨a, b, rfl⟩ := List.append_of_mem hr
  have e : linesL (a ++ r :: b) = linesL a ++ (markedL r ++ linesL b) := by
    unfold linesL
    rw [List.flatMap_append, List.flatMap_cons]
  rw [e]
  simp only [List.length_append]
  omega
theorem parse_small {l : List UInt8} (h : (parseL l).2.2 = 0) : small (parseL l).1 := by
  obtain ⟨h1, h2, h3, h4⟩ := parse_exact h
  have hl : (linesL (parseL l).1).length ≤ 2000 := by
    rw [h4]
    refine (split_bounds ?_).1
    unfold parseL at h
    split at h
    · assumption
    · rename_i e; exact absurd h e
  exact ⟨fun r hr => by have := all_le h2 hr; omega, fun _ => by omega⟩

set_option maxRecDepth 100000 in
set_option maxHeartbeats 1000000 in
theorem exact_great (l : List UInt8) (w : World) (h : 3000 < l.length) : Calls Tryd.prog 10 #[.string (B l)] w (Yes w) := by
  have hd : decide ((3000 : Int) < (l.length : Int)) = true := by simp; omega
  go_enter Tryd.func10, Tryd.ntmps10
  go_wp2_with (go_at_call 12; refine (awake_any _).mono ?_; rintro e w1 ⟨rfl, hb⟩)
  go_ret
  exact ⟨rfl, hb⟩

set_option maxRecDepth 100000 in
set_option maxHeartbeats 1000000 in
theorem exact_bad (l : List UInt8) (w : World) (h : ¬ 3000 < l.length) (h0 : (parseL l).2.2 ≠ 0) : Calls Tryd.prog 10 #[.string (B l)] w (Yes w) := by
  have hd : decide ((3000 : Int) < (l.length : Int)) = false := by simp; omega
  have hb : (((parseL l).2.2 : Int) != 0) = true := by rw [bne_iff_ne]; omega
  obtain ⟨f1, f2⟩ := parse_fails h0
  obtain ⟨n, hn⟩ : ∃ n, n = (parseL l).2.1 := ⟨_, rfl⟩
  obtain ⟨c, hc⟩ : ∃ c, c = (parseL l).2.2 := ⟨_, rfl⟩
  have hz : ((n : Int) == 0) = !isTextL l := by
    rw [hn]
    cases e : isTextL l
    · have e1 : (splitL l).2 ≠ 0 := by unfold isTextL at e; simpa using e
      simp [f2.2 e1]
    · have e1 : (splitL l).2 = 0 := by unfold isTextL at e; simpa using e
      have : (parseL l).2.1 ≠ 0 := fun e2 => (f2.1 e2) e1
      simp; omega
  rw [← hc] at hb
  have F1 := Lib.hid f1
  have HN := Lib.hid hn
  have HC := Lib.hid hc
  clear h h0 f1 f2 hn hc
  go_enter Tryd.func10, Tryd.ntmps10
  go_wp2_with fail
  refine (parse_any l _).mono ?_
  rintro e w1 ⟨v, rfl, hr, hb1⟩
  rw [F1.out] at hr
  rw [← HN.out, ← HC.out]
  obtain ⟨a, k, rfl⟩ := hr.slice
  simp only [List.length_nil]
  go_wp2_with fail
  refine (isText_any l _).mono ?_
  rintro e w2 ⟨rfl, hb2⟩
  have HB := Lib.hid (hb1.trans (hb2.mono hb1.size))
  clear hb1 hb2 hr
  go_wp2_with fail
  refine (awake_any _).mono ?_
  rintro e w3 ⟨rfl, hb3⟩
  have HB3 := Lib.hid (HB.out.trans (hb3.mono HB.out.size))
  clear hb3
  go_wp2_with fail
  go_ret
  exact ⟨rfl, HB3.out⟩

set_option maxRecDepth 100000 in
set_option maxHeartbeats 1000000 in
theorem exact_good (l : List UInt8) (w : World) (h : ¬ 3000 < l.length) (h0 : (parseL l).2.2 = 0) : Calls Tryd.prog 10 #[.string (B l)] w (Yes w) := by
  have hd : decide ((3000 : Int) < (l.length : Int)) = false := by simp; omega
  obtain ⟨p1, p2, p3, _⟩ := parse_exact h0
  have ps := parse_small h0
  obtain ⟨rs, hrs⟩ : ∃ rs, rs = (parseL l).1 := ⟨_, rfl⟩
  rw [← hrs] at p2 p3 ps
  have HP := Lib.hid (show parseL l = (rs, 0, 0) from by rw [hrs]; exact Prod.ext rfl (Prod.ext p1 h0))
  have P2 := Lib.hid p2
  have P3 := Lib.hid p3
  have PS := Lib.hid ps
  clear h h0 p1 p2 p3 ps hrs
  go_enter Tryd.func10, Tryd.ntmps10
  go_wp2_with fail
  refine (parse_any l _).mono ?_
  rintro e w1 ⟨v, rfl, hr, hb1⟩
  rw [HP.out] at hr ⊢
  have HR := Lib.hid hr
  have HB1 := Lib.hid hb1
  clear hr hb1
  go_wp2_with fail
  refine (show_any Any _ rs _ HR.out PS.out).mono ?_
  rintro e w2 ⟨rfl, hb2⟩
  rw [P3.out]
  have HR2 := Lib.hid (HR.out.keeps (Keeps.of_below hb2))
  have HB2 := Lib.hid (HB1.out.trans (hb2.mono HB1.out.size))
  clear hb2
  go_wp2_with fail
  refine (check_any Any _ rs _ HR2.out PS.out.1).mono ?_
  rintro e w3 ⟨rfl, hb3⟩
  rw [P2.out]
  have HB3 := Lib.hid (HB2.out.trans (hb3.mono HB2.out.size))
  clear hb3
  go_wp2_with fail
  refine (awake_any _).mono ?_
  rintro e w4 ⟨rfl, hb4⟩
  have HB4 := Lib.hid (HB3.out.trans (hb4.mono HB3.out.size))
  clear hb4
  go_wp2_with fail
  go_ret
  exact ⟨rfl, HB4.out⟩

theorem lawExact (l : List UInt8) (w : World) : Calls Tryd.prog 10 #[.string (B l)] w (Yes w) := by
  by_cases h : 3000 < l.length
  · exact exact_great l w h
  · by_cases h0 : (parseL l).2.2 = 0
    · exact exact_good l w h h0
    · exact exact_bad l w h h0
end Go.Proofs.YtbdekdhdkdjejaaDoor
