/- The walks of MarkersShow and MarkersRoundTrip. -/
import Derived.Test.YtbdekdhdkdjejaaDoorLawExact
import Derived.Test.YtbdekdhdkdjejaaDoorRegFrame
namespace Go.Proofs.YtbdekdhdkdjejaaDoor
open Go.RowKit Go.Shelf

theorem sides_flat {xss : List (List (List UInt8))} (h : ∀ y ∈ xss, y.isEmpty = false) : xss.length ≤ xss.flatten.length := by
  induction xss with
  | nil => exact Nat.le_refl _
  | cons x r ih =>
    have h1 := len_pos (h x (by simp))
    have h2 := ih (fun y hy => h y (by simp [hy]))
    simp only [List.length_cons, List.flatten_cons, List.length_append]
    omega
theorem all_cnt (r : Reg) : (allOf r).length = cntA (sidesOf r) := by
  unfold allOf cntA sidesOf
  rw [List.length_append, List.map_cons, List.sum_cons, List.length_flatten]
theorem marked_cnt {r : Reg} (h : shapeL r = true) : (markedL r).length ≤ 2 * cntA (sidesOf r) + 1 := by
  rw [← all_cnt]
  cases hc : r.conf
  · obtain ⟨e, _⟩ := shape_plain h hc
    rw [e]
    simp only [markedL, allOf, Bool.false_eq_true, ↓reduceIte, quoted_len, List.flatten_nil, List.append_nil]
    omega
  · obtain ⟨x, ys, e, e1, e2⟩ := shape_conf h hc
    have h1 := sides_flat (xss := x :: ys) (fun y hy => by
      rcases List.mem_cons.1 hy with rfl | hy
      · exact e1
      · exact e2 y hy)
    have h2 := sides_len opM (x :: ys)
    rw [e]
    simp only [markedL, allOf, ↓reduceIte, List.length_append, List.nil_append, List.length_singleton]
    omega
theorem linesL_cnt {rs : List Reg} (h : ∀ r ∈ rs, shapeL r = true) : (linesL rs).length ≤ 2 * cntR rs + rs.length := by
  induction rs with
  | nil => exact Nat.zero_le _
  | cons r t ih =>
    have h1 := marked_cnt (h r (by simp))
    have h2 := ih (fun y hy => h y (by simp [hy]))
    unfold linesL cntR at h2 ⊢
    simp only [List.flatMap_cons, List.length_append, List.map_cons, List.sum_cons, List.length_cons]
    omega
theorem great_parts {rs : List Reg} (h : greatR rs = false) : rs.length ≤ 10 ∧ cntR rs ≤ 40 ∧ bytR rs ≤ 5000 := by
  unfold greatR at h
  simp only [Bool.or_eq_false_iff, decide_eq_false_iff_not] at h
  omega
theorem small_of {rs : List Reg} (h : greatR rs = false) : small rs := by
  obtain ⟨h1, h2, h3⟩ := great_parts h
  refine ⟨fun r hr => ?_, fun hc => ?_⟩
  · have := sum_mem rs (fun r => cntA (sidesOf r)) hr
    rw [all_cnt]
    unfold cntR at h2
    omega
  · have := linesL_cnt (fun r hr => (check_all hc r hr).1)
    omega
theorem short_all {rs : List Reg} (h : greatR rs = false) : ∀ r ∈ rs, ∀ x ∈ allOf r, x.length ≤ maxLen := by
  obtain ⟨h1, h2, h3⟩ := great_parts h
  intro r hr x hx
  have hA : ∃ A ∈ sidesOf r, x ∈ A := by
    unfold allOf at hx
    rcases List.mem_append.1 hx with hx | hx
    · exact ⟨r.lines, by simp [sidesOf], hx⟩
    · obtain ⟨y, hy, hx⟩ := List.mem_flatten.1 hx
      exact ⟨y, by simp [sidesOf, hy], hx⟩
  obtain ⟨A, hA, hx⟩ := hA
  have g1 := sum_mem A List.length hx
  have g2 := sum_mem (sidesOf r) total hA
  have g3 := sum_mem rs (fun r => bytA (sidesOf r)) hr
  have e1 : bytR rs = (rs.map fun r => bytA (sidesOf r)).sum := rfl
  have e2 : bytA (sidesOf r) = ((sidesOf r).map total).sum := rfl
  have e3 : total A = (A.map List.length).sum := rfl
  unfold maxLen
  omega

set_option maxRecDepth 100000 in
set_option maxHeartbeats 1000000 in
theorem lawShow (φ : Nat → Prop) (v : Value) (rs : List Reg) (w : World) (h : Regs φ w v rs) (hs : Sized rs) : Calls Tryd.prog 3 #[v] w (Yes w) := by
  obtain ⟨a, c, rfl⟩ := h.slice
  have HG := Lib.hid (great_any φ _ rs w h (by have := hs.cnt; omega) (by have := hs.byt; omega) (by have := hs.len; omega) (fun r hr => by have := hs.sides r hr; omega))
  have H := Lib.hid h
  clear h hs
  cases hg : greatR rs
  · have HE := Lib.hid hg
    have HS := Lib.hid (small_of hg)
    have HX := Lib.hid (short_all hg)
    clear hg
    go_enter Tryd.func3, Tryd.ntmps3
    go_wp2_with fail
    refine HG.out.mono ?_
    rintro e w1 ⟨rfl, hb1⟩
    rw [HE.out]
    have HB1 := Lib.hid hb1
    have H1 := Lib.hid (H.out.keeps (Keeps.of_below hb1))
    clear hb1
    go_wp2_with fail
    refine (show_any φ _ rs _ H1.out HS.out).mono ?_
    rintro e w2 ⟨rfl, hb2⟩
    have HB2 := Lib.hid (HB1.out.trans (hb2.mono HB1.out.size))
    have H2 := Lib.hid (H1.out.keeps (Keeps.of_below hb2))
    clear hb2
    go_wp2_with fail
    refine (ref_show_any φ _ rs _ H2.out HS.out HX.out).mono ?_
    rintro e w3 ⟨rfl, hb3⟩
    have HB3 := Lib.hid (HB2.out.trans (hb3.mono HB2.out.size))
    have H3 := Lib.hid (H2.out.keeps (Keeps.of_below hb3))
    clear hb3
    go_wp2_with fail
    refine (check_any φ _ rs _ H3.out HS.out.1).mono ?_
    rintro e w4 ⟨rfl, hb4⟩
    have HB4 := Lib.hid (HB3.out.trans (hb4.mono HB3.out.size))
    have H4 := Lib.hid (H3.out.keeps (Keeps.of_below hb4))
    clear hb4
    go_wp2_with fail
    refine (ref_check_any φ _ rs _ H4.out HX.out).mono ?_
    rintro e w5 ⟨rfl, hb5⟩
    have HB5 := Lib.hid (HB4.out.trans (hb5.mono HB4.out.size))
    have H5 := Lib.hid (H4.out.keeps (Keeps.of_below hb5))
    clear hb5
    go_wp2_with fail
    refine (clean_main φ _ rs _ H5.out HS.out.1).mono ?_
    rintro e w6 ⟨rfl, hb6⟩
    have HB6 := Lib.hid (HB5.out.trans (hb6.mono HB5.out.size))
    have H6 := Lib.hid (H5.out.keeps (Keeps.of_below hb6))
    clear hb6
    go_wp2_with fail
    refine (ref_clean_any φ _ rs _ H6.out HX.out).mono ?_
    rintro e w7 ⟨rfl, hb7⟩
    have HB7 := Lib.hid (HB6.out.trans (hb7.mono HB6.out.size))
    clear hb7
    go_wp2_with fail
    refine (awake_any _).mono ?_
    rintro e w8 ⟨rfl, hb8⟩
    have HB8 := Lib.hid (HB7.out.trans (hb8.mono HB7.out.size))
    clear hb8
    go_wp2_with fail
    go_ret
    exact ⟨rfl, HB8.out⟩
  · have HE := Lib.hid hg
    clear hg
    go_enter Tryd.func3, Tryd.ntmps3
    go_wp2_with fail
    refine HG.out.mono ?_
    rintro e w1 ⟨rfl, hb1⟩
    rw [HE.out]
    have HB1 := Lib.hid hb1
    clear hb1
    go_wp2_with fail
    refine (awake_any _).mono ?_
    rintro e w8 ⟨rfl, hb8⟩
    have HB8 := Lib.hid (HB1.out.trans (hb8.mono HB1.out.size))
    clear hb8
    go_wp2_with fail
    go_ret
    exact ⟨rfl, HB8.out⟩

theorem show_fails {rs : List Reg} (h : (showL rs).2 ≠ 0) : (showL rs).1 = [] := by
  unfold showL at h ⊢
  split
  · rename_i h1
    rw [if_pos h1] at h
    split
    · rename_i h2; rw [if_pos h2] at h; exact absurd rfl h
    · rfl
  · rfl

set_option maxRecDepth 100000 in
set_option maxHeartbeats 1000000 in
theorem lawRound (φ : Nat → Prop) (v : Value) (rs : List Reg) (w : World) (h : Regs φ w v rs) (hs : Sized rs) : Calls Tryd.prog 9 #[v] w (Yes w) := by
  obtain ⟨a, c, rfl⟩ := h.slice
  have HG := Lib.hid (great_any φ _ rs w h (by have := hs.cnt; omega) (by have := hs.byt; omega) (by have := hs.len; omega) (fun r hr => by have := hs.sides r hr; omega))
  have H := Lib.hid h
  clear h hs
  cases hg : greatR rs
  · have HE := Lib.hid hg
    have HS := Lib.hid (small_of hg)
    clear hg
    by_cases h0 : (showL rs).2 = 0
    · obtain ⟨p1, p2⟩ := parse_show h0
      obtain ⟨t, ht⟩ : ∃ t, t = (showL rs).1 := ⟨_, rfl⟩
      have HSH := Lib.hid (show showL rs = (t, 0) from by rw [ht]; exact Prod.ext rfl h0)
      rw [← ht] at p1 p2
      have HP := Lib.hid p1
      have HT := Lib.hid p2
      clear p1 p2 h0 ht
      go_enter Tryd.func9, Tryd.ntmps9
      go_wp2_with fail
      refine HG.out.mono ?_
      rintro e w1 ⟨rfl, hb1⟩
      rw [HE.out]
      have HB1 := Lib.hid hb1
      have H1 := Lib.hid (H.out.keeps (Keeps.of_below hb1))
      clear hb1
      go_wp2_with fail
      refine (show_any φ _ rs _ H1.out HS.out).mono ?_
      rintro e w2 ⟨rfl, hb2⟩
      rw [HSH.out]
      have HB2 := Lib.hid (HB1.out.trans (hb2.mono HB1.out.size))
      have H2 := Lib.hid (H1.out.keeps (Keeps.of_below hb2))
      clear hb2
      go_wp2_with fail
      refine (parse_any t _).mono ?_
      rintro e w3 ⟨v3, rfl, hr3, hb3⟩
      rw [HP.out] at hr3 ⊢
      have HR3 := Lib.hid hr3
      have HB3 := Lib.hid (HB2.out.trans (hb3.mono HB2.out.size))
      have H3 := Lib.hid (H2.out.keeps (Keeps.of_below hb3))
      clear hr3 hb3
      go_wp2_with fail
      refine (sameRegs φ Any _ _ rs _ H3.out HR3.out).mono ?_
      rintro e w4 ⟨rfl, q, rfl⟩
      have HB4 := Lib.hid (below_drewN HB3.out q)
      go_wp2_with fail
      refine (isText_any t _).mono ?_
      rintro e w5 ⟨rfl, hb5⟩
      rw [HT.out]
      have HB5 := Lib.hid (HB4.out.trans (hb5.mono HB4.out.size))
      clear hb5
      go_wp2_with fail
      refine (awake_any _).mono ?_
      rintro e w8 ⟨rfl, hb8⟩
      have HB8 := Lib.hid (HB5.out.trans (hb8.mono HB5.out.size))
      clear hb8
      go_wp2_with fail
      go_ret
      exact ⟨rfl, HB8.out⟩
    · have hf := show_fails h0
      obtain ⟨n, hn⟩ : ∃ n, n = (showL rs).2 := ⟨_, rfl⟩
      rw [← hn] at h0
      have hb : ((n : Int) != 0) = true := by rw [bne_iff_ne]; omega
      have HSH := Lib.hid (show showL rs = ([], n) from by rw [hn]; exact Prod.ext hf rfl)
      clear hf hn h0
      go_enter Tryd.func9, Tryd.ntmps9
      go_wp2_with fail
      refine HG.out.mono ?_
      rintro e w1 ⟨rfl, hb1⟩
      rw [HE.out]
      have HB1 := Lib.hid hb1
      have H1 := Lib.hid (H.out.keeps (Keeps.of_below hb1))
      clear hb1
      go_wp2_with fail
      refine (show_any φ _ rs _ H1.out HS.out).mono ?_
      rintro e w2 ⟨rfl, hb2⟩
      rw [HSH.out]
      have HB2 := Lib.hid (HB1.out.trans (hb2.mono HB1.out.size))
      clear hb2
      go_wp2_with fail
      refine (awake_any _).mono ?_
      rintro e w8 ⟨rfl, hb8⟩
      have HB8 := Lib.hid (HB2.out.trans (hb8.mono HB2.out.size))
      clear hb8
      go_wp2_with fail
      go_ret
      exact ⟨rfl, HB8.out⟩
  · have HE := Lib.hid hg
    clear hg
    go_enter Tryd.func9, Tryd.ntmps9
    go_wp2_with fail
    refine HG.out.mono ?_
    rintro e w1 ⟨rfl, hb1⟩
    rw [HE.out]
    have HB1 := Lib.hid hb1
    clear hb1
    go_wp2_with fail
    refine (awake_any _).mono ?_
    rintro e w8 ⟨rfl, hb8⟩
    have HB8 := Lib.hid (HB1.out.trans (hb8.mono HB1.out.size))
    clear hb8
    go_wp2_with fail
    go_ret
    exact ⟨rfl, HB8.out⟩
end Go.Proofs.YtbdekdhdkdjejaaDoor
