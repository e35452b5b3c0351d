/- The walk of MarkersParts. -/
import Derived.Test.YtbdekdhdkdjejaaDoorLawShow
namespace Go.Proofs.YtbdekdhdkdjejaaDoor
open Go.RowKit Go.Shelf

theorem regs_one (A : World) (r : Reg) (u1 u2 : Value) (h1 : Strs A u1 r.lines) (h2 : Strss Any A u2 r.sides) : Regs Any (A.alloc (.cells #[.bool r.conf, u1, u2] 41)) (.slice (some ⟨A.heap.size, 0, none⟩) 1 1) [r] := by
  have b0 : Below A.heap.size A (A.alloc (.cells #[.bool r.conf, u1, u2] 41)) := (Below.refl _ _).alloc (Nat.le_refl _) _
  have hrow := heap_alloc_new A (.cells #[.bool r.conf, u1, u2] 41)
  refine ⟨_, 1, rfl, by simp, by decide, (fun _ _ => trivial), (fun h => by cases h), fun i hi => ?_⟩
  have hi2 : i < 1 := hi
  obtain rfl : i = 0 := by omega
  refine ⟨_, 0, u1, u2, rfl, by simp, ?_, ?_, ?_, ⟨h1.below b0, fun _ _ => trivial⟩, h2.keeps (Keeps.of_below b0)⟩
  · rw [cell_of_row _ _ _ _ _ _ hrow]; rfl
  · rw [cell_of_row _ _ _ _ _ _ hrow]; rfl
  · rw [cell_of_row _ _ _ _ _ _ hrow]; rfl
theorem small_one {rs : List Reg} (hs : small rs) (hc : checkAll rs = 0) {r : Reg} (hr : r ∈ rs) : small [r] := by
  refine ⟨fun x hx => ?_, fun _ => ?_⟩
  · rw [List.mem_singleton.1 hx]; exact hs.1 r hr
  · have h1 := hs.2 hc
    obtain ⟨a, b, rfl⟩ := List.append_of_mem hr
    have e : linesL (a ++ r :: b) = linesL a ++ (markedL r ++ linesL b) := by
      unfold linesL
      rw [List.flatMap_append, List.flatMap_cons]
    rw [e] at h1
    have e2 : linesL [r] = markedL r := by unfold linesL; simp
    rw [e2]
    simp only [List.length_append] at h1
    omega
theorem text_take_le (rs : List Reg) (k : Nat) : (textOf (linesL (rs.take k))).length ≤ (textOf (linesL rs)).length := by
  have e : linesL rs = linesL (rs.take k) ++ linesL (rs.drop k) := by
    unfold linesL
    rw [← List.flatMap_append, List.take_append_drop]
  rw [e, textOf_append, List.length_append]
  omega

set_option maxRecDepth 100000 in
set_option maxHeartbeats 2000000 in
theorem parts_ok (φ : Nat → Prop) (a : Option Addr) (c : Nat) (rs : List Reg) (w : World) (H : Hid (Regs φ w (.slice a rs.length c) rs)) (HG : Hid (Calls Tryd.prog 11 #[.slice a rs.length c] w fun e w' => e = .returned (.bool (greatR rs)) ∧ Below w.heap.size w w'))
    (hg : greatR rs = false) (h0 : (showL rs).2 = 0) : Calls Tryd.prog 8 #[.slice a rs.length c] w (Yes w) := by
  obtain ⟨s1, s2, s3⟩ := show_ok h0
  obtain ⟨j1, j2, j3, _⟩ := joinL_ok s2
  obtain ⟨g1, _, _⟩ := great_parts hg
  have hlen : (textOf (linesL rs)).length ≤ 65536 := by rw [textOf_length]; exact j3
  have HSH := Lib.hid (show showL rs = (textOf (linesL rs), 0) from Prod.ext s3 h0)
  have HPT := Lib.hid (fun (r : Reg) (hr : r ∈ rs) => show_part h0 hr)
  have HS := Lib.hid (small_of hg)
  have HC := Lib.hid s1
  have HE := Lib.hid hg
  have HLEN := Lib.hid hlen
  clear h0 s1 s2 s3 j1 j2 j3 hg hlen
  go_enter Tryd.func8, Tryd.ntmps8
  go_wp2_with fail
  refine HG.out.mono ?_
  rintro e w1 ⟨rfl, hb1⟩
  rw [HE.out]
  have HB1 := Lib.hid hb1
  have H1 := Lib.hid (H.out.keeps (Keeps.of_below hb1))
  clear hb1
  go_wp2_with fail
  refine (show_any φ _ rs _ H1.out HS.out).mono ?_
  rintro e w2 ⟨rfl, hb2⟩
  rw [HSH.out]
  have HB2 := Lib.hid (HB1.out.trans (hb2.mono HB1.out.size))
  clear hb2
  go_wp2_with fail
  go_loopw [5, 23] (fun t i wr => ∃ (k : Nat) (T : List UInt8), k ≤ rs.length ∧ i = .int .i64 k ∧ t = .string (B T) ∧ T = textOf (linesL (rs.take k)) ∧ Below w.heap.size w wr) (fun _ i _ => rs.length - (intOf i).toNat)
  case atStart => exact ⟨0, [], Nat.zero_le _, rfl, rfl, rfl, HB2.out⟩
  case round =>
    obtain ⟨k, T, hk, rfl, rfl, hT, hbl⟩ := hrel
    have HT := Lib.hid hT
    have HB := Lib.hid hbl
    clear hT hbl
    by_cases hlt : k < rs.length
    · have HW := Lib.hid (H.out.keeps (Keeps.of_below HB.out))
      obtain ⟨b, off, u1, u2, rfl, hbw, g0, g1', g2, g3, g4⟩ := HW.out.elem hlt
      obtain ⟨a1, n1, m1, rfl⟩ := g3.1.slice3
      obtain ⟨a2, m2, rfl⟩ := g4.slice
      have G3 := Lib.hid g3.1
      have G4 := Lib.hid (g4.mono (ψ := Any) (fun _ _ => trivial))
      have hle : T.length + (textOf (markedL rs[k])).length ≤ 1000000 := by
        have h1 := text_succ hlt
        have h2 := text_take_le rs (k + 1)
        have h3 := HLEN.out
        rw [h1, ← HT.out, List.length_append] at h2
        omega
      have hadd := fun W => run_string_add_sum (P := Tryd.prog) W (B T) (B (textOf (markedL rs[k]))) (by rw [B_size, B_size]; omega)
      have hb0 : Below wr.heap.size wr (wr.alloc (.cells #[.bool rs[k].conf, .slice a1 n1 m1, .slice a2 rs[k].sides.length m2] 41)) := (Below.refl _ _).alloc (Nat.le_refl _) _
      have hr := (regs_one (wr.alloc (.cells #[.bool rs[k].conf, .slice a1 n1 m1, .slice a2 rs[k].sides.length m2] 41)) rs[k] (.slice a1 n1 m1) (.slice a2 rs[k].sides.length m2) (G3.out.below hb0) (G4.out.keeps (Keeps.of_below hb0)))
      rw [World.size_alloc] at hr
      have HR := Lib.hid hr
      clear hr
      have HBB := Lib.hid ((HB.out.alloc HB.out.size (.cells #[.bool rs[k].conf, .slice a1 n1 m1, .slice a2 rs[k].sides.length m2] 41)).alloc (by have := HB.out.size; simp; omega) (.cells #[.bool rs[k].conf, .slice a1 n1 m1, .slice a2 rs[k].sides.length m2] 41))
      have HP := Lib.hid (HPT.out rs[k] (List.getElem_mem hlt))
      have HSM := Lib.hid (small_one HS.out HC.out (List.getElem_mem hlt))
      clear g3 g4 hb0
      go_wp2_with fail
      refine (show_any Any _ [rs[k]] _ HR.out HSM.out).mono ?_
      rintro e w3 ⟨rfl, hb3⟩
      rw [HP.out]
      have HB3 := Lib.hid (HBB.out.trans (hb3.mono HBB.out.size))
      clear hb3
      go_wp2_with fail
      go_roundw
      case rel => exact ⟨k + 1, T ++ textOf (markedL rs[k]), by omega, by go_num, by simp, by rw [HT.out, text_succ hlt], HB3.out⟩
      case measure => simp [intOf]; omega
    · have ht : T = textOf (linesL rs) := by rw [HT.out, List.take_of_length_le (by omega)]
      subst ht
      go_wp2_with fail
      refine (awake_any _).mono ?_
      rintro e w8 ⟨rfl, hb8⟩
      have HB8 := Lib.hid (HB.out.trans (hb8.mono HB.out.size))
      clear hb8
      go_wp2_with fail
      go_ret
      exact ⟨rfl, HB8.out⟩

set_option maxRecDepth 100000 in
set_option maxHeartbeats 1000000 in
theorem lawParts (φ : Nat → Prop) (v : Value) (rs : List Reg) (w : World) (h : Regs φ w v rs) (hs : Sized rs) : Calls Tryd.prog 8 #[v] w (Yes w) := by
  obtain ⟨a, c, rfl⟩ := h.slice
  have HG := Lib.hid (great_any φ _ rs w h (by have := hs.cnt; omega) (by have := hs.byt; omega) (by have := hs.len; omega) (fun r hr => by have := hs.sides r hr; omega))
  have H := Lib.hid h
  clear h hs
  cases hg : greatR rs
  · by_cases h0 : (showL rs).2 = 0
    · exact parts_ok φ a c rs w H HG hg h0
    · have HE := Lib.hid hg
      have HS := Lib.hid (small_of hg)
      have hf := show_fails h0
      obtain ⟨n, hn⟩ : ∃ n, n = (showL rs).2 := ⟨_, rfl⟩
      rw [← hn] at h0
      have hb : ((n : Int) != 0) = true := by rw [bne_iff_ne]; omega
      have HSH := Lib.hid (show showL rs = ([], n) from by rw [hn]; exact Prod.ext hf rfl)
      clear hf hn h0 hg
      go_enter Tryd.func8, Tryd.ntmps8
      go_wp2_with fail
      refine HG.out.mono ?_
      rintro e w1 ⟨rfl, hb1⟩
      rw [HE.out]
      have HB1 := Lib.hid hb1
      have H1 := Lib.hid (H.out.keeps (Keeps.of_below hb1))
      clear hb1
      go_wp2_with fail
      refine (show_any φ _ rs _ H1.out HS.out).mono ?_
      rintro e w2 ⟨rfl, hb2⟩
      rw [HSH.out]
      have HB2 := Lib.hid (HB1.out.trans (hb2.mono HB1.out.size))
      clear hb2
      go_wp2_with fail
      refine (awake_any _).mono ?_
      rintro e w8 ⟨rfl, hb8⟩
      have HB8 := Lib.hid (HB2.out.trans (hb8.mono HB2.out.size))
      clear hb8
      go_wp2_with fail
      go_ret
      exact ⟨rfl, HB8.out⟩
  · have HE := Lib.hid hg
    clear hg
    go_enter Tryd.func8, Tryd.ntmps8
    go_wp2_with fail
    refine HG.out.mono ?_
    rintro e w1 ⟨rfl, hb1⟩
    rw [HE.out]
    have HB1 := Lib.hid hb1
    clear hb1
    go_wp2_with fail
    refine (awake_any _).mono ?_
    rintro e w8 ⟨rfl, hb8⟩
    have HB8 := Lib.hid (HB1.out.trans (hb8.mono HB1.out.size))
    clear hb8
    go_wp2_with fail
    go_ret
    exact ⟨rfl, HB8.out⟩
end Go.Proofs.YtbdekdhdkdjejaaDoor
