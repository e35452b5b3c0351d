/- quiltref22.quoted, marked, Show. quiltref22.Show and Clean; markers.Clean. -/
import Derived.Test.YtbdekdhdkdjejaaDoorShow
import Derived.Test.YtbdekdhdkdjejaaDoorCheckRef
import Derived.Test.YtbdekdhdkdjejaaDoorJoinRef
namespace Go.Proofs.YtbdekdhdkdjejaaDoor
open Go.RowKit

set_option maxHeartbeats 1000000 in
theorem ref_quoted_any (v : Value) (xs : List (List UInt8)) (w : World) (hx : Strs w v xs) (hs : xs.length ≤ 1000000) (hl : ∀ x ∈ xs, x.length ≤ 1000000) :
    Calls Tryd.prog 55 #[v] w fun e w' => ∃ v', e = .returned v' ∧ Strs w' v' (quotedL xs) ∧ Below w.heap.size w w' := by
  obtain ⟨a, c, rfl⟩ := hx.slice
  have HR := Lib.hid hl
  clear hl
  obtain ⟨i0, hi, hz0, hz1, hz2⟩ := info_parts Tryd.info9
  go_enter Tryd.func55, Tryd.ntmps55
  go_wp2
  go_loopw [3, 4] (fun o i wr => ∃ k : Nat, i = .int .i64 k ∧ k ≤ xs.length ∧ Owns wr w.heap.size o (quotedL (xs.take k)) ∧ Below w.heap.size w wr) (fun _ i _ => xs.length - (intOf i).toNat)
  case atStart => exact ⟨0, rfl, by omega, owns_made w, (Below.refl _ _).alloc (Nat.le_refl _) _⟩
  case round =>
    obtain ⟨k, rfl, hk, hown, hbel⟩ := hrel
    have hsz := hbel.size
    by_cases hlt : k < xs.length
    · obtain ⟨b, off, rfl, hcell⟩ := (hx.below hbel).elem hlt
      have hin : (k : Int) < (xs.length : Int) := by omega
      have hql := quoted_take_len xs k hk
      have hcall := fun w => ref_quote_any xs[k] w (HR.out _ (List.getElem_mem hlt))
      have HQ := Lib.hid hql
      clear hql
      go_wp2_with (first | (go_at_call 23; refine (hcall _).mono ?_; rintro e w' ⟨rfl, rfl⟩) | (at_builtin; go_must (refine wpList_append_own _ rfl _ _ 35 rfl (w.heap.size) 9 i0 (.string ⟨#[]⟩) 1 16 Tryd.underlying35 hi hz0 hz1 hz2 rfl (by decide) _ _ _ rfl (World.ownsRow.alloc hown _) ⟨wr.heap.size, 0, none⟩ 1 1 [strV (quoteL xs[k])] rfl rfl (cell_one_new _ _ _) (by simp [strV, Value.oneCell']) (by rw [HQ.out]; unfold maxLen; omega) (by rw [HQ.out]; omega) (by simp; omega) ?_); intro v' w1 hown' hgrow _))
      have hown2 : Owns w1 w.heap.size v' (quotedL (xs.take (k + 1))) := by
        unfold Owns
        rw [quoted_succ hlt, List.length_append, List.map_append]
        exact hown'
      have hbel2 : Below w.heap.size w w1 := (hbel.alloc hsz _).grown hgrow (by simp; omega) (fun j hj => (World.ownsRow.lt hown j hj).1)
      go_roundw
      case rel => exact ⟨k + 1, by go_num, by omega, hown2, hbel2⟩
      case measure => simp [intOf]; omega
    · go_wp2
      go_ret
      refine ⟨_, rfl, ?_, hbel⟩
      have := hown.strs
      rwa [List.take_of_length_le (by omega)] at this

def MarkOut (r : Reg) (w : World) (e : Ending) (w' : World) : Prop := ∃ v', e = .returned v' ∧ Strs w' v' (markedL r) ∧ Below w.heap.size w w'

set_option maxRecDepth 100000 in
set_option maxHeartbeats 2000000 in
theorem marked_any (φ : Nat → Prop) (r : Reg) (v1 v2 : Value) (w : World) (h1 : StrsIn φ w v1 r.lines) (h2 : Strss φ w v2 r.sides) (hl : (markedL r).length ≤ 1000000)
    (hx : (∀ x ∈ r.lines, x.length ≤ 1000000) ∧ ∀ s ∈ r.sides, ∀ x ∈ s, x.length ≤ 1000000) : Calls Tryd.prog 32 #[.agg #[.bool r.conf, v1, v2]] w (MarkOut r w) := by
  obtain ⟨a1, c1, rfl⟩ := h1.1.slice
  obtain ⟨a2, c2, rfl⟩ := h2.slice
  have hml := h2.le
  unfold maxLen at hml
  obtain ⟨i0, hi, hz0, hz1, hz2⟩ := info_parts Tryd.info9
  have hA := fun o => (Below.refl w.heap.size w).alloc (Nat.le_refl _) o
  have HX0 := Lib.hid hx
  clear hx
  cases hc : r.conf
  · have HQ := Lib.hid (marked_plain hc)
    have HCC := Lib.hid (fun w' (hk' : Below w.heap.size w w') => ref_quoted_any _ r.lines w' (h1.1.below hk') (by rw [HQ.out, quoted_len] at hl; exact hl) HX0.out.1)
    go_enter Tryd.func32, Tryd.ntmps32
    go_wp2_with fail
    refine (HCC.out _ (hA _)).mono ?_
    rintro e w2 ⟨v2, rfl, hv2, hb2⟩
    go_wp2_with fail
    go_ret
    exact ⟨_, rfl, by rw [HQ.out]; exact hv2, (hA _).trans (hb2.mono (by simp))⟩
  · have HQ := Lib.hid (marked_conf hc)
    have HB := Lib.hid (show ∀ j, (sidesL opM (r.sides.take j)).length + 1 ≤ 1000000 from fun j => by
      rw [HQ.out, List.length_append, List.length_singleton] at hl
      have := sides_take_len r.sides j
      omega)
    clear hl
    go_enter Tryd.func32, Tryd.ntmps32
    go_wp2_with fail
    go_loopw [3, 4] (fun o j wr => ∃ k2 : Nat, j = .int .i64 k2 ∧ k2 ≤ r.sides.length ∧ Owns wr (w.heap.size + 1) o (sidesL opM (r.sides.take k2)) ∧ Below (w.heap.size + 1) (w.alloc (.cells #[.bool true, .slice a1 r.lines.length c1, .slice a2 r.sides.length c2] 41)) wr) (fun _ j _ => r.sides.length - (intOf j).toNat)
    case atStart =>
      refine ⟨0, rfl, by omega, ?_, (Below.refl _ _).alloc (by simp) _⟩
      have := owns_made (w.alloc (.cells #[.bool true, .slice a1 r.lines.length c1, .slice a2 r.sides.length c2] 41))
      rw [World.size_alloc] at this
      exact this
    case round =>
      obtain ⟨k2, rfl, hk2, hown2, hbel2⟩ := hrel
      have hsz2 := hbel2.size
      rw [World.size_alloc] at hsz2
      have bw := (hA _).trans (hbel2.mono (by omega : w.heap.size ≤ w.heap.size + 1))
      have hrow := (hbel2.block w.heap.size (by omega)).trans (heap_alloc_new w _)
      have n0 := cell_of_row wr w.heap.size 0 _ _ _ hrow
      have n1 := cell_of_row wr w.heap.size 1 _ _ _ hrow
      have n2 := cell_of_row wr w.heap.size 2 _ _ _ hrow
      simp at n0 n1 n2
      clear hrow n0 n1
      have HBk := Lib.hid (HB.out k2)
      by_cases hlt2 : k2 < r.sides.length
      · obtain ⟨b2, off2, u, rfl, hb2w, hcell2w, hu, _⟩ := h2.elem hlt2
        have hcell2 := (bw.cell (p := ⟨b2, off2 + k2, none⟩) hb2w).trans hcell2w
        clear hcell2w
        have hin2 : (k2 : Int) < (r.sides.length : Int) := by omega
        have HB1 := Lib.hid (HB.out (k2 + 1))
        have HSS := Lib.hid (sides_succ hlt2)
        have HX := Lib.hid (show ∀ w', Below w.heap.size w w' → Calls Tryd.prog 55 #[u] w' fun e w'' => ∃ v', e = .returned v' ∧ Strs w'' v' (quotedL r.sides[k2]) ∧ Below w'.heap.size w' w'' from fun w' hk' => ref_quoted_any u r.sides[k2] w' (hu.below hk') (by
          have := HB1.out
          rw [HSS.out, List.length_append, quoted_len] at this
          omega) (HX0.out.2 _ (List.getElem_mem hlt2)))
        obtain ⟨a3, n3, c3, rfl⟩ := hu.slice3
        obtain ⟨xs, hxs⟩ : ∃ xs, xs = sidesL opM (r.sides.take k2) := ⟨_, rfl⟩
        rw [← hxs] at hown2
        have HXS := Lib.hid hxs
        have HLN := Lib.hid (show xs.length + 1 ≤ 1000000 from by rw [HXS.out]; exact HBk.out)
        clear hxs
        have hne2 : b2 ≠ w.heap.size := by omega
        by_cases hk0 : k2 = 0
        · have hz : ((k2 : Int) == 0) = true := by rw [hk0]; rfl
          have HS3 := Lib.hid (show (xs ++ [opM]) ++ quotedL r.sides[k2] = sidesL opM (r.sides.take (k2 + 1)) from by rw [HSS.out, HXS.out]; simp [hk0])
          clear hk0
          go_wp2_with (at_builtin; go_must (refine wpList_append_own _ rfl _ _ 35 rfl (w.heap.size + 1) 9 i0 (.string ⟨#[]⟩) 1 16 Tryd.underlying35 hi hz0 hz1 hz2 rfl (by decide) _ _ _ rfl (World.ownsRow.alloc hown2 _) ⟨wr.heap.size, 0, none⟩ 1 1 [strV opM] rfl rfl (cell_one_new _ _ _) (by simp [strV, Value.oneCell']) (by have := HLN.out; unfold maxLen; omega) (by have := HLN.out; omega) (by simp; omega) ?_); intro v' w1 hown' hgrow _; (have hbel3 := (hbel2.alloc hsz2 _).grown hgrow (by simp; omega) (fun j hj => (World.ownsRow.lt hown2 j hj).1)); (have bw3 := (bw.alloc bw.size _).grown hgrow (by simp; omega) (fun j hj => Nat.le_of_succ_le (World.ownsRow.lt hown2 j hj).1)); (have hsz3 : w.heap.size + 1 ≤ w1.heap.size := by have := hbel3.size; rw [World.size_alloc] at this; exact this); (have m2 := (hbel3.cell (p := ⟨w.heap.size, 2, none⟩) (by show w.heap.size < w.heap.size + 1; omega)).trans (cell_of_row _ w.heap.size 2 _ _ _ (heap_alloc_new w _))); (simp at m2); (have hcell3 := (bw3.cell (p := ⟨b2, off2 + k2, none⟩) hb2w).trans ((bw.cell (p := ⟨b2, off2 + k2, none⟩) hb2w).symm.trans hcell2)))
          have hown3 := Owns.snoc hown'
          go_wp2_with fail
          refine (HX.out _ bw3).mono ?_
          rintro e w2 ⟨v2, rfl, hv2, hb2'⟩
          obtain ⟨v3, w3, hr3, ho3, hb3⟩ := run_append_strs (w.heap.size + 1) _ v2 _ _ w2 (hown3.keep hb2') hv2 (by rw [← List.length_append, HS3.out]; have := HB1.out; omega) (Nat.le_trans hsz3 hb2'.size)
          have HR := Lib.hid hr3
          clear hr3
          go_wp2_with (at_builtin; go_must (refine wpList_append_ran rfl _ _ 35 35 rfl HR.out ?_))
          rw [HS3.out] at ho3
          go_roundw
          case rel => exact ⟨k2 + 1, by go_num, by omega, ho3, (hbel3.trans (hb2'.mono hsz3)).trans hb3⟩
          case measure => simp [intOf]; omega
        · have hz : ((k2 : Int) == 0) = false := by simp; omega
          have HS3 := Lib.hid (show (xs ++ [seM]) ++ quotedL r.sides[k2] = sidesL opM (r.sides.take (k2 + 1)) from by rw [HSS.out, HXS.out]; simp [hk0])
          clear hk0
          go_wp2_with (at_builtin; go_must (refine wpList_append_own _ rfl _ _ 35 rfl (w.heap.size + 1) 9 i0 (.string ⟨#[]⟩) 1 16 Tryd.underlying35 hi hz0 hz1 hz2 rfl (by decide) _ _ _ rfl (World.ownsRow.alloc hown2 _) ⟨wr.heap.size, 0, none⟩ 1 1 [strV seM] rfl rfl (cell_one_new _ _ _) (by simp [strV, Value.oneCell']) (by have := HLN.out; unfold maxLen; omega) (by have := HLN.out; omega) (by simp; omega) ?_); intro v' w1 hown' hgrow _; (have hbel3 := (hbel2.alloc hsz2 _).grown hgrow (by simp; omega) (fun j hj => (World.ownsRow.lt hown2 j hj).1)); (have bw3 := (bw.alloc bw.size _).grown hgrow (by simp; omega) (fun j hj => Nat.le_of_succ_le (World.ownsRow.lt hown2 j hj).1)); (have hsz3 : w.heap.size + 1 ≤ w1.heap.size := by have := hbel3.size; rw [World.size_alloc] at this; exact this); (have m2 := (hbel3.cell (p := ⟨w.heap.size, 2, none⟩) (by show w.heap.size < w.heap.size + 1; omega)).trans (cell_of_row _ w.heap.size 2 _ _ _ (heap_alloc_new w _))); (simp at m2); (have hcell3 := (bw3.cell (p := ⟨b2, off2 + k2, none⟩) hb2w).trans ((bw.cell (p := ⟨b2, off2 + k2, none⟩) hb2w).symm.trans hcell2)))
          have hown3 := Owns.snoc hown'
          go_wp2_with fail
          refine (HX.out _ bw3).mono ?_
          rintro e w2 ⟨v2, rfl, hv2, hb2'⟩
          obtain ⟨v3, w3, hr3, ho3, hb3⟩ := run_append_strs (w.heap.size + 1) _ v2 _ _ w2 (hown3.keep hb2') hv2 (by rw [← List.length_append, HS3.out]; have := HB1.out; omega) (Nat.le_trans hsz3 hb2'.size)
          have HR := Lib.hid hr3
          clear hr3
          go_wp2_with (at_builtin; go_must (refine wpList_append_ran rfl _ _ 35 35 rfl HR.out ?_))
          rw [HS3.out] at ho3
          go_roundw
          case rel => exact ⟨k2 + 1, by go_num, by omega, ho3, (hbel3.trans (hb2'.mono hsz3)).trans hb3⟩
          case measure => simp [intOf]; omega
      · have hlt' : ¬ ((k2 : Int) < (r.sides.length : Int)) := by omega
        obtain ⟨xs, hxs⟩ : ∃ xs, xs = sidesL opM (r.sides.take k2) := ⟨_, rfl⟩
        rw [← hxs] at hown2
        have HXS := Lib.hid hxs
        have HLN := Lib.hid (show xs.length + 1 ≤ 1000000 from by rw [HXS.out]; exact HBk.out)
        clear hxs
        have HT := Lib.hid (show xs ++ [clM] = markedL r from by rw [HXS.out, HQ.out, List.take_of_length_le (by omega : r.sides.length ≤ k2)])
        go_wp2_with (at_builtin; go_must (refine wpList_append_own _ rfl _ _ 35 rfl (w.heap.size + 1) 9 i0 (.string ⟨#[]⟩) 1 16 Tryd.underlying35 hi hz0 hz1 hz2 rfl (by decide) _ _ _ rfl (World.ownsRow.alloc hown2 _) ⟨wr.heap.size, 0, none⟩ 1 1 [strV clM] rfl rfl (cell_one_new _ _ _) (by simp [strV, Value.oneCell']) (by have := HLN.out; unfold maxLen; omega) (by have := HLN.out; omega) (by simp; omega) ?_); intro v' w1 hown' hgrow _)
        have hown3 := Owns.snoc hown'
        rw [HT.out] at hown3
        have hbel3 : Below w.heap.size w w1 := (bw.alloc bw.size _).grown hgrow (by simp; omega) (fun j hj => Nat.le_of_succ_le (World.ownsRow.lt hown2 j hj).1)
        go_ret
        exact ⟨_, rfl, hown3.strs, hbel3⟩
end Go.Proofs.YtbdekdhdkdjejaaDoor
namespace Go.Proofs.YtbdekdhdkdjejaaDoor
open Go.RowKit

theorem all_maxLen {rs : List Reg} (h : ∀ r ∈ rs, ∀ x ∈ allOf r, x.length ≤ 140737488351232) : ∀ r ∈ rs, ∀ x ∈ allOf r, x.length ≤ maxLen := fun r hr x hx => by
  have := h r hr x hx
  unfold maxLen
  omega

set_option maxRecDepth 100000 in
set_option maxHeartbeats 2000000 in
theorem ref_show_any (φ : Nat → Prop) (v : Value) (rs : List Reg) (w : World) (h : Regs φ w v rs) (hs : small rs) (hr : ∀ r ∈ rs, ∀ x ∈ allOf r, x.length ≤ maxLen) : Calls Tryd.prog 14 #[v] w (ShowOut rs w) := by
  obtain ⟨a, c, rfl⟩ := h.slice
  have hm := h.le
  unfold maxLen at hm
  have hcall := ref_check_any φ _ rs w h hr
  clear hr
  by_cases h0 : checkAll rs = 0
  · have HC0 := Lib.hid h0
    rw [h0] at hcall
    clear h0
    have HS := Lib.hid (hs.2 HC0.out)
    have HA := Lib.hid (check_all HC0.out)
    clear hs
    go_enter Tryd.func14, Tryd.ntmps14
    go_wp2_with fail
    refine hcall.mono ?_
    rintro e w0 ⟨rfl, hb0⟩
    go_wp2_with fail
    go_loopw [5, 6] (fun o i wr => ∃ k : Nat, i = .int .i64 k ∧ k ≤ rs.length ∧ Owns wr w.heap.size o (linesL (rs.take k)) ∧ Below w.heap.size w wr) (fun _ i _ => rs.length - (intOf i).toNat)
    case atStart =>
      refine ⟨0, rfl, by omega, ?_, hb0.alloc hb0.size _⟩
      have := owns_made w0
      exact ⟨rfl, by
        obtain ⟨_, h2⟩ := this
        rcases h2 with h2 | ⟨g, cap, cur, h3, hb', hr⟩
        · exact .inl h2
        · exact .inr ⟨g, cap, cur, h3, Nat.le_trans hb0.size hb', hr⟩⟩
    case round =>
      obtain ⟨k, rfl, hk, hown, hbel⟩ := hrel
      have hsz := hbel.size
      by_cases hlt : k < rs.length
      · obtain ⟨b, off, u1, u2, rfl, hbw, hc0w, hc1w, hc2w, hs1, hs2⟩ := h.elem hlt
        have hc0 := (hbel.cell (p := ⟨b, off + k * 3, none⟩) hbw).trans hc0w
        have hc1 := (hbel.cell (p := ⟨b, off + k * 3 + 1, none⟩) hbw).trans hc1w
        have hc2 := (hbel.cell (p := ⟨b, off + k * 3 + 2, none⟩) hbw).trans hc2w
        clear hc0w hc1w hc2w
        have hin : (k : Int) < (rs.length : Int) := by omega
        have HL := Lib.hid (show (linesL (rs.take k)).length + (markedL rs[k]).length ≤ 1000000 from by
          have h1 := lines_take_le rs (k + 1)
          have h2 := HS.out
          rw [lines_succ hlt, List.length_append] at h1
          omega)
        have HMK := Lib.hid (marked_any φ rs[k] u1 u2 wr (hs1.keeps (Keeps.of_below hbel)) (hs2.keeps (Keeps.of_below hbel)) (by have := HL.out; omega) (all_lines ((HA.out _ (List.getElem_mem hlt)).2)))
        obtain ⟨a1, c1, rfl⟩ := hs1.1.slice
        obtain ⟨a2, c2, rfl⟩ := hs2.slice
        go_wp2_with fail
        refine HMK.out.mono ?_
        rintro e w2 ⟨v2, rfl, hv2, hb2⟩
        have bw2 := hbel.trans (hb2.mono hsz)
        obtain ⟨v3, w3, hr3, ho3, hb3⟩ := run_append_strs w.heap.size _ v2 _ _ w2 (hown.keep hb2) hv2 HL.out bw2.size
        have HR := Lib.hid hr3
        clear hr3
        go_wp2_with (at_builtin; go_must (refine wpList_append_ran rfl _ _ 35 35 rfl HR.out ?_))
        go_roundw
        case rel => exact ⟨k + 1, by go_num, by omega, by rw [lines_succ hlt]; exact ho3, bw2.trans hb3⟩
        case measure => simp [intOf]; omega
      · have hlt' : ¬ ((k : Int) < (rs.length : Int)) := by omega
        rw [List.take_of_length_le (by omega)] at hown
        obtain ⟨a4, c4, rfl⟩ := hown.strs.slice
        have hj := ref_join_any a4 c4 (linesL rs) wr hown.strs
        unfold JoinOut at hj
        by_cases hj0 : (joinL (linesL rs)).2 = 0
        · have HE := Lib.hid (show showL rs = ((joinL (linesL rs)).1, 0) from by unfold showL; rw [if_pos HC0.out, if_pos hj0])
          rw [hj0] at hj
          clear hj0
          go_wp2_with fail
          refine hj.mono ?_
          rintro e w2 ⟨rfl, hb2⟩
          go_wp2
          go_ret2
          exact showOut (n := 0) HE.out (hbel.trans (hb2.mono hsz))
        · have HE := Lib.hid (show showL rs = ([], 4) from by unfold showL; rw [if_pos HC0.out, if_neg hj0])
          have hne := err_ne _ hj0
          clear hj0
          go_wp2_with fail
          refine hj.mono ?_
          rintro e w2 ⟨rfl, hb2⟩
          go_wp2
          go_ret2
          exact showOut (n := 4) HE.out (hbel.trans (hb2.mono hsz))
  · have hne := err_ne _ h0
    have HE := Lib.hid (show showL rs = ([], checkAll rs) from by unfold showL; rw [if_neg h0])
    clear h0
    go_enter Tryd.func14, Tryd.ntmps14
    go_wp2_with fail
    refine hcall.mono ?_
    rintro e w0 ⟨rfl, hb0⟩
    go_wp2
    go_ret2
    exact showOut HE.out hb0

def hasConf (rs : List Reg) : Bool := rs.any fun r => r.conf
def cleanR (rs : List Reg) : Bool := decide (checkAll rs = 0) && !hasConf rs
theorem hasConf_hit {rs : List Reg} {k : Nat} (hk : k < rs.length) (h : rs[k].conf = true) : hasConf rs = true := by
  unfold hasConf
  rw [List.any_eq_true]
  exact ⟨_, List.getElem_mem hk, h⟩
theorem hasConf_miss {rs : List Reg} (h : ∀ j (hj : j < rs.length), rs[j].conf = false) : hasConf rs = false := by
  unfold hasConf
  rw [List.any_eq_false]
  intro x hx
  obtain ⟨j, hj, rfl⟩ := List.getElem_of_mem hx
  rw [h j hj]; decide
theorem conf_step {rs : List Reg} {k : Nat} (h : ∀ j (hj : j < rs.length), j < k → rs[j].conf = false) (hk : k < rs.length) (he : rs[k].conf = false) : ∀ j (hj : j < rs.length), j < k + 1 → rs[j].conf = false := by
  intro j hj hjk
  by_cases e : j = k
  · subst e; exact he
  · exact h j hj (by omega)

set_option maxHeartbeats 1000000 in
theorem ref_clean_any (φ : Nat → Prop) (v : Value) (rs : List Reg) (w : World) (h : Regs φ w v rs) (hr : ∀ r ∈ rs, ∀ x ∈ allOf r, x.length ≤ maxLen) :
    Calls Tryd.prog 18 #[v] w fun e w' => e = .returned (.bool (cleanR rs)) ∧ Below w.heap.size w w' := by
  obtain ⟨a, c, rfl⟩ := h.slice
  have hm := h.le
  unfold maxLen at hm
  have HC := Lib.hid (fun q => ref_check_any φ _ rs (w.drewN q) (h.keeps (Keeps.of_below (below_drewN (Below.refl _ _) q))) hr)
  clear hr
  go_enter Tryd.func18, Tryd.ntmps18
  go_wp2
  go_loopw [3] (fun i wr => ∃ k q : Nat, i = .int .i64 k ∧ k ≤ rs.length ∧ wr = w.drewN q ∧ ∀ j (hj : j < rs.length), j < k → rs[j].conf = false) (fun i _ => rs.length - (intOf i).toNat)
  case atStart => exact ⟨0, 0, rfl, by omega, rfl, by omega⟩
  case round =>
    obtain ⟨k, q, rfl, hk, rfl, hp⟩ := hrel
    have HP := Lib.hid hp
    clear hp
    by_cases hlt : k < rs.length
    · obtain ⟨b, off, u1, u2, rfl, hbw, hc0, hc1, hc2, hs1, hs2⟩ := h.elem hlt
      have hin : (k : Int) < (rs.length : Int) := by omega
      clear hc1 hc2
      cases hc : rs[k].conf
      · have HN := Lib.hid (conf_step HP.out hlt hc)
        rw [hc] at hc0
        go_wp2
        go_roundw
        case rel => exact ⟨k + 1, _, by go_num, by omega, rfl, HN.out⟩
        case measure => simp [intOf]; omega
      · have HE := Lib.hid (show cleanR rs = false from by unfold cleanR; rw [hasConf_hit hlt hc]; simp)
        rw [hc] at hc0
        go_wp2
        go_ret
        exact ⟨ret_bool (by rw [HE.out]), below_drewN (Below.refl _ _) _⟩
    · have HN := Lib.hid (hasConf_miss (fun j hj => HP.out j hj (by omega)))
      have HE := Lib.hid (show decide (checkAll rs = 0) = cleanR rs from by unfold cleanR; rw [HN.out]; simp)
      have HB := Lib.hid (err_bool (checkAll rs))
      go_wp2_with fail
      refine (HC.out _).mono ?_
      rintro e w1 ⟨rfl, hb1⟩
      go_wp2
      go_ret
      exact ⟨ret_bool (by rw [← HE.out, HB.out]), (below_drewN (Below.refl _ _) q).trans hb1⟩
end Go.Proofs.YtbdekdhdkdjejaaDoor
