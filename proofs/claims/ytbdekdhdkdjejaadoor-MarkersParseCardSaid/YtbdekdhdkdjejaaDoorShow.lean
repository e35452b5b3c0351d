/- markers.Show. markers.Show: the walk. -/
import Derived.Test.YtbdekdhdkdjejaaDoorCheck
import Derived.Test.YtbdekdhdkdjejaaDoorQuoted
namespace Go.Proofs.YtbdekdhdkdjejaaDoor
open Go.RowKit

/-- The lines of a region's sides; the first marker is m. -/
def sidesL : List UInt8 → List (List (List UInt8)) → List (List UInt8)
  | _, [] => []
  | m, x :: r => m :: (quotedL x ++ sidesL seM r)
def markedL (r : Reg) : List (List UInt8) := if r.conf then sidesL opM r.sides ++ [clM] else quotedL r.lines
def linesL (rs : List Reg) : List (List UInt8) := rs.flatMap markedL
def showL (rs : List Reg) : List UInt8 × Nat := if checkAll rs = 0 then (if (joinL (linesL rs)).2 = 0 then ((joinL (linesL rs)).1, 0) else ([], 4)) else ([], checkAll rs)

theorem sides_snoc (m : List UInt8) (a : List (List (List UInt8))) (x : List (List UInt8)) : sidesL m (a ++ [x]) = sidesL m a ++ ((if a.isEmpty then m else seM) :: quotedL x) := by
  induction a generalizing m with
  | nil => simp [sidesL]
  | cons y r ih =>
    simp only [List.cons_append, sidesL, ih, List.isEmpty_cons]
    cases r <;> simp
theorem sides_succ {xss : List (List (List UInt8))} {k : Nat} (h : k < xss.length) : sidesL opM (xss.take (k + 1)) = (sidesL opM (xss.take k) ++ [if k = 0 then opM else seM]) ++ quotedL xss[k] := by
  rw [List.take_succ_eq_append_getElem h, sides_snoc]
  cases k with
  | zero => simp
  | succ k =>
    cases xss with
    | nil => simp at h
    | cons y r => simp
theorem lines_succ {rs : List Reg} {k : Nat} (h : k < rs.length) : linesL (rs.take (k + 1)) = linesL (rs.take k) ++ markedL rs[k] := by
  unfold linesL
  rw [List.take_succ_eq_append_getElem h, List.flatMap_append]
  simp

/-- What the check of regions says of each. -/
theorem check_all {p : Bool} {rs : List Reg} (h : checkL p rs = 0) : ∀ r ∈ rs, shapeL r = true ∧ joinErr (allOf r) = 0 := by
  induction rs generalizing p with
  | nil => intro r hr; cases hr
  | cons x t ih =>
    rw [checkL] at h
    split at h
    · rename_i h0
      intro r hr
      rcases List.mem_cons.1 hr with rfl | hr
      · unfold regErr at h0
        split at h0
        · split at h0
          · omega
          · exact ⟨by assumption, h0⟩
        · omega
      · exact ih h r hr
    · rename_i h0
      exact absurd h h0
theorem joinErr_good {xs : List (List UInt8)} (h : joinErr xs = 0) : ∀ x ∈ xs, x.length ≤ 1000 := by
  induction xs with
  | nil => intro x hx; cases hx
  | cons y t ih =>
    rw [joinErr] at h
    split at h
    · omega
    · split at h
      · intro x hx
        rcases List.mem_cons.1 hx with rfl | hx
        · omega
        · exact ih h x hx
      · omega
theorem sides_len (m : List UInt8) (xss : List (List (List UInt8))) : (sidesL m xss).length = xss.length + xss.flatten.length := by
  induction xss generalizing m with
  | nil => rfl
  | cons x r ih =>
    simp only [sidesL, List.length_cons, List.length_append, quoted_len, ih, List.flatten_cons]
    omega

/-- How many lines there are at most. -/
def small (rs : List Reg) : Prop := (∀ r ∈ rs, (allOf r).length ≤ 1000000) ∧ (checkAll rs = 0 → (linesL rs).length ≤ 1000000)
def ShowOut (rs : List Reg) (w : World) (e : Ending) (w' : World) : Prop :=
  e = .returned (.tuple #[.string (B (showL rs).1), .int .i64 ((showL rs).2 : Nat)]) ∧ Below w.heap.size w w'
theorem lines_take_le (rs : List Reg) (k : Nat) : (linesL (rs.take k)).length ≤ (linesL rs).length := by
  have : linesL rs = linesL (rs.take k) ++ linesL (rs.drop k) := by
    unfold linesL
    rw [← List.flatMap_append, List.take_append_drop]
  rw [this, List.length_append]; omega
theorem showOut {rs : List Reg} {w w' : World} {s : List UInt8} {n : Nat} (h : showL rs = (s, n)) (hb : Below w.heap.size w w') : ShowOut rs w (.returned (.tuple #[.string (B s), .int .i64 (n : Nat)])) w' := by
  unfold ShowOut
  rw [h]
  exact ⟨rfl, hb⟩
theorem sides_take_len (xss : List (List (List UInt8))) (k : Nat) : (sidesL opM (xss.take k)).length ≤ (sidesL opM xss).length := by
  rw [sides_len, sides_len]
  have h1 := flat_take_le xss k
  have h2 : (xss.take k).length ≤ xss.length := by rw [List.length_take]; omega
  omega
end Go.Proofs.YtbdekdhdkdjejaaDoor
namespace Go.Proofs.YtbdekdhdkdjejaaDoor
open Go.RowKit

theorem Owns.keep {w w' : World} {base : Nat} {v : Value} {xs : List (List UInt8)} (h : Owns w base v xs) (hb : Below w.heap.size w w') : Owns w' base v xs := by
  obtain ⟨h1, h2⟩ := h
  refine ⟨h1, ?_⟩
  rcases h2 with h2 | ⟨g, cap, cur, rfl, hb', hg, hr⟩
  · exact .inl h2
  · exact .inr ⟨g, cap, cur, rfl, hb', (hb.block g (Array.getElem?_eq_some_iff.1 hg).1).trans hg, hr⟩
theorem Owns.snoc {w : World} {base : Nat} {v : Value} {xs : List (List UInt8)} {x : List UInt8} (h : w.ownsRow base 9 1 v (xs.length + 1) (xs.map strV ++ [strV x])) : Owns w base v (xs ++ [x]) := by
  unfold Owns
  rw [List.length_append, List.map_append]
  exact h
theorem all_lines {r : Reg} (h : joinErr (allOf r) = 0) : (∀ x ∈ r.lines, x.length ≤ 1000000) ∧ ∀ s ∈ r.sides, ∀ x ∈ s, x.length ≤ 1000000 := by
  have h1 := joinErr_good h
  unfold allOf at h1
  refine ⟨fun x hx => ?_, fun s hs x hx => ?_⟩
  · have := h1 x (by simp [hx]); omega
  · have := h1 x (by simp; exact .inr ⟨s, hs, hx⟩); omega
theorem marked_plain {r : Reg} (h : r.conf = false) : markedL r = quotedL r.lines := by unfold markedL; rw [h]; rfl
theorem marked_conf {r : Reg} (h : r.conf = true) : markedL r = sidesL opM r.sides ++ [clM] := by unfold markedL; rw [h]; rfl

set_option maxRecDepth 100000 in
set_option maxHeartbeats 2000000 in
theorem show_any (φ : Nat → Prop) (v : Value) (rs : List Reg) (w : World) (h : Regs φ w v rs) (hs : small rs) : Calls Tryd.prog 13 #[v] w (ShowOut rs w) := by
  obtain ⟨a, c, rfl⟩ := h.slice
  have hm := h.le
  unfold maxLen at hm
  obtain ⟨i0, hi, hz0, hz1, hz2⟩ := info_parts Tryd.info9
  by_cases h0 : checkAll rs = 0
  · have HC0 := Lib.hid h0
    have hcall := check_any φ _ rs w h hs.1
    rw [h0] at hcall
    clear h0
    have HS := Lib.hid (hs.2 HC0.out)
    have HA := Lib.hid (check_all HC0.out)
    clear hs
    go_enter Tryd.func13, Tryd.ntmps13
    go_wp2_with fail
    refine hcall.mono ?_
    rintro e w0 ⟨rfl, hb0⟩
    go_wp2_with fail
    go_loopw [5, 7, 8, 9, 10, 20] (fun o _ _ _ _ i wr => ∃ k : Nat, i = .int .i64 k ∧ k ≤ rs.length ∧ Owns wr w.heap.size o (linesL (rs.take k)) ∧ Below w.heap.size w wr) (fun _ _ _ _ _ i _ => rs.length - (intOf i).toNat)
    case atStart => exact ⟨0, rfl, by omega, Owns.nil _ _, hb0⟩
    case round =>
      obtain ⟨k, rfl, hk, hown, hbel⟩ := hrel
      have hsz := hbel.size
      by_cases hlt : k < rs.length
      · obtain ⟨b, off, u1, u2, rfl, hbw, hc0w, hc1w, hc2w, hs1, hs2⟩ := h.elem hlt
        have hc0 := (hbel.cell (p := ⟨b, off + k * 3, none⟩) hbw).trans hc0w
        have hc1 := (hbel.cell (p := ⟨b, off + k * 3 + 1, none⟩) hbw).trans hc1w
        have hc2 := (hbel.cell (p := ⟨b, off + k * 3 + 2, none⟩) hbw).trans hc2w
        clear hc0w hc1w hc2w
        have hb : b < wr.heap.size := by omega
        obtain ⟨a1, c1, rfl⟩ := hs1.1.slice
        obtain ⟨a2, c2, rfl⟩ := hs2.slice
        have hin : (k : Int) < (rs.length : Int) := by omega
        have HM := Lib.hid (all_lines ((HA.out _ (List.getElem_mem hlt)).2))
        have HL := Lib.hid (show (linesL (rs.take k)).length + (markedL rs[k]).length ≤ 1000000 from by
          have h1 := lines_take_le rs (k + 1)
          have h2 := HS.out
          rw [lines_succ hlt, List.length_append] at h1
          omega)
        have hA := fun o => (Below.refl wr.heap.size wr).alloc (Nat.le_refl _) o
        cases hc : rs[k].conf
        · have HQ := Lib.hid (marked_plain hc)
          rw [hc] at hc0
          have hcall := fun w' (hk' : Below wr.heap.size wr w') => quoted_any _ rs[k].lines w' (hs1.1.below (hbel.trans (hk'.mono hsz))) (by have := HL.out; rw [HQ.out, quoted_len] at this; omega) HM.out.1
          have HCC := Lib.hid hcall
          clear hcall
          go_wp2_with fail
          refine (HCC.out _ (hA _)).mono ?_
          rintro e w2 ⟨v2, rfl, hv2, hb2⟩
          have bW : Below wr.heap.size wr w2 := (hA _).trans (hb2.mono (by simp))
          have bw2 := hbel.trans (bW.mono hsz)
          obtain ⟨v3, w3, hr3, ho3, hb3⟩ := run_append_strs w.heap.size _ v2 _ _ w2 (hown.keep bW) hv2 (by have := HL.out; rw [HQ.out] at this; exact this) bw2.size
          have HR := Lib.hid hr3
          clear hr3
          go_wp2_with (at_builtin; go_must (refine wpList_append_ran rfl _ _ 35 35 rfl HR.out ?_))
          go_roundw
          case rel => exact ⟨k + 1, by go_num, by omega, by rw [lines_succ hlt, HQ.out]; exact ho3, bw2.trans hb3⟩
          case measure => simp [intOf]; omega
        · have HQ := Lib.hid (marked_conf hc)
          rw [hc] at hc0
          have bA := fun o => hbel.trans ((hA o).mono hsz)
          have BA := Lib.hid bA
          clear bA hA
          have hml := hs2.le
          unfold maxLen at hml
          have HB := Lib.hid (show ∀ j, (linesL (rs.take k)).length + (sidesL opM (rs[k].sides.take j)).length + 1 ≤ 1000000 from fun j => by
            have := HL.out
            rw [HQ.out, List.length_append, List.length_singleton] at this
            have := sides_take_len rs[k].sides j
            omega)
          go_wp2_with fail
          go_loopw [5, 8, 9, 10, 35] (fun o _ _ _ j wr2 => ∃ k2 : Nat, j = .int .i64 k2 ∧ k2 ≤ rs[k].sides.length ∧ Owns wr2 w.heap.size o (linesL (rs.take k) ++ sidesL opM (rs[k].sides.take k2)) ∧ Below w.heap.size w wr2) (fun _ _ _ _ j _ => rs[k].sides.length - (intOf j).toNat)
          case atStart => exact ⟨0, rfl, by omega, by rw [List.take_zero, sidesL, List.append_nil]; exact World.ownsRow.alloc hown _, BA.out _⟩
          case round =>
            obtain ⟨k2, rfl, hk2, hown2, hbel2⟩ := hrel
            have hsz2 := hbel2.size
            have HBk := Lib.hid (HB.out k2)
            by_cases hlt2 : k2 < rs[k].sides.length
            · obtain ⟨b2, off2, u, rfl, hb2w, hcell2w, hu, _⟩ := hs2.elem hlt2
              have hcell2 := (hbel2.cell (p := ⟨b2, off2 + k2, none⟩) hb2w).trans hcell2w
              clear hcell2w
              have hin2 : (k2 : Int) < (rs[k].sides.length : Int) := by omega
              have HB1 := Lib.hid (HB.out (k2 + 1))
              have HSS := Lib.hid (sides_succ hlt2)
              have HX := Lib.hid (show ∀ w', Below w.heap.size w w' → Calls Tryd.prog 30 #[u] w' fun e w'' => ∃ v', e = .returned v' ∧ Strs w'' v' (quotedL rs[k].sides[k2]) ∧ Below w'.heap.size w' w'' from fun w' hk' => quoted_any u rs[k].sides[k2] w' (hu.below hk') (by
                have := HB1.out
                rw [HSS.out, List.length_append, quoted_len] at this
                omega) (HM.out.2 _ (List.getElem_mem hlt2)))
              obtain ⟨a3, n3, c3, rfl⟩ := hu.slice3
              obtain ⟨xs, hxs⟩ : ∃ xs, xs = linesL (rs.take k) ++ sidesL opM (rs[k].sides.take k2) := ⟨_, rfl⟩
              rw [← hxs] at hown2
              have HXS := Lib.hid hxs
              have HLN := Lib.hid (show xs.length + 1 ≤ 1000000 from by rw [HXS.out, List.length_append]; exact HBk.out)
              clear hxs
              by_cases hk0 : k2 = 0
              · have hz : ((k2 : Int) == 0) = true := by rw [hk0]; rfl
                have HS3 := Lib.hid (show (xs ++ [opM]) ++ quotedL rs[k].sides[k2] = linesL (rs.take k) ++ sidesL opM (rs[k].sides.take (k2 + 1)) from by rw [HSS.out, HXS.out]; simp [hk0])
                clear hk0
                go_wp2_with (at_builtin; go_must (refine wpList_append_own _ rfl _ _ 35 rfl (w.heap.size) 9 i0 (.string ⟨#[]⟩) 1 16 Tryd.underlying35 hi hz0 hz1 hz2 rfl (by decide) _ _ _ rfl (World.ownsRow.alloc hown2 _) ⟨wr.heap.size, 0, none⟩ 1 1 [strV opM] rfl rfl (cell_one_new _ _ _) (by simp [strV, Value.oneCell']) (by have := HLN.out; unfold maxLen; omega) (by have := HLN.out; omega) (by simp; omega) ?_); intro v' w1 hown' hgrow _)
                have hown3 := Owns.snoc hown'
                have hbel3 : Below w.heap.size w w1 := (hbel2.alloc hsz2 _).grown hgrow (by simp; omega) (fun j hj => (World.ownsRow.lt hown2 j hj).1)
                refine (HX.out _ hbel3).mono ?_
                rintro e w2 ⟨v2, rfl, hv2, hb2'⟩
                have bw2 := hbel3.trans (hb2'.mono hbel3.size)
                obtain ⟨v3, w3, hr3, ho3, hb3⟩ := run_append_strs w.heap.size _ v2 _ _ w2 (hown3.keep hb2') hv2 (by rw [← List.length_append, HS3.out, List.length_append]; have := HB1.out; omega) bw2.size
                have HR := Lib.hid hr3
                clear hr3
                go_wp2_with (at_builtin; go_must (refine wpList_append_ran rfl _ _ 35 35 rfl HR.out ?_))
                rw [HS3.out] at ho3
                go_roundw
                case rel => first | exact ⟨k2 + 1, by go_num, by omega, ho3, bw2.trans hb3⟩ | ((repeat apply Exists.intro); exact ⟨⟨k2 + 1, by go_num, by omega, ho3, bw2.trans hb3⟩, rfl⟩)
                case measure => simp [intOf]; omega
              · have hz : ((k2 : Int) == 0) = false := by simp; omega
                have HS3 := Lib.hid (show (xs ++ [seM]) ++ quotedL rs[k].sides[k2] = linesL (rs.take k) ++ sidesL opM (rs[k].sides.take (k2 + 1)) from by rw [HSS.out, HXS.out]; simp [hk0])
                clear hk0
                go_wp2_with (at_builtin; go_must (refine wpList_append_own _ rfl _ _ 35 rfl (w.heap.size) 9 i0 (.string ⟨#[]⟩) 1 16 Tryd.underlying35 hi hz0 hz1 hz2 rfl (by decide) _ _ _ rfl (World.ownsRow.alloc hown2 _) ⟨wr.heap.size, 0, none⟩ 1 1 [strV seM] rfl rfl (cell_one_new _ _ _) (by simp [strV, Value.oneCell']) (by have := HLN.out; unfold maxLen; omega) (by have := HLN.out; omega) (by simp; omega) ?_); intro v' w1 hown' hgrow _)
                have hown3 := Owns.snoc hown'
                have hbel3 : Below w.heap.size w w1 := (hbel2.alloc hsz2 _).grown hgrow (by simp; omega) (fun j hj => (World.ownsRow.lt hown2 j hj).1)
                refine (HX.out _ hbel3).mono ?_
                rintro e w2 ⟨v2, rfl, hv2, hb2'⟩
                have bw2 := hbel3.trans (hb2'.mono hbel3.size)
                obtain ⟨v3, w3, hr3, ho3, hb3⟩ := run_append_strs w.heap.size _ v2 _ _ w2 (hown3.keep hb2') hv2 (by rw [← List.length_append, HS3.out, List.length_append]; have := HB1.out; omega) bw2.size
                have HR := Lib.hid hr3
                clear hr3
                go_wp2_with (at_builtin; go_must (refine wpList_append_ran rfl _ _ 35 35 rfl HR.out ?_))
                rw [HS3.out] at ho3
                go_roundw
                case rel => first | exact ⟨k2 + 1, by go_num, by omega, ho3, bw2.trans hb3⟩ | ((repeat apply Exists.intro); exact ⟨⟨k2 + 1, by go_num, by omega, ho3, bw2.trans hb3⟩, rfl⟩)
                case measure => simp [intOf]; omega
            · have hlt2' : ¬ ((k2 : Int) < (rs[k].sides.length : Int)) := by omega
              obtain ⟨xs, hxs⟩ : ∃ xs, xs = linesL (rs.take k) ++ sidesL opM (rs[k].sides.take k2) := ⟨_, rfl⟩
              rw [← hxs] at hown2
              have HXS := Lib.hid hxs
              have HLN := Lib.hid (show xs.length + 1 ≤ 1000000 from by rw [HXS.out, List.length_append]; exact HBk.out)
              clear hxs
              have HT := Lib.hid (show xs ++ [clM] = linesL (rs.take (k + 1)) from by rw [HXS.out, lines_succ hlt, HQ.out, List.take_of_length_le (by omega : rs[k].sides.length ≤ k2), List.append_assoc])
              go_wp2_with (at_builtin; go_must (refine wpList_append_own _ rfl _ _ 35 rfl (w.heap.size) 9 i0 (.string ⟨#[]⟩) 1 16 Tryd.underlying35 hi hz0 hz1 hz2 rfl (by decide) _ _ _ rfl (World.ownsRow.alloc hown2 _) ⟨wr.heap.size, 0, none⟩ 1 1 [strV clM] rfl rfl (cell_one_new _ _ _) (by simp [strV, Value.oneCell']) (by have := HLN.out; unfold maxLen; omega) (by have := HLN.out; omega) (by simp; omega) ?_); intro v' w1 hown' hgrow _)
              have hown3 := Owns.snoc hown'
              rw [HT.out] at hown3
              have hbel3 : Below w.heap.size w w1 := (hbel2.alloc hsz2 _).grown hgrow (by simp; omega) (fun j hj => (World.ownsRow.lt hown2 j hj).1)
              go_roundw
              case rel => first | exact ⟨k + 1, by go_num, by omega, hown3, hbel3⟩ | ((repeat apply Exists.intro); exact ⟨⟨k + 1, by go_num, by omega, hown3, hbel3⟩, rfl⟩)
              case measure => simp [intOf]; omega
      · have hlt' : ¬ ((k : Int) < (rs.length : Int)) := by omega
        rw [List.take_of_length_le (by omega)] at hown
        obtain ⟨a4, c4, rfl⟩ := hown.strs.slice
        have hj := join_any a4 c4 (linesL rs) wr hown.strs
        unfold JoinOut at hj
        by_cases hj0 : (joinL (linesL rs)).2 = 0
        · have HE := Lib.hid (show showL rs = ((joinL (linesL rs)).1, 0) from by unfold showL; rw [if_pos HC0.out, if_pos hj0])
          rw [hj0] at hj
          clear hj0
          go_wp2_with fail
          refine hj.mono ?_
          rintro e w2 ⟨rfl, hb2⟩
          go_wp2
          go_ret2
          exact showOut (n := 0) HE.out (hbel.trans (hb2.mono hsz))
        · have HE := Lib.hid (show showL rs = ([], 4) from by unfold showL; rw [if_pos HC0.out, if_neg hj0])
          have hne := err_ne _ hj0
          clear hj0
          go_wp2_with fail
          refine hj.mono ?_
          rintro e w2 ⟨rfl, hb2⟩
          go_wp2
          go_ret2
          exact showOut (n := 4) HE.out (hbel.trans (hb2.mono hsz))
  · have hcall := check_any φ _ rs w h hs.1
    have hne := err_ne _ h0
    have HE := Lib.hid (show showL rs = ([], checkAll rs) from by unfold showL; rw [if_neg h0])
    clear h0
    go_enter Tryd.func13, Tryd.ntmps13
    go_wp2_with fail
    refine hcall.mono ?_
    rintro e w0 ⟨rfl, hb0⟩
    go_wp2
    go_ret2
    exact showOut HE.out hb0
end Go.Proofs.YtbdekdhdkdjejaaDoor
