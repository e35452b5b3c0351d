/- quiltref22.shape and Check. quiltref22.Check. -/
import Derived.Test.YtbdekdhdkdjejaaDoorErrs
import Derived.Test.YtbdekdhdkdjejaaDoorCheck
namespace Go.Proofs.YtbdekdhdkdjejaaDoor
open Go.RowKit

theorem anyEmpty_step {xss : List (List (List UInt8))} {k : Nat} (h : ∀ j (hj : j < xss.length), j < k → xss[j].isEmpty = false) (hk : k < xss.length) (he : xss[k].isEmpty = false) : ∀ j (hj : j < xss.length), j < k + 1 → xss[j].isEmpty = false := by
  intro j hj hjk
  by_cases e : j = k
  · subst e; exact he
  · exact h j hj (by omega)

set_option linter.unusedSimpArgs false
set_option maxHeartbeats 1000000 in
theorem shape_any (φ : Nat → Prop) (r : Reg) (v1 v2 : Value) (w : World) (h1 : StrsIn φ w v1 r.lines) (h2 : Strss φ w v2 r.sides) :
    Calls Tryd.prog 37 #[.agg #[.bool r.conf, v1, v2]] w fun e w' => e = .returned (.bool (shapeL r)) ∧ Below w.heap.size w w' := by
  obtain ⟨a1, c1, rfl⟩ := h1.1.slice
  obtain ⟨a2, c2, rfl⟩ := h2.slice
  have hm := h2.le
  unfold maxLen at hm
  have b0 := fun o => (Below.refl w.heap.size w).alloc (Nat.le_refl _) o
  have z1 := zero_dec r.lines
  have z2 := zero_dec r.sides
  cases hc : r.conf
  · cases hl : r.lines.isEmpty <;> cases hs : r.sides.isEmpty <;> (rw [hl] at z1; rw [hs] at z2) <;>
    (have HE := Lib.hid (show shapeL r = _ from by unfold shapeL; rw [hc, hl, hs])
     first | have n1 := len_zero hl | have n1 := len_pos hl
     first | have n2 := len_zero hs | have n2 := len_pos hs
     clear hl hs
     go_enter Tryd.func37, Tryd.ntmps37
     go_wp2
     go_ret
     exact ⟨ret_bool (by rw [HE.out]; rfl), b0 _⟩)
  · go_enter Tryd.func37, Tryd.ntmps37
    go_wp2
    go_loopw [3] (fun i wr => ∃ k q : Nat, i = .int .i64 k ∧ k ≤ r.sides.length ∧ wr = (w.alloc (.cells #[.bool true, .slice a1 r.lines.length c1, .slice a2 r.sides.length c2] 41)).drewN q ∧ ∀ j (hj : j < r.sides.length), j < k → r.sides[j].isEmpty = false) (fun i _ => r.sides.length - (intOf i).toNat)
    case atStart => exact ⟨0, 0, rfl, by omega, rfl, by omega⟩
    case round =>
      obtain ⟨k, q, rfl, hk, rfl, hp⟩ := hrel
      have HP := Lib.hid hp
      clear hp
      by_cases hlt : k < r.sides.length
      · obtain ⟨b, off, u, rfl, hb, hcell, hu, _⟩ := h2.elem hlt
        obtain ⟨a3, c3, rfl⟩ := hu.slice
        have hne : w.heap.size ≠ b := by omega
        have hin : (k : Int) < (r.sides.length : Int) := by omega
        have z3 := zero_dec r.sides[k]
        cases he : r.sides[k].isEmpty
        · have HG := Lib.hid (anyEmpty_step HP.out hlt he)
          rw [he] at z3
          clear he
          go_wp2
          go_roundw
          case rel => exact ⟨k + 1, _, by go_num, by omega, rfl, HG.out⟩
          case measure => simp [intOf]; omega
        · have HE := Lib.hid (show shapeL r = false from by unfold shapeL; rw [hc, emptyIn_hit hlt he]; simp)
          rw [he] at z3
          clear he
          go_wp2
          go_ret
          exact ⟨ret_bool (by rw [HE.out]), below_drewN (b0 _) _⟩
      · have HN := Lib.hid (emptyIn_miss (fun j hj => HP.out j hj (by omega)))
        have hlt' : ¬ ((k : Int) < (r.sides.length : Int)) := by omega
        cases hl : r.lines.isEmpty <;> cases hs : r.sides.isEmpty <;> (rw [hl] at z1; rw [hs] at z2) <;>
        (have HE := Lib.hid (show shapeL r = _ from by unfold shapeL; rw [hc, hl, hs, HN.out])
         first | have n1 := len_zero hl | have n1 := len_pos hl
         first | have n2 := len_zero hs | have n2 := len_pos hs
         clear hl hs
         go_wp2
         go_ret
         exact ⟨ret_bool (by rw [HE.out]; rfl), below_drewN (b0 _) _⟩)
end Go.Proofs.YtbdekdhdkdjejaaDoor
namespace Go.Proofs.YtbdekdhdkdjejaaDoor
open Go.RowKit

theorem joinErr_append (a b : List (List UInt8)) : joinErr (a ++ b) = if joinErr a = 0 then joinErr b else joinErr a := by
  induction a with
  | nil => simp [joinErr]
  | cons x r ih =>
    rw [List.cons_append, joinErr, joinErr]
    split
    · rw [if_neg (by omega)]
    · split
      · exact ih
      · rw [if_neg (by omega)]
theorem sides_next {r : Reg} {k : Nat} (hk : k < r.sides.length) (h : joinErr (allOf r) = joinErr (r.sides.drop k).flatten) (h0 : joinErr r.sides[k] = 0) : joinErr (allOf r) = joinErr (r.sides.drop (k + 1)).flatten := by
  rw [h, List.drop_eq_getElem_cons hk, List.flatten_cons, joinErr_append, if_pos h0]
theorem sides_stop {r : Reg} {k : Nat} (hk : k < r.sides.length) (h : joinErr (allOf r) = joinErr (r.sides.drop k).flatten) (h0 : joinErr r.sides[k] ≠ 0) : joinErr (allOf r) = joinErr r.sides[k] := by
  rw [h, List.drop_eq_getElem_cons hk, List.flatten_cons, joinErr_append, if_neg h0]
theorem sides_end {r : Reg} {k : Nat} (hk : r.sides.length ≤ k) (h : joinErr (allOf r) = joinErr (r.sides.drop k).flatten) : joinErr (allOf r) = 0 := by
  rw [h, List.drop_eq_nil_of_le hk]; rfl
theorem lines_ok {r : Reg} (h : joinErr r.lines = 0) : joinErr (allOf r) = joinErr (r.sides.drop 0).flatten := by
  unfold allOf
  rw [joinErr_append, if_pos h]; rfl
theorem lines_bad {r : Reg} (h : joinErr r.lines ≠ 0) : joinErr (allOf r) = joinErr r.lines := by
  unfold allOf
  rw [joinErr_append, if_neg h]

set_option maxRecDepth 100000 in
set_option maxHeartbeats 2000000 in
theorem ref_check_any (φ : Nat → Prop) (v : Value) (rs : List Reg) (w : World) (h : Regs φ w v rs) (hs : ∀ r ∈ rs, ∀ x ∈ allOf r, x.length ≤ maxLen) :
    Calls Tryd.prog 16 #[v] w fun e w' => e = .returned (.int .i64 (checkAll rs : Nat)) ∧ Below w.heap.size w w' := by
  obtain ⟨a, c, rfl⟩ := h.slice
  have hm := h.le
  unfold maxLen at hm
  have HS := Lib.hid hs
  clear hs
  go_enter Tryd.func16, Tryd.ntmps16
  go_wp2
  go_loopw [3, 4, 5, 6] (fun i _ _ _ wr => ∃ k : Nat, i = .int .i64 k ∧ k ≤ rs.length ∧ Below w.heap.size w wr ∧ checkAll rs = checkL (prevAt rs k) (rs.drop k)) (fun i _ _ _ _ => rs.length - (intOf i).toNat)
  case atStart => exact ⟨0, rfl, by omega, Below.refl _ _, rfl⟩
  case round =>
    obtain ⟨k, rfl, hk, hbel, hp⟩ := hrel
    have HP := Lib.hid hp
    have hsz := hbel.size
    clear hp
    by_cases hlt : k < rs.length
    · have hR := h.keeps (Keeps.of_below hbel)
      obtain ⟨b, off, u1, u2, rfl, hb, hc0, hc1, hc2, hs1, hs2⟩ := hR.elem hlt
      obtain ⟨a1, c1, rfl⟩ := hs1.1.slice
      obtain ⟨a2, c2, rfl⟩ := hs2.slice
      have hml := hs2.le
      unfold maxLen at hml
      have hin : (k : Int) < (rs.length : Int) := by omega
      have HC : ∀ (bc : Bool), rs[k].conf = bc → Calls Tryd.prog 37 #[.agg #[.bool bc, .slice a1 rs[k].lines.length c1, .slice a2 rs[k].sides.length c2]] wr fun e w'' => e = .returned (.bool (shapeL rs[k])) ∧ Below wr.heap.size wr w'' := fun bc e => by
        have := shape_any φ rs[k] _ _ wr hs1 hs2
        rwa [e] at this
      cases hsh : shapeL rs[k]
      · have HE := Lib.hid (check_stop hlt HP.out (by unfold regErr; rw [hsh]; simp))
        have HE2 := Lib.hid (show regErr (prevAt rs k) rs[k] = 1 from by unfold regErr; rw [hsh]; rfl)
        go_wp2_with fail
        refine (HC _ rfl).mono ?_
        rintro e w1 ⟨rfl, hb1⟩
        rw [hsh]
        go_wp2_with fail
        go_ret
        exact ⟨ret_int (by rw [HE.out, HE2.out]; rfl), hbel.trans (hb1.mono hsz)⟩
      · have hcase : (rs[k].conf = true ∧ (prevAt rs k && !rs[k].conf) = false) ∨ (rs[k].conf = false ∧ ¬ 0 < k ∧ (prevAt rs k && !rs[k].conf) = false) ∨
            (rs[k].conf = false ∧ 0 < k ∧ ∃ x, wr.cell? ⟨b, off + (k - 1) * 3, none⟩ = some (.bool x) ∧ (prevAt rs k && !rs[k].conf) = !x) := by
          cases hc : rs[k].conf
          · by_cases h0 : 0 < k
            · obtain ⟨b', off', _, _, e, _, g, _⟩ := hR.elem (show k - 1 < rs.length by omega)
              cases e
              refine .inr (.inr ⟨rfl, h0, _, g, ?_⟩)
              obtain ⟨k', rfl⟩ : ∃ k', k = k' + 1 := ⟨k - 1, by omega⟩
              rw [prevAt_succ (by omega)]
              simp
            · obtain rfl : k = 0 := by omega
              exact .inr (.inl ⟨rfl, h0, rfl⟩)
          · exact .inl ⟨rfl, by simp⟩
        have HJ := Lib.hid (show (prevAt rs k && !rs[k].conf) = false → regErr (prevAt rs k) rs[k] = joinErr (allOf rs[k]) from fun e => by unfold regErr; rw [hsh, e]; rfl)
        have hin1 : 0 < k → (k : Int) - 1 = ((k - 1 : Nat) : Int) := fun h => by omega
        go_wp2_with fail
        refine (HC _ rfl).mono ?_
        rintro e w1 ⟨rfl, hb1⟩
        rw [hsh]
        clear HC
        have n0 := (hb1.cell (p := ⟨b, off + k * 3, none⟩) hb).trans hc0
        have n1 := (hb1.cell (p := ⟨b, off + k * 3 + 1, none⟩) hb).trans hc1
        have n2 := (hb1.cell (p := ⟨b, off + k * 3 + 2, none⟩) hb).trans hc2
        clear hc0 hc1 hc2
        go_upto_region 6 with fail
        go_cut [3, 4, 5, 6, 37] from 7 to 68 (fun s3 s4 s5 s6 s37 wx => s3 = .int .i64 k ∧ s37 = .bool (prevAt rs k && !rs[k].conf) ∧ wx = w1)
        case first =>
          rcases hcase with ⟨hc, hpv⟩ | ⟨hc, h0, hpv⟩ | ⟨hc, h0, x, hpc, hpv⟩
          · rw [hc] at n0
            clear hin1
            by_cases h0 : 0 < k
            · go_wp2_with fail
              go_meet
              case rel => exact ⟨rfl, by simp [hpv], rfl⟩
            · go_wp2_with fail
              go_meet
              case rel => exact ⟨rfl, by simp [hpv], rfl⟩
          · rw [hc] at n0
            clear hin1
            go_wp2_with fail
            go_meet
            case rel => exact ⟨rfl, by simp [hpv], rfl⟩
          · rw [hc] at n0
            have hkm := hin1 h0
            have hkl : k - 1 < rs.length := by omega
            have hkl' : ((k - 1 : Nat) : Int) < (rs.length : Int) := by omega
            clear hin1
            have hpc1 := (hb1.cell (p := ⟨b, off + (k - 1) * 3, none⟩) hb).trans hpc
            cases x
            · go_wp2_with fail
              go_meet
              case rel => exact ⟨rfl, by simp [hpv], rfl⟩
            · go_wp2_with fail
              go_meet
              case rel => exact ⟨rfl, by simp [hpv], rfl⟩
        case rest =>
          obtain ⟨rfl, rfl, rfl⟩ := hcut
          clear hcase hin1
          have bw := hbel.trans (hb1.mono hsz)
          cases hpv : (prevAt rs k && !rs[k].conf)
          · have hl1 := ref_lines_any _ rs[k].lines wc (hs1.1.below hb1) (fun x hx => HS.out _ (List.getElem_mem hlt) x (by unfold allOf; simp [hx]))
            have hs2' := hs2.keeps (Keeps.of_below hb1)
            have HPV := Lib.hid hpv
            clear hpv
            by_cases hj0 : joinErr rs[k].lines = 0
            · rw [hj0] at hl1
              have HJ0 := Lib.hid hj0
              clear hj0
              go_wp2_with (go_at_call 38; refine hl1.mono ?_; rintro e w' ⟨rfl, q, rfl⟩)
              go_loopw [5, 6] (fun j _ wr2 => ∃ k2 q2 : Nat, j = .int .i64 k2 ∧ k2 ≤ rs[k].sides.length ∧ wr2 = wc.drewN q2 ∧ joinErr (allOf rs[k]) = joinErr (rs[k].sides.drop k2).flatten) (fun j _ _ => rs[k].sides.length - (intOf j).toNat)
              case atStart => exact ⟨0, _, rfl, by omega, rfl, lines_ok HJ0.out⟩
              case round =>
                obtain ⟨k2, q2, rfl, hk2, rfl, hp2⟩ := hrel
                have HP2 := Lib.hid hp2
                clear hp2
                by_cases hlt2 : k2 < rs[k].sides.length
                · obtain ⟨b2, off2, u, rfl, hb2, hcell2, hu, _⟩ := hs2'.elem hlt2
                  have hl2 := fun q => ref_lines_any _ rs[k].sides[k2] (wc.drewN q) (hu.below (below_drewN (Below.refl _ _) q)) (fun x hx => HS.out _ (List.getElem_mem hlt) x (by unfold allOf; simp; exact .inr ⟨_, List.getElem_mem hlt2, hx⟩))
                  obtain ⟨a3, c3, rfl⟩ := hu.slice
                  have hin2 : (k2 : Int) < (rs[k].sides.length : Int) := by omega
                  by_cases hj : joinErr rs[k].sides[k2] = 0
                  · have HN := Lib.hid (sides_next hlt2 HP2.out hj)
                    rw [hj] at hl2
                    clear hj
                    go_wp2_with (go_at_call 38; refine (hl2 _).mono ?_; rintro e w' ⟨rfl, q', rfl⟩)
                    go_roundw
                    case rel => first | exact ⟨k2 + 1, _, by go_num, by omega, rfl, HN.out⟩ | ((repeat apply Exists.intro); exact ⟨⟨k2 + 1, _, by go_num, by omega, rfl, HN.out⟩, rfl⟩)
                    case measure => simp [intOf]; omega
                  · have HN := Lib.hid (sides_stop hlt2 HP2.out hj)
                    have hne := err_ne _ hj
                    have HE := Lib.hid (check_stop hlt HP.out (by rw [HJ.out HPV.out, HN.out]; exact hj))
                    have HE2 := Lib.hid (HJ.out HPV.out)
                    clear hj
                    go_wp2_with (go_at_call 38; refine (hl2 _).mono ?_; rintro e w' ⟨rfl, q', rfl⟩)
                    go_ret
                    exact ⟨ret_int (by rw [HE.out, HE2.out, HN.out]), below_drewN bw _⟩
                · have HN := Lib.hid (sides_end (by omega) HP2.out)
                  have HK := Lib.hid (check_step hlt HP.out (by rw [HJ.out HPV.out, HN.out]))
                  go_wp2
                  go_roundw
                  case rel => first | exact ⟨k + 1, by go_num, by omega, below_drewN bw _, HK.out⟩ | ((repeat apply Exists.intro); exact ⟨⟨k + 1, by go_num, by omega, below_drewN bw _, HK.out⟩, rfl⟩)
                  case measure => simp [intOf]; omega
            · have hne := err_ne _ hj0
              have HL := Lib.hid (lines_bad hj0)
              have HE := Lib.hid (check_stop hlt HP.out (by rw [HJ.out HPV.out, HL.out]; exact hj0))
              have HE2 := Lib.hid (HJ.out HPV.out)
              clear hj0
              go_wp2_with (go_at_call 38; refine hl1.mono ?_; rintro e w' ⟨rfl, q, rfl⟩)
              go_ret
              exact ⟨ret_int (by rw [HE.out, HE2.out, HL.out]), below_drewN bw _⟩
          · have HE := Lib.hid (check_stop hlt HP.out (by unfold regErr; rw [hsh, hpv]; simp))
            have HE2 := Lib.hid (show regErr (prevAt rs k) rs[k] = 9 from by unfold regErr; rw [hsh, hpv]; rfl)
            go_wp2_with fail
            go_ret
            exact ⟨ret_int (by rw [HE.out, HE2.out]; rfl), bw⟩
    · have HE := Lib.hid (check_end (by omega) HP.out)
      go_wp2
      go_ret
      exact ⟨ret_int (by rw [HE.out]; rfl), hbel⟩
end Go.Proofs.YtbdekdhdkdjejaaDoor
