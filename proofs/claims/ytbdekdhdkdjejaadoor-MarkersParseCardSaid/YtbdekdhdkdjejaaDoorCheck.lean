/- markers.Check. -/
import Derived.Test.YtbdekdhdkdjejaaDoorConcat
import Derived.Deep.RegionWith
import Derived.Deep.CutRange
namespace Go.Proofs.YtbdekdhdkdjejaaDoor
open Go.RowKit

def allOf (r : Reg) : List (List UInt8) := r.lines ++ r.sides.flatten
def regErr (prev : Bool) (r : Reg) : Nat := if shapeL r then (if prev && !r.conf then 9 else joinErr (allOf r)) else 1
def checkL : Bool → List Reg → Nat
  | _, [] => 0
  | p, r :: rs => if regErr p r = 0 then checkL (!r.conf) rs else regErr p r
def checkAll (rs : List Reg) : Nat := checkL false rs
def prevAt (rs : List Reg) (k : Nat) : Bool := match k with
  | 0 => false
  | k + 1 => match rs[k]? with
    | some r => !r.conf
    | none => false
theorem prevAt_succ {rs : List Reg} {k : Nat} (h : k < rs.length) : prevAt rs (k + 1) = !rs[k].conf := by
  simp [prevAt, List.getElem?_eq_getElem h]
theorem check_step {rs : List Reg} {k : Nat} (hk : k < rs.length) (h : checkAll rs = checkL (prevAt rs k) (rs.drop k)) (h0 : regErr (prevAt rs k) rs[k] = 0) : checkAll rs = checkL (prevAt rs (k + 1)) (rs.drop (k + 1)) := by
  rw [h, List.drop_eq_getElem_cons hk, checkL, if_pos h0, prevAt_succ hk]
theorem check_stop {rs : List Reg} {k : Nat} (hk : k < rs.length) (h : checkAll rs = checkL (prevAt rs k) (rs.drop k)) (h0 : regErr (prevAt rs k) rs[k] ≠ 0) : checkAll rs = regErr (prevAt rs k) rs[k] := by
  rw [h, List.drop_eq_getElem_cons hk, checkL, if_neg h0]
theorem check_end {rs : List Reg} {k : Nat} (hk : rs.length ≤ k) (h : checkAll rs = checkL (prevAt rs k) (rs.drop k)) : checkAll rs = 0 := by
  rw [h, List.drop_eq_nil_of_le hk]; rfl

theorem Regs.slice {φ : Nat → Prop} {w : World} {v : Value} {rs : List Reg} (h : Regs φ w v rs) : ∃ a c, v = .slice a rs.length c := by
  obtain ⟨a, c, h, _⟩ := h; exact ⟨a, c, h⟩
theorem Regs.le {φ : Nat → Prop} {w : World} {v : Value} {rs : List Reg} (h : Regs φ w v rs) : rs.length ≤ maxLen := by
  obtain ⟨a, c, _, h1, h2, _⟩ := h; omega
theorem Regs.elem {φ : Nat → Prop} {w : World} {a : Option Addr} {n c : Nat} {rs : List Reg} (h : Regs φ w (.slice a n c) rs) {k : Nat} (hk : k < rs.length) :
    ∃ b off u1 u2, a = some ⟨b, off, none⟩ ∧ b < w.heap.size ∧ w.cell? ⟨b, off + k * 3, none⟩ = some (.bool rs[k].conf) ∧
      w.cell? ⟨b, off + k * 3 + 1, none⟩ = some u1 ∧ w.cell? ⟨b, off + k * 3 + 2, none⟩ = some u2 ∧ StrsIn φ w u1 rs[k].lines ∧ Strss φ w u2 rs[k].sides := by
  obtain ⟨a', c', e, _, _, _, _, h⟩ := h
  cases e
  exact h k hk

theorem Strs.slice3 {w : World} {v : Value} {xs : List (List UInt8)} (h : Strs w v xs) : ∃ a n c, v = .slice a n c := by
  obtain ⟨a, c, h⟩ := h.slice; exact ⟨a, _, c, h⟩
theorem strss_two (w : World) (u1 u2 : Value) (xs ys : List (List UInt8)) (h1 : Strs w u1 xs) (h2 : Strs w u2 ys) :
    Strss Any (w.alloc (.cells #[u1, u2] 35)) (.slice (some ⟨w.heap.size, 0, none⟩) 2 2) [xs, ys] := by
  have b0 : Below w.heap.size w (w.alloc (.cells #[u1, u2] 35)) := (Below.refl _ _).alloc (Nat.le_refl _) _
  have hrow : (w.alloc (.cells #[u1, u2] 35)).heap[w.heap.size]? = some (.cells #[u1, u2] 35) := heap_alloc_new w _
  refine ⟨_, 2, rfl, by simp, by decide, (fun _ _ => trivial), (fun h => by cases h), fun i hi => ?_⟩
  simp at hi
  rcases i with _ | _ | i
  · exact ⟨_, _, u1, rfl, by simp, by rw [cell_of_row _ _ _ _ _ _ hrow]; rfl, h1.below b0, fun _ _ => trivial⟩
  · exact ⟨_, _, u2, rfl, by simp, by rw [cell_of_row _ _ _ _ _ _ hrow]; rfl, h2.below b0, fun _ _ => trivial⟩
  · omega
theorem concat_lit (w : World) (u1 u2 : Value) (xs ys : List (List UInt8)) (h1 : Strs w u1 xs) (h2 : Strs w u2 ys) (hs : (xs ++ ys).length ≤ 1000000) :
    Calls Tryd.prog 36 #[.slice (some ⟨w.heap.size, 0, none⟩) 2 2] (w.alloc (.cells #[u1, u2] 35)) fun e w' => ∃ v', e = .returned v' ∧ Strs w' v' (xs ++ ys) ∧ Below w.heap.size w w' := by
  have e : [xs, ys].flatten = xs ++ ys := by simp
  refine (concat_any Any _ _ _ (strss_two w u1 u2 xs ys h1 h2) (by rw [e]; exact hs)).mono ?_
  rintro e' w' ⟨v', rfl, h3, h4⟩
  rw [e] at h3
  exact ⟨v', rfl, h3, ((Below.refl _ _).alloc (Nat.le_refl _) _).trans (h4.mono (by simp))⟩
theorem concat_held (φ : Nat → Prop) (v : Value) (xss : List (List (List UInt8))) (w : World) (h : Strss φ w v xss) (hs : xss.flatten.length ≤ 1000000) (N : Nat) (x1 x2 : Value)
    (k1 : w.cell? ⟨N, 1, none⟩ = some x1) (k2 : w.cell? ⟨N, 2, none⟩ = some x2) :
    Calls Tryd.prog 36 #[v] w fun e w' => ∃ a n c, e = .returned (.slice a n c) ∧ Strs w' (.slice a n c) xss.flatten ∧ Below w.heap.size w w' ∧ w'.cell? ⟨N, 1, none⟩ = some x1 ∧ w'.cell? ⟨N, 2, none⟩ = some x2 := by
  refine (concat_any φ v xss w h hs).mono ?_
  rintro e w' ⟨v', rfl, h1, h2⟩
  obtain ⟨a, n, c, rfl⟩ := h1.slice3
  have hN := World.block_lt_of_cell? w _ k1
  exact ⟨a, n, c, rfl, h1, h2, (h2.cell (p := ⟨N, 1, none⟩) hN).trans k1, (h2.cell (p := ⟨N, 2, none⟩) hN).trans k2⟩
theorem err_ne (n : Nat) (h : n ≠ 0) : ((n : Int) != 0) = true := by rw [bne_iff_ne]; omega

set_option maxHeartbeats 2000000 in
set_option maxRecDepth 100000 in
theorem check_any (φ : Nat → Prop) (v : Value) (rs : List Reg) (w : World) (h : Regs φ w v rs) (hs : ∀ r ∈ rs, (allOf r).length ≤ 1000000) :
    Calls Tryd.prog 15 #[v] w fun e w' => e = .returned (.int .i64 (checkAll rs : Nat)) ∧ Below w.heap.size w w' := by
  obtain ⟨a, c, rfl⟩ := h.slice
  have hm := h.le
  unfold maxLen at hm
  have HS := Lib.hid hs
  clear hs
  go_enter Tryd.func15, Tryd.ntmps15
  go_wp2
  go_loopw [3, 4, 5, 8] (fun _ _ _ i wr => ∃ k : Nat, i = .int .i64 k ∧ k ≤ rs.length ∧ Below w.heap.size w wr ∧ checkAll rs = checkL (prevAt rs k) (rs.drop k)) (fun _ _ _ i _ => rs.length - (intOf i).toNat)
  case atStart => exact ⟨0, rfl, by omega, Below.refl _ _, rfl⟩
  case round =>
    obtain ⟨k, rfl, hk, hbel, hp⟩ := hrel
    have HP := Lib.hid hp
    have hsz := hbel.size
    clear hp
    by_cases hlt : k < rs.length
    · have hR := h.keeps (Keeps.of_below hbel)
      obtain ⟨b, off, u1, u2, rfl, hb, hc0, hc1, hc2, hs1, hs2⟩ := hR.elem hlt
      obtain ⟨a1, c1, rfl⟩ := hs1.1.slice
      obtain ⟨a2, c2, rfl⟩ := hs2.slice
      have hin : (k : Int) < (rs.length : Int) := by omega
      have hcall : ∀ (bc : Bool), rs[k].conf = bc → ∀ w', Below wr.heap.size wr w' → Calls Tryd.prog 34 #[.agg #[.bool bc, .slice a1 rs[k].lines.length c1, .slice a2 rs[k].sides.length c2]] w' fun e w'' => e = .returned (.bool (shapeL rs[k])) ∧ Below w'.heap.size w' w'' := fun bc e w' hk' => by
        have := shaped_any φ rs[k] _ _ w' (hs1.keeps (Keeps.of_below hk')) (hs2.keeps (Keeps.of_below hk'))
        rwa [e] at this
      have HC := Lib.hid hcall
      clear hcall
      have hA := fun o => (Below.refl wr.heap.size wr).alloc (Nat.le_refl _) o
      have bA := fun o => hbel.trans ((hA o).mono hsz)
      have HA := Lib.hid hA
      have BA := Lib.hid bA
      clear hA bA
      cases hsh : shapeL rs[k]
      · have HE := Lib.hid (check_stop hlt HP.out (by unfold regErr; rw [hsh]; simp))
        have HE2 := Lib.hid (show regErr (prevAt rs k) rs[k] = 1 from by unfold regErr; rw [hsh]; rfl)
        go_wp2_with fail
        refine (HC.out _ rfl _ (HA.out _)).mono ?_
        rintro e w1 ⟨rfl, hb1⟩
        rw [hsh]
        go_wp2_with fail
        go_ret
        exact ⟨ret_int (by rw [HE.out, HE2.out]; rfl), (BA.out _).trans (hb1.mono (Nat.le_trans hsz (by simp)))⟩
      · have hcase : (rs[k].conf = true ∧ (prevAt rs k && !rs[k].conf) = false) ∨ (rs[k].conf = false ∧ ¬ 0 < k ∧ (prevAt rs k && !rs[k].conf) = false) ∨
            (rs[k].conf = false ∧ 0 < k ∧ ∃ x, wr.cell? ⟨b, off + (k - 1) * 3, none⟩ = some (.bool x) ∧ (prevAt rs k && !rs[k].conf) = !x) := by
          cases hc : rs[k].conf
          · by_cases h0 : 0 < k
            · obtain ⟨b', off', _, _, e, _, g, _⟩ := hR.elem (show k - 1 < rs.length by omega)
              cases e
              refine .inr (.inr ⟨rfl, h0, _, g, ?_⟩)
              obtain ⟨k', rfl⟩ : ∃ k', k = k' + 1 := ⟨k - 1, by omega⟩
              rw [prevAt_succ (by omega)]
              simp
            · obtain rfl : k = 0 := by omega
              exact .inr (.inl ⟨rfl, h0, rfl⟩)
          · exact .inl ⟨rfl, by simp⟩
        have HJ := Lib.hid (show (prevAt rs k && !rs[k].conf) = false → regErr (prevAt rs k) rs[k] = joinErr (allOf rs[k]) from fun e => by unfold regErr; rw [hsh, e]; rfl)
        have hin1 : 0 < k → (k : Int) - 1 = ((k - 1 : Nat) : Int) := fun h => by omega
        have HF := Lib.hid (show rs[k].sides.flatten.length ≤ 1000000 ∧ [rs[k].lines, rs[k].sides.flatten].flatten = allOf rs[k] ∧ (allOf rs[k]).length ≤ 1000000 from by
          have h1 := HS.out _ (List.getElem_mem hlt)
          refine ⟨?_, by simp [allOf], h1⟩
          unfold allOf at h1
          rw [List.length_append] at h1
          omega)
        go_wp2_with fail
        refine (HC.out _ rfl _ (HA.out _)).mono ?_
        rintro e w1 ⟨rfl, hb1⟩
        rw [hsh]
        have hrow := (hb1.block wr.heap.size (by simp)).trans (heap_alloc_new wr _)
        have hbb : Below wr.heap.size wr w1 := (HA.out _).trans (hb1.mono (by simp))
        have n0 := cell_of_row w1 wr.heap.size 0 _ _ _ hrow
        have n1 := cell_of_row w1 wr.heap.size 1 _ _ _ hrow
        have n2 := cell_of_row w1 wr.heap.size 2 _ _ _ hrow
        simp at n0 n1 n2
        clear hrow hc0 hc1 hc2
        go_upto_region 6 with fail
        go_cut [3, 4, 8, 31] from 8 to 43 (fun s3 s4 s8 s31 wx => s3 = .int .i64 k ∧ s4 = .pointer (some ⟨wr.heap.size, 0, none⟩) ∧ s8 = .int .i64 k ∧ s31 = .bool (prevAt rs k && !rs[k].conf) ∧ wx = w1)
        case first =>
          rcases hcase with ⟨hc, hpv⟩ | ⟨hc, h0, hpv⟩ | ⟨hc, h0, x, hpc, hpv⟩
          · rw [hc] at n0
            clear hin1
            by_cases h0 : 0 < k
            · go_wp2_with fail
              go_meet
              case rel => exact ⟨rfl, rfl, rfl, by simp [hpv], rfl⟩
            · go_wp2_with fail
              go_meet
              case rel => exact ⟨rfl, rfl, rfl, by simp [hpv], rfl⟩
          · rw [hc] at n0
            clear hin1
            go_wp2_with fail
            go_meet
            case rel => exact ⟨rfl, rfl, rfl, by simp [hpv], rfl⟩
          · rw [hc] at n0
            have hkm := hin1 h0
            have hkl : k - 1 < rs.length := by omega
            have hkl' : ((k - 1 : Nat) : Int) < (rs.length : Int) := by omega
            clear hin1
            have hpc1 := (hbb.cell (p := ⟨b, off + (k - 1) * 3, none⟩) hb).trans hpc
            cases x
            · go_wp2_with fail
              go_meet
              case rel => exact ⟨rfl, rfl, rfl, by simp [hpv], rfl⟩
            · go_wp2_with fail
              go_meet
              case rel => exact ⟨rfl, rfl, rfl, by simp [hpv], rfl⟩
        case rest =>
          obtain ⟨rfl, rfl, rfl, rfl, rfl⟩ := hcut
          clear hcase hin1
          cases hpv : (prevAt rs k && !rs[k].conf)
          · go_upto_region 8 with fail
            go_cut [3, 4, 5, 8] from 8 to 43 (fun s3 s4 s5 s8 wx => s3 = .int .i64 k ∧ s4 = .pointer (some ⟨wr.heap.size, 0, none⟩) ∧ s5 = .int .i64 (joinErr (allOf rs[k]) : Nat) ∧ s8 = .int .i64 k ∧ Below w.heap.size w wx)
            case first =>
              have BW := Lib.hid (fun (w2 w3 : World) (q : Nat) (h2 : Below wc.drew.heap.size wc.drew w2) (h3 : Below w2.heap.size w2 w3) =>
                show Below w.heap.size w (w3.drewN q) from by
                  have a1 : Below w.heap.size w wc.drew := hbel.trans ((hbb.drew).mono hsz)
                  have a2 := a1.trans (h2.mono a1.size)
                  exact below_drewN (a2.trans (h3.mono a2.size)) q)
              have kcall : ∀ W, W = wc.drew → Calls Tryd.prog 36 #[.slice a2 rs[k].sides.length c2] W _ := fun W hW => concat_held φ _ rs[k].sides W (hs2.keeps (Keeps.of_below (by rw [hW]; exact hbb.drew))) HF.out.1 wr.heap.size _ _ (by rw [hW]; exact n1) (by rw [hW]; exact n2)
              clear HC HA BA HJ HP HS hin h hR n0 hsh hpv hs2
              go_region_with
                (first
                  | (go_at_call 35; refine (checkLines_any v3 _ _ hv3).mono ?_; rintro e w4 ⟨rfl, q, rfl⟩)
                  | (go_at_call 36; (first
                      | ((with_reducible refine (kcall _ rfl).mono ?_); rintro e w2 ⟨a3, n3, c3, rfl, hv2, hb2, k1, k2⟩)
                      | (refine (concat_lit w2 _ _ _ _ (hs1.1.below (hbb.drew.trans (hb2.mono hbb.size))) hv2 HF.out.2.2).mono ?_; rintro e w3 ⟨v3, rfl, hv3, hb3⟩))))
              all_goals (go_wp2_with fail; go_meet; case rel => exact ⟨rfl, rfl, rfl, rfl, BW.out _ _ _ hb2 hb3⟩)
            case rest =>
              obtain ⟨rfl, rfl, rfl, rfl, bW4⟩ := hcut
              by_cases hj : joinErr (allOf rs[k]) = 0
              · have HK := Lib.hid (check_step hlt HP.out (by rw [HJ.out hpv, hj]))
                have hne : ((joinErr (allOf rs[k]) : Int) != 0) = false := by rw [hj]; rfl
                clear hj
                go_wp2
                go_roundw
                case rel => first | exact ⟨k + 1, by go_num, by omega, bW4, HK.out⟩ | ((repeat apply Exists.intro); exact ⟨⟨k + 1, by go_num, by omega, bW4, HK.out⟩, rfl⟩)
                case measure => simp [intOf]; omega
              · have hne := err_ne _ hj
                have HE := Lib.hid (check_stop hlt HP.out (by rw [HJ.out hpv]; exact hj))
                have HE2 := Lib.hid (HJ.out hpv)
                clear hj
                go_wp2
                go_ret
                exact ⟨ret_int (by rw [HE.out, HE2.out]), bW4⟩
          · have HE := Lib.hid (check_stop hlt HP.out (by unfold regErr; rw [hsh, hpv]; simp))
            have HE2 := Lib.hid (show regErr (prevAt rs k) rs[k] = 9 from by unfold regErr; rw [hsh, hpv]; rfl)
            go_wp2_with fail
            go_ret
            exact ⟨ret_int (by rw [HE.out, HE2.out]; rfl), hbel.trans (hbb.mono hsz)⟩
    · have HE := Lib.hid (check_end (by omega) HP.out)
      go_wp2
      go_ret
      exact ⟨ret_int (by rw [HE.out]; rfl), hbel⟩
end Go.Proofs.YtbdekdhdkdjejaaDoor
