/- quiltref04.Join. -/
import Derived.Test.YtbdekdhdkdjejaaDoorJoin
namespace Go.Proofs.YtbdekdhdkdjejaaDoor
open Go.RowKit

set_option maxHeartbeats 2000000 in
theorem ref_join_any (a : Option Addr) (c : Nat) (xs : List (List UInt8)) (w : World) (hx : Strs w (.slice a xs.length c) xs) : Calls Tryd.prog 33 #[.slice a xs.length c] w (JoinOut xs w) := by
  by_cases h : 2000 < xs.length
  · have hd : decide ((2000 : Int) < (xs.length : Int)) = true := by simp; omega
    go_enter Tryd.func33, Tryd.ntmps33
    go_wp2
    go_ret2
    exact joinOut (n := 4) (by unfold joinL; rw [if_pos h]) (Below.refl _ _)
  · have hd : decide ((2000 : Int) < (xs.length : Int)) = false := by simp; omega
    go_enter Tryd.func33, Tryd.ntmps33
    go_wp2
    go_loopw [4, 5] (fun s i wr => ∃ k q T : Nat, i = .int .i64 k ∧ s = .int .i64 T ∧ T = total (xs.take k) + k ∧ k ≤ xs.length ∧ wr = w.drewN q ∧ ∀ j (hj : j < xs.length), j < k → goodLine xs[j]) (fun _ i _ => xs.length - (intOf i).toNat)
    case atStart => exact ⟨0, 0, 0, rfl, rfl, rfl, by omega, rfl, by omega⟩
    case round =>
      obtain ⟨k, q, T, rfl, rfl, hT, hk, rfl, hp⟩ := hrel
      have HP := Lib.hid hp
      have htot := total_good hk hp
      have hTle : T ≤ 2002000 := by omega
      have HTT := Lib.hid hT
      clear hT htot
      clear hp
      by_cases hlt : k < xs.length
      · obtain ⟨b, off, rfl, hcell⟩ := hx.elem hlt
        by_cases hlong : 1000 < xs[k].length
        · have hld : decide ((1000 : Int) < (xs[k].length : Int)) = true := by simp; omega
          have HE := Lib.hid (show joinL xs = ([], 4) from by unfold joinL; rw [if_neg h, joinErr_long hlt HP.out hlong]; rfl)
          clear hlong
          go_wp2
          go_ret2
          exact joinOut (n := 4) HE.out (below_drewN (Below.refl _ _) _)
        · have hld : decide ((1000 : Int) < (xs[k].length : Int)) = false := by simp; omega
          have hml : xs[k].length ≤ maxLen := by unfold maxLen; omega
          cases hv : cleanL 10 0 xs[k]
          · have HV := Lib.hid hv
            have HE := Lib.hid (show joinL xs = ([], 3) from by unfold joinL; rw [if_neg h, joinErr_bad hlt HP.out (by omega) hv]; rfl)
            clear hv
            go_wp2_with (go_at_call 56; refine (clean_any _ _ _ _ hml).mono ?_; rintro e w' ⟨rfl, q2, rfl⟩; rw [HV.out])
            go_ret2
            exact joinOut (n := 3) HE.out (below_drewN (Below.refl _ _) _)
          · have HV := Lib.hid hv
            have HG := Lib.hid (show goodLine xs[k] from ⟨by omega, hv⟩)
            have HT := Lib.hid (total_succ xs k hlt)
            clear hv
            go_wp2_with (go_at_call 56; refine (clean_any _ _ _ _ hml).mono ?_; rintro e w' ⟨rfl, q2, rfl⟩; rw [HV.out])
            go_roundw
            case rel =>
              refine ⟨k + 1, _, T + xs[k].length + 1, by go_num, by go_num, ?_, by omega, (by first | exact rfl | exact World.drewN_drewN ..), fun j hj hjk => ?_⟩
              · rw [HT.out, HTT.out]; omega
              · by_cases e : j = k
                · subst e; exact HG.out
                · exact HP.out j hj (by omega)
            case measure => simp [intOf]; omega
      · have hkl : k = xs.length := by omega
        have htk : xs.take k = xs := List.take_of_length_le (by omega)
        have hgood : ∀ j (hj : j < xs.length), goodLine xs[j] := fun j hj => HP.out j hj (by omega)
        have HJ := Lib.hid (joinErr_none hgood)
        have hT2 : T = total xs + xs.length := by rw [HTT.out, htk, hkl]
        have hlen := textOf_length xs
        clear hgood htk
        by_cases hbig : 65536 < total xs + xs.length
        · have hbd : decide ((65536 : Int) < (T : Int)) = true := by simp; omega
          have HE := Lib.hid (show joinL xs = ([], 4) from by unfold joinL; rw [if_neg h, HJ.out, if_neg (by simp), if_pos hbig])
          clear hlen hkl hbig hT2
          go_wp2
          go_ret2
          exact joinOut (n := 4) HE.out (below_drewN (Below.refl _ _) _)
        · have hbd : decide ((65536 : Int) < (T : Int)) = false := by simp; omega
          have HE := Lib.hid (show joinL xs = (textOf xs, 0) from by unfold joinL; rw [if_neg h, HJ.out, if_neg (by simp), if_neg hbig])
          have hbig2 : (textOf xs).length ≤ 65536 := by omega
          clear hlen hkl hbig hT2
          go_wp2
          go_loopw [6, 7] (fun s i wr => ∃ k2 q2 : Nat, i = .int .i64 k2 ∧ k2 ≤ xs.length ∧ s = .string (B (textOf (xs.take k2))) ∧ wr = w.drewN q2) (fun _ i _ => xs.length - (intOf i).toNat)
          case atStart => exact ⟨0, q, rfl, by omega, rfl, rfl⟩
          case round =>
            obtain ⟨k2, q2, rfl, hk2, rfl, rfl⟩ := hrel
            by_cases hlt2 : k2 < xs.length
            · obtain ⟨b, off, rfl, hcell⟩ := hx.elem hlt2
              have HS := Lib.hid (textOf_succ hlt2)
              have hle1 := textOf_take_le xs (k2 + 1)
              have hle2 : (textOf (xs.take k2)).length + xs[k2].length ≤ 1000000 := by
                rw [textOf_succ hlt2] at hle1
                simp only [List.length_append] at hle1
                omega
              clear hle1
              have hadd := fun W => run_string_add_sum (P := Tryd.prog) W (B (textOf (xs.take k2))) (B xs[k2]) (by rw [B_size, B_size]; omega)
              have hadd2 := fun W => run_string_add_sum (P := Tryd.prog) W (B (textOf (xs.take k2) ++ xs[k2])) (B [10]) (by rw [B_size, B_size, List.length_append, List.length_singleton]; omega)
              go_wp2
              go_roundw
              case rel => exact ⟨k2 + 1, _, by go_num, by omega, by rw [HS.out]; simp, rfl⟩
              case measure => simp [intOf]; omega
            · have htk : xs.take k2 = xs := List.take_of_length_le (by omega)
              rw [htk]
              clear htk
              go_wp2
              go_ret2
              exact joinOut (n := 0) HE.out (below_drewN (Below.refl _ _) _)
end Go.Proofs.YtbdekdhdkdjejaaDoor
