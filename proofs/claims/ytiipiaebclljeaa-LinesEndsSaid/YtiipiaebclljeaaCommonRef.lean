import Derived.Test.YtiipiaebclljeaaCommon
namespace Go.Proofs.Ytiipiaebclljeaa
open Go.RowKit

set_option maxHeartbeats 2000000 in
theorem ref_common_rows (b b' off off' c d : Nat) (xs ys : List (List UInt8)) (w : World) (hmx : xs.length ≤ maxLen) (hmy : ys.length ≤ maxLen)
    (hx : ∀ i, i < xs.length → w.cell? ⟨b, off + i, none⟩ = some (.string (B (xs[i]?.getD []))))
    (hy : ∀ i, i < ys.length → w.cell? ⟨b', off' + i, none⟩ = some (.string (B (ys[i]?.getD [])))) :
    Calls Try.prog 14 #[.slice (some ⟨b, off, none⟩) xs.length c, .slice (some ⟨b', off', none⟩) ys.length d] w (CommonOut xs ys w) := by
  unfold maxLen at hmx hmy
  go_enter Try.func14, Try.ntmps14
  go_wp2
  go_loopw [6] (fun i wr => ∃ k q : Nat, i = .int .i64 k ∧ k ≤ xs.length ∧ k ≤ ys.length ∧ wr = w.drewN q ∧ ∀ j, j < k → xs[j]? = ys[j]?) (fun i _ => xs.length - (intOf i).toNat)
  case atStart => exact ⟨0, 0, rfl, by omega, by omega, rfl, by omega⟩
  case round =>
    obtain ⟨k, q, rfl, hkx, hky, rfl, hp⟩ := hrel
    have HP := Lib.hid hp
    clear hp
    by_cases gx : k < xs.length
    · have d1 : decide ((k : Int) < (xs.length : Int)) = true := by simp; omega
      by_cases gy : k < ys.length
      · have d1' : decide ((k : Int) < (ys.length : Int)) = true := by simp; omega
        have h1 := hx k gx
        have h2 := hy k gy
        simp [gx, gy] at h1 h2
        cases heq : (xs[k] == ys[k])
        · have HN := Lib.hid (show k = xs.length ∨ k = ys.length ∨ xs[k]? ≠ ys[k]? from .inr (.inr (next_ne gx gy heq)))
          go_wp2
          go_quiet (fail)
          go_wp2
          go_loopw [7] (fun i wr => ∃ m q2 : Nat, i = .int .i64 m ∧ k + m ≤ xs.length ∧ k + m ≤ ys.length ∧ wr = w.drewN q2 ∧ ∀ j, j < m → xs[xs.length - 1 - j]? = ys[ys.length - 1 - j]?) (fun i _ => xs.length - (intOf i).toNat)
          case atStart => exact ⟨0, q + nq, rfl, by omega, by omega, World.drewN_drewN .., by omega⟩
          case round =>
            obtain ⟨m, q2, rfl, hmx2, hmy2, rfl, hp2⟩ := hrel
            have HP2 := Lib.hid hp2
            clear hp2
            by_cases hlt2 : k + m < xs.length
            · have d2 : decide ((k : Int) + (m : Int) < (xs.length : Int)) = true := by simp; omega
              by_cases hlt3 : k + m < ys.length
              · have d3 : decide ((k : Int) + (m : Int) < (ys.length : Int)) = true := by simp; omega
                have h3 := hx (xs.length - 1 - m) (by omega)
                have h4 := hy (ys.length - 1 - m) (by omega)
                have gx2 : xs.length - 1 - m < xs.length := by omega
                have gy2 : ys.length - 1 - m < ys.length := by omega
                simp only [List.getElem?_eq_getElem gx2, List.getElem?_eq_getElem gy2, Option.getD_some] at h3 h4
                cases heq2 : (xs[xs.length - 1 - m] == ys[ys.length - 1 - m])
                · have HN2 := Lib.hid (next_ne gx2 gy2 heq2)
                  clear hx hy
                  go_wp2
                  go_quiet (fail)
                  go_wp2
                  go_ret2
                  exact ⟨k, m, ⟨hmx2, hmy2, HP.out, HP2.out, HN.out, .inr (.inr HN2.out)⟩, rfl, _, (by first | exact rfl | exact World.drewN_drewN ..)⟩
                · have HS2 := Lib.hid (tails_succ gx2 gy2 HP2.out heq2)
                  clear hx hy
                  go_wp2
                  go_quiet (fail)
                  go_wp2
                  go_roundw
                  case rel => exact ⟨m + 1, _, by go_num, by omega, by omega, (by first | exact rfl | exact World.drewN_drewN ..), HS2.out⟩
                  case measure => simp [intOf]; omega
              · clear hx hy
                have d3 : decide ((k : Int) + (m : Int) < (ys.length : Int)) = false := by simp; omega
                go_wp2
                go_quiet (fail)
                go_wp2
                go_ret2
                exact ⟨k, m, ⟨hmx2, hmy2, HP.out, HP2.out, HN.out, by omega⟩, rfl, _, (by first | exact rfl | exact World.drewN_drewN ..)⟩
            · clear hx hy
              have d2 : decide ((k : Int) + (m : Int) < (xs.length : Int)) = false := by simp; omega
              go_wp2
              go_quiet (fail)
              go_wp2
              go_ret2
              exact ⟨k, m, ⟨hmx2, hmy2, HP.out, HP2.out, HN.out, by omega⟩, rfl, _, (by first | exact rfl | exact World.drewN_drewN ..)⟩

        · have HS := Lib.hid (heads_succ gx gy HP.out heq)
          go_wp2
          go_quiet (fail)
          go_wp2
          go_roundw
          case rel => exact ⟨k + 1, _, by go_num, by omega, by omega, (by first | exact rfl | exact World.drewN_drewN ..), HS.out⟩
          case measure => simp [intOf]; omega
      · have HN := Lib.hid (show k = xs.length ∨ k = ys.length ∨ xs[k]? ≠ ys[k]? from by omega)
        have d1' : decide ((k : Int) < (ys.length : Int)) = false := by simp; omega
        go_wp2
        go_quiet (fail)
        go_wp2
        go_loopw [7] (fun i wr => ∃ m q2 : Nat, i = .int .i64 m ∧ k + m ≤ xs.length ∧ k + m ≤ ys.length ∧ wr = w.drewN q2 ∧ ∀ j, j < m → xs[xs.length - 1 - j]? = ys[ys.length - 1 - j]?) (fun i _ => xs.length - (intOf i).toNat)
        case atStart => exact ⟨0, q + nq, rfl, by omega, by omega, World.drewN_drewN .., by omega⟩
        case round =>
          obtain ⟨m, q2, rfl, hmx2, hmy2, rfl, hp2⟩ := hrel
          have HP2 := Lib.hid hp2
          clear hp2
          by_cases hlt2 : k + m < xs.length
          · have d2 : decide ((k : Int) + (m : Int) < (xs.length : Int)) = true := by simp; omega
            by_cases hlt3 : k + m < ys.length
            · have d3 : decide ((k : Int) + (m : Int) < (ys.length : Int)) = true := by simp; omega
              have h3 := hx (xs.length - 1 - m) (by omega)
              have h4 := hy (ys.length - 1 - m) (by omega)
              have gx2 : xs.length - 1 - m < xs.length := by omega
              have gy2 : ys.length - 1 - m < ys.length := by omega
              simp only [List.getElem?_eq_getElem gx2, List.getElem?_eq_getElem gy2, Option.getD_some] at h3 h4
              cases heq2 : (xs[xs.length - 1 - m] == ys[ys.length - 1 - m])
              · have HN2 := Lib.hid (next_ne gx2 gy2 heq2)
                clear hx hy
                go_wp2
                go_quiet (fail)
                go_wp2
                go_ret2
                exact ⟨k, m, ⟨hmx2, hmy2, HP.out, HP2.out, HN.out, .inr (.inr HN2.out)⟩, rfl, _, (by first | exact rfl | exact World.drewN_drewN ..)⟩
              · have HS2 := Lib.hid (tails_succ gx2 gy2 HP2.out heq2)
                clear hx hy
                go_wp2
                go_quiet (fail)
                go_wp2
                go_roundw
                case rel => exact ⟨m + 1, _, by go_num, by omega, by omega, (by first | exact rfl | exact World.drewN_drewN ..), HS2.out⟩
                case measure => simp [intOf]; omega
            · clear hx hy
              have d3 : decide ((k : Int) + (m : Int) < (ys.length : Int)) = false := by simp; omega
              go_wp2
              go_quiet (fail)
              go_wp2
              go_ret2
              exact ⟨k, m, ⟨hmx2, hmy2, HP.out, HP2.out, HN.out, by omega⟩, rfl, _, (by first | exact rfl | exact World.drewN_drewN ..)⟩
          · clear hx hy
            have d2 : decide ((k : Int) + (m : Int) < (xs.length : Int)) = false := by simp; omega
            go_wp2
            go_quiet (fail)
            go_wp2
            go_ret2
            exact ⟨k, m, ⟨hmx2, hmy2, HP.out, HP2.out, HN.out, by omega⟩, rfl, _, (by first | exact rfl | exact World.drewN_drewN ..)⟩

    · have HN := Lib.hid (show k = xs.length ∨ k = ys.length ∨ xs[k]? ≠ ys[k]? from by omega)
      have d1 : decide ((k : Int) < (xs.length : Int)) = false := by simp; omega
      go_wp2
      go_quiet (fail)
      go_wp2
      go_loopw [7] (fun i wr => ∃ m q2 : Nat, i = .int .i64 m ∧ k + m ≤ xs.length ∧ k + m ≤ ys.length ∧ wr = w.drewN q2 ∧ ∀ j, j < m → xs[xs.length - 1 - j]? = ys[ys.length - 1 - j]?) (fun i _ => xs.length - (intOf i).toNat)
      case atStart => exact ⟨0, q + nq, rfl, by omega, by omega, World.drewN_drewN .., by omega⟩
      case round =>
        obtain ⟨m, q2, rfl, hmx2, hmy2, rfl, hp2⟩ := hrel
        have HP2 := Lib.hid hp2
        clear hp2
        by_cases hlt2 : k + m < xs.length
        · have d2 : decide ((k : Int) + (m : Int) < (xs.length : Int)) = true := by simp; omega
          by_cases hlt3 : k + m < ys.length
          · have d3 : decide ((k : Int) + (m : Int) < (ys.length : Int)) = true := by simp; omega
            have h3 := hx (xs.length - 1 - m) (by omega)
            have h4 := hy (ys.length - 1 - m) (by omega)
            have gx2 : xs.length - 1 - m < xs.length := by omega
            have gy2 : ys.length - 1 - m < ys.length := by omega
            simp only [List.getElem?_eq_getElem gx2, List.getElem?_eq_getElem gy2, Option.getD_some] at h3 h4
            cases heq2 : (xs[xs.length - 1 - m] == ys[ys.length - 1 - m])
            · have HN2 := Lib.hid (next_ne gx2 gy2 heq2)
              clear hx hy
              go_wp2
              go_quiet (fail)
              go_wp2
              go_ret2
              exact ⟨k, m, ⟨hmx2, hmy2, HP.out, HP2.out, HN.out, .inr (.inr HN2.out)⟩, rfl, _, (by first | exact rfl | exact World.drewN_drewN ..)⟩
            · have HS2 := Lib.hid (tails_succ gx2 gy2 HP2.out heq2)
              clear hx hy
              go_wp2
              go_quiet (fail)
              go_wp2
              go_roundw
              case rel => exact ⟨m + 1, _, by go_num, by omega, by omega, (by first | exact rfl | exact World.drewN_drewN ..), HS2.out⟩
              case measure => simp [intOf]; omega
          · clear hx hy
            have d3 : decide ((k : Int) + (m : Int) < (ys.length : Int)) = false := by simp; omega
            go_wp2
            go_quiet (fail)
            go_wp2
            go_ret2
            exact ⟨k, m, ⟨hmx2, hmy2, HP.out, HP2.out, HN.out, by omega⟩, rfl, _, (by first | exact rfl | exact World.drewN_drewN ..)⟩
        · clear hx hy
          have d2 : decide ((k : Int) + (m : Int) < (xs.length : Int)) = false := by simp; omega
          go_wp2
          go_quiet (fail)
          go_wp2
          go_ret2
          exact ⟨k, m, ⟨hmx2, hmy2, HP.out, HP2.out, HN.out, by omega⟩, rfl, _, (by first | exact rfl | exact World.drewN_drewN ..)⟩

end Go.Proofs.Ytiipiaebclljeaa
