import Derived.Test.YtiipiaebclljeaaBase
namespace Go.Proofs.Ytiipiaebclljeaa
open Go.RowKit

/-- The first n strings of the lists are the same, and the last m, and the next ones differ, or one list is exhausted. -/
structure IsCommon (xs ys : List (List UInt8)) (n m : Nat) : Prop where
  lx : n + m ≤ xs.length
  ly : n + m ≤ ys.length
  head : ∀ j, j < n → xs[j]? = ys[j]?
  tail : ∀ j, j < m → xs[xs.length - 1 - j]? = ys[ys.length - 1 - j]?
  nexth : n = xs.length ∨ n = ys.length ∨ xs[n]? ≠ ys[n]?
  nextt : n + m = xs.length ∨ n + m = ys.length ∨ xs[xs.length - 1 - m]? ≠ ys[ys.length - 1 - m]?

def CommonOut (xs ys : List (List UInt8)) (w : World) (e : Ending) (w' : World) : Prop :=
  ∃ n m : Nat, IsCommon xs ys n m ∧ e = .returned (.tuple #[.int .i64 n, .int .i64 m]) ∧ ∃ q, w' = w.drewN q

theorem heads_succ {xs ys : List (List UInt8)} {k : Nat} (hx : k < xs.length) (hy : k < ys.length) (h : ∀ j, j < k → xs[j]? = ys[j]?) (he : (xs[k] == ys[k]) = true) : ∀ j, j < k + 1 → xs[j]? = ys[j]? := by
  intro j hj
  by_cases e : j = k
  · subst e
    rw [List.getElem?_eq_getElem hx, List.getElem?_eq_getElem hy, beq_iff_eq.1 he]
  · exact h j (by omega)
theorem next_ne {xs ys : List (List UInt8)} {k k' : Nat} (hx : k < xs.length) (hy : k' < ys.length) (he : (xs[k] == ys[k']) = false) : xs[k]? ≠ ys[k']? := by
  rw [List.getElem?_eq_getElem hx, List.getElem?_eq_getElem hy]
  intro h
  injection h with h
  rw [h] at he
  simp at he
theorem tails_succ {xs ys : List (List UInt8)} {k : Nat} (hx : xs.length - 1 - k < xs.length) (hy : ys.length - 1 - k < ys.length) (h : ∀ j, j < k → xs[xs.length - 1 - j]? = ys[ys.length - 1 - j]?)
    (he : (xs[xs.length - 1 - k] == ys[ys.length - 1 - k]) = true) : ∀ j, j < k + 1 → xs[xs.length - 1 - j]? = ys[ys.length - 1 - j]? := by
  intro j hj
  by_cases e : j = k
  · subst e
    rw [List.getElem?_eq_getElem hx, List.getElem?_eq_getElem hy, beq_iff_eq.1 he]
  · exact h j (by omega)

set_option maxHeartbeats 1000000 in
theorem common_x (b b' off off' c d : Nat) (xs ys : List (List UInt8)) (w : World) (hmx : xs.length ≤ maxLen) (hmy : ys.length ≤ maxLen) (hle : xs.length ≤ ys.length)
    (hx : ∀ i, i < xs.length → w.cell? ⟨b, off + i, none⟩ = some (.string (B (xs[i]?.getD []))))
    (hy : ∀ i, i < ys.length → w.cell? ⟨b', off' + i, none⟩ = some (.string (B (ys[i]?.getD [])))) :
    Calls Try.prog 13 #[.slice (some ⟨b, off, none⟩) xs.length c, .slice (some ⟨b', off', none⟩) ys.length d] w (CommonOut xs ys w) := by
  unfold maxLen at hmx hmy
  go_enter Try.func13, Try.ntmps13
  go_wp2
  go_loopw [7] (fun i wr => ∃ k q : Nat, i = .int .i64 k ∧ k ≤ xs.length ∧ k ≤ ys.length ∧ wr = w.drewN q ∧ ∀ j, j < k → xs[j]? = ys[j]?) (fun i _ => xs.length - (intOf i).toNat)
  case atStart => exact ⟨0, 0, rfl, by omega, by omega, rfl, by omega⟩
  case round =>
    obtain ⟨k, q, rfl, hkx, hky, rfl, hp⟩ := hrel
    have HP := Lib.hid hp
    clear hp
    by_cases hlt : k < xs.length
    · have h1 := hx k (by omega)
      have h2 := hy k (by omega)
      have gx : k < xs.length := by omega
      have gy : k < ys.length := by omega
      simp [gx, gy] at h1 h2
      cases heq : (xs[k] == ys[k])
      · have HN := Lib.hid (show k = xs.length ∨ k = ys.length ∨ xs[k]? ≠ ys[k]? from .inr (.inr (next_ne gx gy heq)))
        have d1 : decide ((k : Int) < (xs.length : Int)) = true := by simp; omega
        go_wp2
        go_quiet (fail)
        go_wp2
        go_loopw [8] (fun i wr => ∃ m q2 : Nat, i = .int .i64 m ∧ k + m ≤ xs.length ∧ k + m ≤ ys.length ∧ wr = w.drewN q2 ∧ ∀ j, j < m → xs[xs.length - 1 - j]? = ys[ys.length - 1 - j]?) (fun i _ => xs.length - (intOf i).toNat)
        case atStart => exact ⟨0, q + nq, rfl, by omega, by omega, (by first | exact rfl | exact World.drewN_drewN ..), by omega⟩
        case round =>
          obtain ⟨m, q2, rfl, hmx2, hmy2, rfl, hp2⟩ := hrel
          have HP2 := Lib.hid hp2
          clear hp2
          by_cases hlt2 : k + m < xs.length
          · have h3 := hx (xs.length - 1 - m) (by omega)
            have h4 := hy (ys.length - 1 - m) (by omega)
            have gx2 : xs.length - 1 - m < xs.length := by omega
            have gy2 : ys.length - 1 - m < ys.length := by omega
            simp only [List.getElem?_eq_getElem gx2, List.getElem?_eq_getElem gy2, Option.getD_some] at h3 h4
            have d2 : decide ((k : Int) + (m : Int) < (xs.length : Int)) = true := by simp; omega
            cases heq2 : (xs[xs.length - 1 - m] == ys[ys.length - 1 - m])
            · have HN2 := Lib.hid (next_ne gx2 gy2 heq2)
              clear hx hy
              go_wp2
              go_quiet (fail)
              go_wp2
              go_ret2
              exact ⟨k, m, ⟨hmx2, hmy2, HP.out, HP2.out, HN.out, .inr (.inr HN2.out)⟩, rfl, _, (by first | exact rfl | exact World.drewN_drewN ..)⟩
            · have HS2 := Lib.hid (tails_succ gx2 gy2 HP2.out heq2)
              clear hx hy
              go_wp2
              go_quiet (fail)
              go_wp2
              go_roundw
              case rel => exact ⟨m + 1, _, by go_num, by omega, by omega, (by first | exact rfl | exact World.drewN_drewN ..), HS2.out⟩
              case measure => simp [intOf]; omega
          · clear hx hy
            have d2 : decide ((k : Int) + (m : Int) < (xs.length : Int)) = false := by simp; omega
            go_wp2
            go_quiet (fail)
            go_wp2
            go_ret2
            exact ⟨k, m, ⟨hmx2, hmy2, HP.out, HP2.out, HN.out, by omega⟩, rfl, _, (by first | exact rfl | exact World.drewN_drewN ..)⟩

      · have HS := Lib.hid (heads_succ gx gy HP.out heq)
        go_wp2
        go_quiet (fail)
        go_wp2
        go_roundw
        case rel => exact ⟨k + 1, _, by go_num, by omega, by omega, (by first | exact rfl | exact World.drewN_drewN ..), HS.out⟩
        case measure => simp [intOf]; omega
    · have HN := Lib.hid (show k = xs.length ∨ k = ys.length ∨ xs[k]? ≠ ys[k]? from by omega)
      go_wp2
      go_quiet (fail)
      go_wp2
      go_loopw [8] (fun i wr => ∃ m q2 : Nat, i = .int .i64 m ∧ k + m ≤ xs.length ∧ k + m ≤ ys.length ∧ wr = w.drewN q2 ∧ ∀ j, j < m → xs[xs.length - 1 - j]? = ys[ys.length - 1 - j]?) (fun i _ => xs.length - (intOf i).toNat)
      case atStart => exact ⟨0, q + nq, rfl, by omega, by omega, (by first | exact rfl | exact World.drewN_drewN ..), by omega⟩
      case round =>
        obtain ⟨m, q2, rfl, hmx2, hmy2, rfl, hp2⟩ := hrel
        have HP2 := Lib.hid hp2
        clear hp2
        by_cases hlt2 : k + m < xs.length
        · have h3 := hx (xs.length - 1 - m) (by omega)
          have h4 := hy (ys.length - 1 - m) (by omega)
          have gx2 : xs.length - 1 - m < xs.length := by omega
          have gy2 : ys.length - 1 - m < ys.length := by omega
          simp only [List.getElem?_eq_getElem gx2, List.getElem?_eq_getElem gy2, Option.getD_some] at h3 h4
          have d2 : decide ((k : Int) + (m : Int) < (xs.length : Int)) = true := by simp; omega
          cases heq2 : (xs[xs.length - 1 - m] == ys[ys.length - 1 - m])
          · have HN2 := Lib.hid (next_ne gx2 gy2 heq2)
            clear hx hy
            go_wp2
            go_quiet (fail)
            go_wp2
            go_ret2
            exact ⟨k, m, ⟨hmx2, hmy2, HP.out, HP2.out, HN.out, .inr (.inr HN2.out)⟩, rfl, _, (by first | exact rfl | exact World.drewN_drewN ..)⟩
          · have HS2 := Lib.hid (tails_succ gx2 gy2 HP2.out heq2)
            clear hx hy
            go_wp2
            go_quiet (fail)
            go_wp2
            go_roundw
            case rel => exact ⟨m + 1, _, by go_num, by omega, by omega, (by first | exact rfl | exact World.drewN_drewN ..), HS2.out⟩
            case measure => simp [intOf]; omega
        · clear hx hy
          have d2 : decide ((k : Int) + (m : Int) < (xs.length : Int)) = false := by simp; omega
          go_wp2
          go_quiet (fail)
          go_wp2
          go_ret2
          exact ⟨k, m, ⟨hmx2, hmy2, HP.out, HP2.out, HN.out, by omega⟩, rfl, _, (by first | exact rfl | exact World.drewN_drewN ..)⟩


set_option maxHeartbeats 1000000 in
theorem common_y (b b' off off' c d : Nat) (xs ys : List (List UInt8)) (w : World) (hmx : xs.length ≤ maxLen) (hmy : ys.length ≤ maxLen) (hle : ys.length < xs.length)
    (hx : ∀ i, i < xs.length → w.cell? ⟨b, off + i, none⟩ = some (.string (B (xs[i]?.getD []))))
    (hy : ∀ i, i < ys.length → w.cell? ⟨b', off' + i, none⟩ = some (.string (B (ys[i]?.getD [])))) :
    Calls Try.prog 13 #[.slice (some ⟨b, off, none⟩) xs.length c, .slice (some ⟨b', off', none⟩) ys.length d] w (CommonOut xs ys w) := by
  unfold maxLen at hmx hmy
  go_enter Try.func13, Try.ntmps13
  go_wp2
  go_loopw [7] (fun i wr => ∃ k q : Nat, i = .int .i64 k ∧ k ≤ xs.length ∧ k ≤ ys.length ∧ wr = w.drewN q ∧ ∀ j, j < k → xs[j]? = ys[j]?) (fun i _ => ys.length - (intOf i).toNat)
  case atStart => exact ⟨0, 0, rfl, by omega, by omega, rfl, by omega⟩
  case round =>
    obtain ⟨k, q, rfl, hkx, hky, rfl, hp⟩ := hrel
    have HP := Lib.hid hp
    clear hp
    by_cases hlt : k < ys.length
    · have h1 := hx k (by omega)
      have h2 := hy k (by omega)
      have gx : k < xs.length := by omega
      have gy : k < ys.length := by omega
      simp [gx, gy] at h1 h2
      cases heq : (xs[k] == ys[k])
      · have HN := Lib.hid (show k = xs.length ∨ k = ys.length ∨ xs[k]? ≠ ys[k]? from .inr (.inr (next_ne gx gy heq)))
        have d1 : decide ((k : Int) < (ys.length : Int)) = true := by simp; omega
        go_wp2
        go_quiet (fail)
        go_wp2
        go_loopw [8] (fun i wr => ∃ m q2 : Nat, i = .int .i64 m ∧ k + m ≤ xs.length ∧ k + m ≤ ys.length ∧ wr = w.drewN q2 ∧ ∀ j, j < m → xs[xs.length - 1 - j]? = ys[ys.length - 1 - j]?) (fun i _ => ys.length - (intOf i).toNat)
        case atStart => exact ⟨0, q + nq, rfl, by omega, by omega, (by first | exact rfl | exact World.drewN_drewN ..), by omega⟩
        case round =>
          obtain ⟨m, q2, rfl, hmx2, hmy2, rfl, hp2⟩ := hrel
          have HP2 := Lib.hid hp2
          clear hp2
          by_cases hlt2 : k + m < ys.length
          · have h3 := hx (xs.length - 1 - m) (by omega)
            have h4 := hy (ys.length - 1 - m) (by omega)
            have gx2 : xs.length - 1 - m < xs.length := by omega
            have gy2 : ys.length - 1 - m < ys.length := by omega
            simp only [List.getElem?_eq_getElem gx2, List.getElem?_eq_getElem gy2, Option.getD_some] at h3 h4
            have d2 : decide ((k : Int) + (m : Int) < (ys.length : Int)) = true := by simp; omega
            cases heq2 : (xs[xs.length - 1 - m] == ys[ys.length - 1 - m])
            · have HN2 := Lib.hid (next_ne gx2 gy2 heq2)
              clear hx hy
              go_wp2
              go_quiet (fail)
              go_wp2
              go_ret2
              exact ⟨k, m, ⟨hmx2, hmy2, HP.out, HP2.out, HN.out, .inr (.inr HN2.out)⟩, rfl, _, (by first | exact rfl | exact World.drewN_drewN ..)⟩
            · have HS2 := Lib.hid (tails_succ gx2 gy2 HP2.out heq2)
              clear hx hy
              go_wp2
              go_quiet (fail)
              go_wp2
              go_roundw
              case rel => exact ⟨m + 1, _, by go_num, by omega, by omega, (by first | exact rfl | exact World.drewN_drewN ..), HS2.out⟩
              case measure => simp [intOf]; omega
          · clear hx hy
            have d2 : decide ((k : Int) + (m : Int) < (ys.length : Int)) = false := by simp; omega
            go_wp2
            go_quiet (fail)
            go_wp2
            go_ret2
            exact ⟨k, m, ⟨hmx2, hmy2, HP.out, HP2.out, HN.out, by omega⟩, rfl, _, (by first | exact rfl | exact World.drewN_drewN ..)⟩

      · have HS := Lib.hid (heads_succ gx gy HP.out heq)
        go_wp2
        go_quiet (fail)
        go_wp2
        go_roundw
        case rel => exact ⟨k + 1, _, by go_num, by omega, by omega, (by first | exact rfl | exact World.drewN_drewN ..), HS.out⟩
        case measure => simp [intOf]; omega
    · have HN := Lib.hid (show k = xs.length ∨ k = ys.length ∨ xs[k]? ≠ ys[k]? from by omega)
      go_wp2
      go_quiet (fail)
      go_wp2
      go_loopw [8] (fun i wr => ∃ m q2 : Nat, i = .int .i64 m ∧ k + m ≤ xs.length ∧ k + m ≤ ys.length ∧ wr = w.drewN q2 ∧ ∀ j, j < m → xs[xs.length - 1 - j]? = ys[ys.length - 1 - j]?) (fun i _ => ys.length - (intOf i).toNat)
      case atStart => exact ⟨0, q + nq, rfl, by omega, by omega, (by first | exact rfl | exact World.drewN_drewN ..), by omega⟩
      case round =>
        obtain ⟨m, q2, rfl, hmx2, hmy2, rfl, hp2⟩ := hrel
        have HP2 := Lib.hid hp2
        clear hp2
        by_cases hlt2 : k + m < ys.length
        · have h3 := hx (xs.length - 1 - m) (by omega)
          have h4 := hy (ys.length - 1 - m) (by omega)
          have gx2 : xs.length - 1 - m < xs.length := by omega
          have gy2 : ys.length - 1 - m < ys.length := by omega
          simp only [List.getElem?_eq_getElem gx2, List.getElem?_eq_getElem gy2, Option.getD_some] at h3 h4
          have d2 : decide ((k : Int) + (m : Int) < (ys.length : Int)) = true := by simp; omega
          cases heq2 : (xs[xs.length - 1 - m] == ys[ys.length - 1 - m])
          · have HN2 := Lib.hid (next_ne gx2 gy2 heq2)
            clear hx hy
            go_wp2
            go_quiet (fail)
            go_wp2
            go_ret2
            exact ⟨k, m, ⟨hmx2, hmy2, HP.out, HP2.out, HN.out, .inr (.inr HN2.out)⟩, rfl, _, (by first | exact rfl | exact World.drewN_drewN ..)⟩
          · have HS2 := Lib.hid (tails_succ gx2 gy2 HP2.out heq2)
            clear hx hy
            go_wp2
            go_quiet (fail)
            go_wp2
            go_roundw
            case rel => exact ⟨m + 1, _, by go_num, by omega, by omega, (by first | exact rfl | exact World.drewN_drewN ..), HS2.out⟩
            case measure => simp [intOf]; omega
        · clear hx hy
          have d2 : decide ((k : Int) + (m : Int) < (ys.length : Int)) = false := by simp; omega
          go_wp2
          go_quiet (fail)
          go_wp2
          go_ret2
          exact ⟨k, m, ⟨hmx2, hmy2, HP.out, HP2.out, HN.out, by omega⟩, rfl, _, (by first | exact rfl | exact World.drewN_drewN ..)⟩

end Go.Proofs.Ytiipiaebclljeaa
