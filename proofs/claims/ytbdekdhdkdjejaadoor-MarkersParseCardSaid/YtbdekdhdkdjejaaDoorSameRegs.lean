/- quiltref22.Same at equal regions. -/
import Derived.Test.YtbdekdhdkdjejaaDoorSame
import Derived.Test.YtbdekdhdkdjejaaDoorCheck
namespace Go.Proofs.YtbdekdhdkdjejaaDoor
open Go.RowKit

theorem same_true (v u : Value) (xs : List (List UInt8)) (w : World) (hx : Strs w v xs) (hy : Strs w u xs) : Calls Tryd.prog 28 #[v, u] w (Read w (.bool true)) := by
  have := same_any v u xs xs w hx hy
  rwa [decide_eq_true rfl] at this
theorem Strs.drewN {w : World} {v : Value} {xs : List (List UInt8)} (h : Strs w v xs) (q : Nat) : Strs (w.drewN q) v xs := h.below (below_drewN (Below.refl _ _) q)

set_option maxRecDepth 100000 in
set_option maxHeartbeats 2000000 in
theorem sameRegs (φ ψ : Nat → Prop) (v u : Value) (rs : List Reg) (w : World) (hv : Regs φ w v rs) (hu : Regs ψ w u rs) : Calls Tryd.prog 21 #[v, u] w (Read w (.bool true)) := by
  obtain ⟨a, c, rfl⟩ := hv.slice
  obtain ⟨a', c', rfl⟩ := hu.slice
  have hm := hv.le
  unfold maxLen at hm
  go_enter Tryd.func21, Tryd.ntmps21
  go_wp2
  go_loopw [5, 6] (fun i _ wr => ∃ k q : Nat, i = .int .i64 k ∧ k ≤ rs.length ∧ wr = w.drewN q) (fun i _ _ => rs.length - (intOf i).toNat)
  case atStart => exact ⟨0, 0, rfl, by omega, rfl⟩
  case round =>
    obtain ⟨k, q, rfl, hk, rfl⟩ := hrel
    by_cases hlt : k < rs.length
    · obtain ⟨b, off, u1, u2, rfl, hb, hc0, hc1, hc2, hs1, hs2⟩ := hv.elem hlt
      obtain ⟨b', off', v1, v2, rfl, hb', hd0, hd1, hd2, ht1, ht2⟩ := hu.elem hlt
      obtain ⟨a1, n1, c1, rfl⟩ := hs1.1.slice3
      obtain ⟨a2, c2, rfl⟩ := hs2.slice
      obtain ⟨a3, n3, c3, rfl⟩ := ht1.1.slice3
      obtain ⟨a4, c4, rfl⟩ := ht2.slice
      have hml := hs2.le
      unfold maxLen at hml
      have hin : (k : Int) < (rs.length : Int) := by omega
      have hl := fun q => same_true _ _ rs[k].lines (w.drewN q) (hs1.1.drewN q) (ht1.1.drewN q)
      have HT := Lib.hid ht2
      have HS := Lib.hid hs2
      clear hv hu ht2 hs2 hs1 ht1
      go_wp2
      go_quiet ((go_at_call 28; first | exact quiet_add_read (hl _) | exact quiet_of_read (hl _)))
      go_wp2
      go_loopw [6] (fun j wr => ∃ k2 q2 : Nat, j = .int .i64 k2 ∧ k2 ≤ rs[k].sides.length ∧ wr = w.drewN q2) (fun j _ => rs[k].sides.length - (intOf j).toNat)
      case atStart => exact ⟨0, q + nq, rfl, by omega, (by first | exact rfl | exact World.drewN_drewN ..)⟩
      case round =>
        obtain ⟨k2, q2, rfl, hk2, rfl⟩ := hrel
        by_cases hlt2 : k2 < rs[k].sides.length
        · obtain ⟨b2, off2, x, rfl, hb2, hx, hxs, _⟩ := HS.out.elem hlt2
          obtain ⟨b3, off3, y, rfl, hb3, hy, hys, _⟩ := HT.out.elem hlt2
          have hl2 := fun q => same_true _ _ rs[k].sides[k2] (w.drewN q) (hxs.drewN q) (hys.drewN q)
          obtain ⟨a5, n5, c5, rfl⟩ := hxs.slice3
          obtain ⟨a6, n6, c6, rfl⟩ := hys.slice3
          have hin2 : (k2 : Int) < (rs[k].sides.length : Int) := by omega
          clear hxs hys hl
          go_wp2
          go_quiet ((go_at_call 28; first | exact quiet_add_read (hl2 _) | exact quiet_of_read (hl2 _)))
          go_wp2
          go_roundw
          case rel => exact ⟨k2 + 1, _, by go_num, by omega, (by first | exact rfl | exact World.drewN_drewN ..)⟩
          case measure => simp [intOf]; omega
        · have hlt2' : ¬ ((k2 : Int) < (rs[k].sides.length : Int)) := by omega
          clear hl
          go_wp2
          go_roundw
          case rel => exact ⟨k + 1, _, by go_num, by omega, rfl⟩
          case measure => simp [intOf]; omega
    · have hlt' : ¬ ((k : Int) < (rs.length : Int)) := by omega
      go_wp2
      go_ret
      exact ⟨rfl, q, rfl⟩
end Go.Proofs.YtbdekdhdkdjejaaDoor
