import Derived.Test.YtiipiaebclljeaaCommonRef
namespace Go.Proofs.Ytiipiaebclljeaa
open Go.RowKit

def Zeros (w : World) (e : Ending) (w' : World) : Prop := e = .returned (.tuple #[.int .i64 0, .int .i64 0]) ∧ ∃ q, w' = w.drewN q

set_option maxHeartbeats 1000000 in
theorem common_nil_x (a a' : Option Addr) (c d n : Nat) (w : World) : Calls Try.prog 13 #[.slice a 0 c, .slice a' n d] w (Zeros w) := by
  have h0 : (0 : Int) ≤ (n : Int) := by omega

  go_enter Try.func13, Try.ntmps13
  go_wp2
  all_goals
    go_loopw [7] (fun i wr => ∃ q : Nat, i = .int .i64 0 ∧ wr = w.drewN q) (fun _ _ => 0)
    case atStart => exact ⟨0, rfl, rfl⟩
    case round =>
      obtain ⟨q, rfl, rfl⟩ := hrel

      go_wp2
      go_quiet (fail)
      go_wp2
      go_loopw [8] (fun i wr => ∃ q : Nat, i = .int .i64 0 ∧ wr = w.drewN q) (fun _ _ => 0)
      case atStart => exact ⟨q + nq, rfl, World.drewN_drewN ..⟩
      case round =>
        obtain ⟨q2, rfl, rfl⟩ := hrel
        go_wp2
        go_quiet (fail)
        go_wp2
        go_ret2
        exact ⟨rfl, _, (by first | exact rfl | exact World.drewN_drewN ..)⟩

set_option maxHeartbeats 1000000 in
theorem common_nil_y (a a' : Option Addr) (c d n : Nat) (w : World) : Calls Try.prog 13 #[.slice a n c, .slice a' 0 d] w (Zeros w) := by
  have h0 : (0 : Int) ≤ (n : Int) := by omega

  go_enter Try.func13, Try.ntmps13
  go_wp2
  all_goals
    go_loopw [7] (fun i wr => ∃ q : Nat, i = .int .i64 0 ∧ wr = w.drewN q) (fun _ _ => 0)
    case atStart => exact ⟨0, rfl, rfl⟩
    case round =>
      obtain ⟨q, rfl, rfl⟩ := hrel

      go_wp2
      go_quiet (fail)
      go_wp2
      go_loopw [8] (fun i wr => ∃ q : Nat, i = .int .i64 0 ∧ wr = w.drewN q) (fun _ _ => 0)
      case atStart => exact ⟨q + nq, rfl, World.drewN_drewN ..⟩
      case round =>
        obtain ⟨q2, rfl, rfl⟩ := hrel
        go_wp2
        go_quiet (fail)
        go_wp2
        go_ret2
        exact ⟨rfl, _, (by first | exact rfl | exact World.drewN_drewN ..)⟩

set_option maxHeartbeats 1000000 in
theorem ref_common_nil_x (a a' : Option Addr) (c d n : Nat) (w : World) : Calls Try.prog 14 #[.slice a 0 c, .slice a' n d] w (Zeros w) := by
  have h0 : (0 : Int) ≤ (n : Int) := by omega

  go_enter Try.func14, Try.ntmps14
  go_wp2
  all_goals
    go_loopw [6] (fun i wr => ∃ q : Nat, i = .int .i64 0 ∧ wr = w.drewN q) (fun _ _ => 0)
    case atStart => exact ⟨0, rfl, rfl⟩
    case round =>
      obtain ⟨q, rfl, rfl⟩ := hrel

      go_wp2
      go_quiet (fail)
      go_wp2
      go_loopw [7] (fun i wr => ∃ q : Nat, i = .int .i64 0 ∧ wr = w.drewN q) (fun _ _ => 0)
      case atStart => exact ⟨q + nq, rfl, World.drewN_drewN ..⟩
      case round =>
        obtain ⟨q2, rfl, rfl⟩ := hrel
        go_wp2
        go_quiet (fail)
        go_wp2
        go_ret2
        exact ⟨rfl, _, (by first | exact rfl | exact World.drewN_drewN ..)⟩

set_option maxHeartbeats 1000000 in
theorem ref_common_nil_y (a a' : Option Addr) (c d n : Nat) (w : World) (hn : 0 < n) : Calls Try.prog 14 #[.slice a n c, .slice a' 0 d] w (Zeros w) := by
  have h0 : decide ((0 : Int) < (n : Int)) = true := by simp; omega

  go_enter Try.func14, Try.ntmps14
  go_wp2
  all_goals
    go_loopw [6] (fun i wr => ∃ q : Nat, i = .int .i64 0 ∧ wr = w.drewN q) (fun _ _ => 0)
    case atStart => exact ⟨0, rfl, rfl⟩
    case round =>
      obtain ⟨q, rfl, rfl⟩ := hrel

      go_wp2
      go_quiet (fail)
      go_wp2
      go_loopw [7] (fun i wr => ∃ q : Nat, i = .int .i64 0 ∧ wr = w.drewN q) (fun _ _ => 0)
      case atStart => exact ⟨q + nq, rfl, World.drewN_drewN ..⟩
      case round =>
        obtain ⟨q2, rfl, rfl⟩ := hrel
        go_wp2
        go_quiet (fail)
        go_wp2
        go_ret2
        exact ⟨rfl, _, (by first | exact rfl | exact World.drewN_drewN ..)⟩

/-- lines.Common. -/
theorem common_any (v u : Value) (xs ys : List (List UInt8)) (w : World) (hx : Strs w v xs) (hy : Strs w u ys) : Calls Try.prog 13 #[v, u] w (CommonOut xs ys w) := by
  have hz : xs = [] ∨ ys = [] → ∀ e w', Zeros w e w' → CommonOut xs ys w e w' := by
    rintro h e w' ⟨h1, h2⟩
    refine ⟨0, 0, ⟨by omega, by omega, by omega, by omega, ?_, ?_⟩, h1, h2⟩
    · rcases h with rfl | rfl
      · exact .inl rfl
      · exact .inr (.inl rfl)
    · rcases h with rfl | rfl
      · exact .inl rfl
      · exact .inr (.inl rfl)
  rcases hx with ⟨rfl, a, cap, rfl, _, _⟩ | ⟨b, off, cap, rfl, h2, h3, h4, h5, h6⟩ <;> rcases hy with ⟨rfl, a', cap', rfl, _, _⟩ | ⟨b', off', cap', rfl, h2', h3', h4', h5', h6'⟩
  · exact (common_nil_x _ _ _ _ 0 w).mono (hz (.inl rfl))
  · exact (common_nil_x _ _ _ _ _ w).mono (hz (.inl rfl))
  · exact (common_nil_y _ _ _ _ _ w).mono (hz (.inr rfl))
  · by_cases hle : xs.length ≤ ys.length
    · exact common_x _ _ _ _ _ _ _ _ _ (by omega) (by omega) hle h6 h6'
    · exact common_y _ _ _ _ _ _ _ _ _ (by omega) (by omega) (by omega) h6 h6'
/-- quiltref04.Common. -/
theorem ref_common_any (v u : Value) (xs ys : List (List UInt8)) (w : World) (hx : Strs w v xs) (hy : Strs w u ys) : Calls Try.prog 14 #[v, u] w (CommonOut xs ys w) := by
  have hz : xs = [] ∨ ys = [] → ∀ e w', Zeros w e w' → CommonOut xs ys w e w' := by
    rintro h e w' ⟨h1, h2⟩
    refine ⟨0, 0, ⟨by omega, by omega, by omega, by omega, ?_, ?_⟩, h1, h2⟩
    · rcases h with rfl | rfl
      · exact .inl rfl
      · exact .inr (.inl rfl)
    · rcases h with rfl | rfl
      · exact .inl rfl
      · exact .inr (.inl rfl)
  rcases hx with ⟨rfl, a, cap, rfl, _, _⟩ | ⟨b, off, cap, rfl, h2, h3, h4, h5, h6⟩ <;> rcases hy with ⟨rfl, a', cap', rfl, _, _⟩ | ⟨b', off', cap', rfl, h2', h3', h4', h5', h6'⟩
  · exact (ref_common_nil_x _ _ _ _ 0 w).mono (hz (.inl rfl))
  · exact (ref_common_nil_x _ _ _ _ _ w).mono (hz (.inl rfl))
  · exact (ref_common_nil_y _ _ _ _ _ w h2).mono (hz (.inr rfl))
  · exact ref_common_rows _ _ _ _ _ _ _ _ _ (by omega) (by omega) h6 h6'

theorem IsCommon.unique {xs ys : List (List UInt8)} {n m n' m' : Nat} (h : IsCommon xs ys n m) (k : IsCommon xs ys n' m') : n = n' ∧ m = m' := by
  have h1 := h.lx; have h2 := h.ly; have k1 := k.lx; have k2 := k.ly
  have e : n = n' := by
    rcases Nat.lt_trichotomy n n' with hlt | he | hlt
    · rcases h.nexth with hh | hh | hh
      · omega
      · omega
      · exact absurd (k.head n hlt) hh
    · exact he
    · rcases k.nexth with hh | hh | hh
      · omega
      · omega
      · exact absurd (h.head n' hlt) hh
  subst e
  refine ⟨rfl, ?_⟩
  rcases Nat.lt_trichotomy m m' with hlt | he | hlt
  · rcases h.nextt with hh | hh | hh
    · omega
    · omega
    · exact absurd (k.tail m hlt) hh
  · exact he
  · rcases k.nextt with hh | hh | hh
    · omega
    · omega
    · exact absurd (h.tail m' hlt) hh
end Go.Proofs.Ytiipiaebclljeaa
