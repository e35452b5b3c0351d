import Derived.Test.YtbdekdhdkdjejaaDoorBase
namespace Go.Proofs.YtbdekdhdkdjejaaDoor
open Go.RowKit

def badC (x y : Int) (c : UInt8) : Bool := ((c.toNat : Int) == x) || ((c.toNat : Int) == y)
def cleanL (x y : Int) (l : List UInt8) : Bool := !l.any (badC x y)
theorem clean_hit {x y : Int} {l : List UInt8} {k : Nat} (h : k < l.length) (hb : badC x y l[k] = true) : false = cleanL x y l := by
  unfold cleanL
  rw [eq_comm, Bool.not_eq_false', List.any_eq_true]
  exact ⟨l[k], List.getElem_mem h, hb⟩
theorem clean_all {x y : Int} {l : List UInt8} (h : ∀ j (hj : j < l.length), badC x y l[j] = false) : true = cleanL x y l := by
  unfold cleanL
  rw [eq_comm, Bool.not_eq_true', List.any_eq_false]
  intro c hc
  obtain ⟨j, hj, rfl⟩ := List.getElem_of_mem hc
  rw [h j hj]; exact Bool.false_ne_true

set_option maxHeartbeats 400000 in
/-- quiltref04.clean. -/
theorem clean_any (l : List UInt8) (x y : Int) (w : World) (hl : l.length ≤ maxLen) : Calls Tryd.prog 56 #[.string (B l), .int .u8 x, .int .u8 y] w (Read w (.bool (cleanL x y l))) := by
  unfold maxLen at hl
  go_enter Tryd.func56, Tryd.ntmps56
  go_wp2
  go_loop [7] (fun i => ∃ k : Nat, i = .int .i64 k ∧ k ≤ l.length ∧ ∀ j (hj : j < l.length), j < k → badC x y l[j] = false) (fun i => l.length - (intOf i).toNat)
  case atStart => exact ⟨0, rfl, by omega, by omega⟩
  case round =>
    obtain ⟨k, rfl, hk, hp⟩ := hrel
    have HP := Lib.hid hp
    clear hp
    by_cases hlt : k < l.length
    · cases h1 : ((l[k].toNat : Int) == x)
      · cases h2 : ((l[k].toNat : Int) == y)
        · have hb : badC x y l[k] = false := by unfold badC; rw [h1, h2]; rfl
          have HB := Lib.hid hb
          clear hb
          go_wp2
          go_round
          case rel =>
            refine ⟨k + 1, by go_num, by omega, fun j hj hjk => ?_⟩
            by_cases e : j = k
            · subst e; exact HB.out
            · exact HP.out j hj (by omega)
          case measure => simp [intOf]; omega
        · have hb : badC x y l[k] = true := by unfold badC; rw [h2]; simp
          have HB := Lib.hid hb
          clear hb
          go_wp2
          go_ret
          exact ⟨ret_bool (clean_hit hlt HB.out), 0, rfl⟩
      · have hb : badC x y l[k] = true := by unfold badC; rw [h1]; simp
        have HB := Lib.hid hb
        clear hb
        go_wp2
        go_ret
        exact ⟨ret_bool (clean_hit hlt HB.out), 0, rfl⟩
    · go_wp2
      go_ret
      exact ⟨ret_bool (clean_all (fun j hj => HP.out j hj (by omega))), 0, rfl⟩

end Go.Proofs.YtbdekdhdkdjejaaDoor
