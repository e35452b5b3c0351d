import Derived.Test.YtbdekdhdkdjejaaDoorBase
namespace Go.Proofs.YtbdekdhdkdjejaaDoor
open Go.RowKit

set_option maxHeartbeats 400000 in
theorem same_len (a b : Option Addr) (n m c d : Nat) (w : World) (h : n ≠ m) :
    Calls Tryd.prog 28 #[.slice a n c, .slice b m d] w (Read w (.bool false)) := by
  have hne : ((n : Int) != (m : Int)) = true := by rw [bne_iff_ne]; omega
  go_enter Tryd.func28, Tryd.ntmps28
  go_wp2
  go_ret
  exact ⟨rfl, 0, rfl⟩

set_option maxHeartbeats 400000 in
theorem same_nil (a b : Option Addr) (c d : Nat) (w : World) :
    Calls Tryd.prog 28 #[.slice a 0 c, .slice b 0 d] w (Read w (.bool true)) := by
  go_enter Tryd.func28, Tryd.ntmps28
  go_wp2
  go_loop [5] (fun i => i = .int .i64 0) (fun _ => 0)
  case atStart => rfl
  case round =>
    subst hrel
    go_wp2
    go_ret
    exact ⟨rfl, 0, rfl⟩

theorem same_step {xs ys : List (List UInt8)} {k : Nat} (h1 : k < xs.length) (h2 : k < ys.length) (h : ∀ j, j < k → xs[j]? = ys[j]?)
    (hb : (!(xs[k] == ys[k])) = false) : ∀ j, j < k + 1 → xs[j]? = ys[j]? := by
  intro j hj
  by_cases e : j = k
  · subst e
    simp [h1, h2] at hb ⊢
    exact hb
  · exact h j (by omega)
theorem same_ne {xs ys : List (List UInt8)} {k : Nat} (h1 : k < xs.length) (h2 : k < ys.length) (hb : (!(xs[k] == ys[k])) = true) : false = decide (xs = ys) := by
  rw [eq_comm, decide_eq_false_iff_not]
  rintro rfl
  simp at hb
theorem same_all {xs ys : List (List UInt8)} {k : Nat} (hl : xs.length = ys.length) (hk : xs.length ≤ k) (h : ∀ j, j < k → xs[j]? = ys[j]?) : true = decide (xs = ys) := by
  rw [eq_comm, decide_eq_true_eq]
  apply List.ext_getElem? 
  intro i
  by_cases hi : i < k
  · exact h i hi
  · rw [List.getElem?_eq_none (by omega), List.getElem?_eq_none (by omega)]

set_option maxHeartbeats 400000 in
theorem same_rows (b b' off off' c d : Nat) (xs ys : List (List UInt8)) (w : World) (hl : xs.length = ys.length) (hm : xs.length ≤ maxLen)
    (hx : ∀ i, i < xs.length → w.cell? ⟨b, off + i, none⟩ = some (.string (B (xs[i]?.getD []))))
    (hy : ∀ i, i < ys.length → w.cell? ⟨b', off' + i, none⟩ = some (.string (B (ys[i]?.getD [])))) :
    Calls Tryd.prog 28 #[.slice (some ⟨b, off, none⟩) xs.length c, .slice (some ⟨b', off', none⟩) ys.length d] w (Read w (.bool (decide (xs = ys)))) := by
  have HL := Lib.hid hl
  unfold maxLen at hm
  have hne : ((xs.length : Int) != (ys.length : Int)) = false := by simp [hl]
  have hle : ys.length ≤ xs.length := by omega
  have hle' : xs.length ≤ ys.length := by omega
  clear hl
  go_enter Tryd.func28, Tryd.ntmps28
  go_wp2
  go_loopw [5] (fun i wr => ∃ k q : Nat, i = .int .i64 k ∧ k ≤ xs.length ∧ wr = w.drewN q ∧ ∀ j, j < k → xs[j]? = ys[j]?) (fun i _ => xs.length - (intOf i).toNat)
  case atStart => exact ⟨0, 0, rfl, by omega, rfl, by omega⟩
  case round =>
    obtain ⟨k, q, rfl, hk, rfl, hp⟩ := hrel
    have HP := Lib.hid hp
    clear hp
    by_cases hlt : k < xs.length
    · have h1 := hx k hlt
      have hlt' : k < ys.length := by omega
      have h2 := hy k hlt'
      clear hx hy
      simp [hlt, hlt'] at h1 h2
      go_wp2
      go_region
      all_goals go_wp2
      · go_ret
        exact ⟨ret_bool (same_ne hlt hlt' (by assumption)), _, rfl⟩
      · go_roundw
        case rel => exact ⟨k + 1, _, by go_num, by omega, rfl, same_step hlt hlt' HP.out (by assumption)⟩
        case measure => simp [intOf]; omega
    · go_wp2
      go_ret
      exact ⟨ret_bool (same_all HL.out (by omega) HP.out), _, rfl⟩

/-- quiltref04.Same: are two lists of strings equal? -/
theorem same_any (v u : Value) (xs ys : List (List UInt8)) (w : World) (hx : Strs w v xs) (hy : Strs w u ys) : Calls Tryd.prog 28 #[v, u] w (Read w (.bool (decide (xs = ys)))) := by
  rcases hx with ⟨rfl, a, cap, rfl, _, _⟩ | ⟨b, off, cap, rfl, h2, h3, h4, h5, h6⟩ <;> rcases hy with ⟨rfl, a', cap', rfl, _, _⟩ | ⟨b', off', cap', rfl, h2', h3', h4', h5', h6'⟩
  · exact same_nil _ _ _ _ _
  · rw [show decide (([] : List (List UInt8)) = ys) = false from by cases ys <;> simp at h2' ⊢]
    exact same_len _ _ _ _ _ _ _ (by omega)
  · rw [show decide (xs = ([] : List (List UInt8))) = false from by cases xs <;> simp at h2 ⊢]
    exact same_len _ _ _ _ _ _ _ (by omega)
  · by_cases hl : xs.length = ys.length
    · exact same_rows _ _ _ _ _ _ _ _ _ hl (by omega) h6 h6'
    · rw [show decide (xs = ys) = false from by rw [decide_eq_false_iff_not]; rintro rfl; exact hl rfl]
      exact same_len _ _ _ _ _ _ _ hl

end Go.Proofs.YtbdekdhdkdjejaaDoor
