/- Lines, shapes. -/
import Derived.Test.YtbdekdhdkdjejaaDoorQuote
import Derived.Test.YtbdekdhdkdjejaaDoorRegs
import Derived.Test.YtbdekdhdkdjejaaDoorJoin
namespace Go.Proofs.YtbdekdhdkdjejaaDoor
open Go.RowKit

def emptyIn (xss : List (List (List UInt8))) : Bool := xss.any fun x => x.isEmpty
def shapeL (r : Reg) : Bool := if r.conf then r.lines.isEmpty && !r.sides.isEmpty && !emptyIn r.sides else !r.lines.isEmpty && r.sides.isEmpty

theorem zero_dec {α : Type} (l : List α) : ((l.length : Int) == 0) = l.isEmpty := by cases l <;> simp <;> omega
theorem len_zero {α : Type} {l : List α} (h : l.isEmpty = true) : l.length = 0 := by cases l <;> simp_all
theorem len_pos {α : Type} {l : List α} (h : l.isEmpty = false) : 0 < l.length := by cases l <;> simp_all
theorem Strss.slice {φ : Nat → Prop} {w : World} {v : Value} {xss : List (List (List UInt8))} (h : Strss φ w v xss) : ∃ a c, v = .slice a xss.length c := by
  obtain ⟨a, c, h, _⟩ := h; exact ⟨a, c, h⟩
theorem Strss.le {φ : Nat → Prop} {w : World} {v : Value} {xss : List (List (List UInt8))} (h : Strss φ w v xss) : xss.length ≤ maxLen := by
  obtain ⟨a, c, _, h1, h2, _⟩ := h; omega
theorem Strss.elem {φ : Nat → Prop} {w : World} {a : Option Addr} {n c : Nat} {xss : List (List (List UInt8))} (h : Strss φ w (.slice a n c) xss) {k : Nat} (hk : k < xss.length) :
    ∃ b off u, a = some ⟨b, off, none⟩ ∧ b < w.heap.size ∧ w.cell? ⟨b, off + k, none⟩ = some u ∧ StrsIn φ w u xss[k] := by
  obtain ⟨a', c', e, _, _, _, _, h⟩ := h
  cases e
  exact h k hk

set_option maxHeartbeats 400000 in
theorem sideEmpty_any (a : Option Addr) (c : Nat) (x : List (List UInt8)) (w : World) : Calls Tryd.prog 58 #[.slice a x.length c] w fun e w' => e = .returned (.bool x.isEmpty) ∧ w = w' := by
  have hz := zero_dec x
  go_enter Tryd.func58, Tryd.ntmps58
  go_wp2
  go_ret
  exact ⟨rfl, rfl⟩

theorem emptyIn_hit {xss : List (List (List UInt8))} {k : Nat} (hk : k < xss.length) (h : xss[k].isEmpty = true) : emptyIn xss = true := by
  unfold emptyIn
  rw [List.any_eq_true]
  exact ⟨_, List.getElem_mem hk, h⟩
theorem emptyIn_miss {xss : List (List (List UInt8))} (h : ∀ j (hj : j < xss.length), xss[j].isEmpty = false) : emptyIn xss = false := by
  unfold emptyIn
  rw [List.any_eq_false]
  intro x hx
  obtain ⟨j, hj, rfl⟩ := List.getElem_of_mem hx
  rw [h j hj]; decide

set_option maxHeartbeats 1000000 in
theorem index_sides (φ : Nat → Prop) (a : Option Addr) (c : Nat) (xss : List (List (List UInt8))) (w : World) (h : Strss φ w (.slice a xss.length c) xss) :
    Calls Tryd.prog 71 #[.slice a xss.length c, .func (.func 58) #[] #[]] w fun e w' => (∃ r : Int, e = .returned (.int .i64 r) ∧ decide (0 ≤ r) = emptyIn xss) ∧ ∃ q, w' = w.drewN q := by
  have hm := h.le
  unfold maxLen at hm
  go_enter Tryd.func71, Tryd.ntmps71
  go_wp2
  go_loopw [5, 8] (fun _ i wr => ∃ k q : Nat, i = .int .i64 k ∧ k ≤ xss.length ∧ wr = w.drewN q ∧ ∀ j (hj : j < xss.length), j < k → xss[j].isEmpty = false) (fun _ i _ => xss.length - (intOf i).toNat)
  case atStart => exact ⟨0, 0, rfl, by omega, rfl, by omega⟩
  case round =>
    obtain ⟨k, q, rfl, hk, rfl, hp⟩ := hrel
    have HP := Lib.hid hp
    clear hp
    by_cases hlt : k < xss.length
    · obtain ⟨b, off, u, rfl, hb, hcell, hu, _⟩ := h.elem hlt
      obtain ⟨a2, c2, rfl⟩ := hu.slice
      have hin : (k : Int) < (xss.length : Int) := by omega
      cases he : xss[k].isEmpty
      · go_wp2_with (go_at_call 58; refine (sideEmpty_any _ _ _ _).mono ?_; rintro e w' ⟨rfl, rfl⟩)
        go_roundw
        case rel =>
          refine ⟨k + 1, _, by go_num, by omega, rfl, fun j hj hjk => ?_⟩
          by_cases e : j = k
          · subst e; exact he
          · exact HP.out j hj (by omega)
        case measure => simp [intOf]; omega
      · have HE := Lib.hid (emptyIn_hit hlt he)
        go_wp2_with (go_at_call 58; refine (sideEmpty_any _ _ _ _).mono ?_; rintro e w' ⟨rfl, rfl⟩)
        go_ret
        exact ⟨⟨_, rfl, by rw [HE.out]; simp⟩, _, rfl⟩
    · have HE := Lib.hid (emptyIn_miss (fun j hj => HP.out j hj (by omega)))
      go_wp2
      go_ret
      exact ⟨⟨_, rfl, by rw [HE.out]; rfl⟩, _, rfl⟩
set_option maxHeartbeats 1000000 in
theorem contains_sides (φ : Nat → Prop) (a : Option Addr) (c : Nat) (xss : List (List (List UInt8))) (w : World) (h : Strss φ w (.slice a xss.length c) xss) :
    Calls Tryd.prog 57 #[.slice a xss.length c, .func (.func 58) #[] #[]] w (Read w (.bool (emptyIn xss))) := by
  go_enter Tryd.func57, Tryd.ntmps57
  go_wp2_with (go_at_call 71; refine (index_sides φ _ _ _ _ h).mono ?_; rintro e w' ⟨⟨r, rfl, hr⟩, q, rfl⟩)
  go_ret
  exact ⟨ret_bool rfl, q, rfl⟩

set_option linter.unusedSimpArgs false
set_option maxHeartbeats 1000000 in
theorem shaped_any (φ : Nat → Prop) (r : Reg) (v1 v2 : Value) (w : World) (h1 : StrsIn φ w v1 r.lines) (h2 : Strss φ w v2 r.sides) :
    Calls Tryd.prog 34 #[.agg #[.bool r.conf, v1, v2]] w fun e w' => e = .returned (.bool (shapeL r)) ∧ Below w.heap.size w w' := by
  obtain ⟨a1, c1, rfl⟩ := h1.1.slice
  obtain ⟨a2, c2, rfl⟩ := h2.slice
  have b0 := fun o => (Below.refl w.heap.size w).alloc (Nat.le_refl _) o
  have z1 := zero_dec r.lines
  have z2 := zero_dec r.sides
  have k2 := fun (o : Obj) (w' : World) (hw : w' = w.alloc o) => contains_sides φ a2 c2 r.sides w' (h2.keeps (by rw [hw]; exact Keeps.of_below (b0 _)))
  have K2 := Lib.hid k2
  clear k2 h1 h2
  cases hn : emptyIn r.sides
  all_goals
    cases hc : r.conf <;> cases hl : r.lines.isEmpty <;> cases hs : r.sides.isEmpty <;> (rw [hl] at z1; rw [hs] at z2) <;>
    (have HE := Lib.hid (show shapeL r = _ from by unfold shapeL; rw [hc, hl, hs, hn])
     first | have n1 := len_zero hl | have n1 := len_pos hl
     first | have n2 := len_zero hs | have n2 := len_pos hs
     clear hl hs
     go_enter Tryd.func34, Tryd.ntmps34
     go_wp2_with (go_at_call 57; refine (K2.out _ _ rfl).mono ?_; rintro e w' ⟨rfl, q, rfl⟩; rw [hn])
     go_ret
     exact ⟨ret_bool (by rw [HE.out]; rfl), by first | exact below_drewN (b0 _) _ | exact b0 _⟩)
end Go.Proofs.YtbdekdhdkdjejaaDoor
