/- markers.Clean. -/
import Derived.Test.YtbdekdhdkdjejaaDoorShowRef
namespace Go.Proofs.YtbdekdhdkdjejaaDoor
open Go.RowKit

set_option maxHeartbeats 400000 in
theorem isConf_any (bc : Bool) (a1 a2 : Option Addr) (n1 c1 n2 c2 : Nat) (w : World) : Calls Tryd.prog 40 #[.agg #[.bool bc, .slice a1 n1 c1, .slice a2 n2 c2]] w fun e w' => e = .returned (.bool bc) ∧ Below w.heap.size w w' := by
  go_enter Tryd.func40, Tryd.ntmps40
  go_wp2
  go_ret
  exact ⟨rfl, (Below.refl _ _).alloc (Nat.le_refl _) _⟩

set_option maxHeartbeats 1000000 in
theorem index_conf (φ : Nat → Prop) (a : Option Addr) (c : Nat) (rs : List Reg) (w : World) (h : Regs φ w (.slice a rs.length c) rs) :
    Calls Tryd.prog 62 #[.slice a rs.length c, .func (.func 40) #[] #[]] w fun e w' => (∃ r : Int, e = .returned (.int .i64 r) ∧ decide (0 ≤ r) = hasConf rs) ∧ Below w.heap.size w w' := by
  have hm := h.le
  unfold maxLen at hm
  go_enter Tryd.func62, Tryd.ntmps62
  go_wp2
  go_loopw [5, 8] (fun _ i wr => ∃ k : Nat, i = .int .i64 k ∧ k ≤ rs.length ∧ Below w.heap.size w wr ∧ ∀ j (hj : j < rs.length), j < k → rs[j].conf = false) (fun _ i _ => rs.length - (intOf i).toNat)
  case atStart => exact ⟨0, rfl, by omega, Below.refl _ _, by omega⟩
  case round =>
    obtain ⟨k, rfl, hk, hbel, hp⟩ := hrel
    have hsz := hbel.size
    have HP := Lib.hid hp
    clear hp
    by_cases hlt : k < rs.length
    · obtain ⟨b, off, u1, u2, rfl, hbw, hc0w, hc1w, hc2w, hs1, hs2⟩ := h.elem hlt
      have hc0 := (hbel.cell (p := ⟨b, off + k * 3, none⟩) hbw).trans hc0w
      have hc1 := (hbel.cell (p := ⟨b, off + k * 3 + 1, none⟩) hbw).trans hc1w
      have hc2 := (hbel.cell (p := ⟨b, off + k * 3 + 2, none⟩) hbw).trans hc2w
      clear hc0w hc1w hc2w
      obtain ⟨a1, n1, c1, rfl⟩ := hs1.1.slice3
      obtain ⟨a2, c2, rfl⟩ := hs2.slice
      have hin : (k : Int) < (rs.length : Int) := by omega
      cases he : rs[k].conf
      · have HN := Lib.hid (conf_step HP.out hlt he)
        rw [he] at hc0
        go_wp2_with fail
        refine (isConf_any _ _ _ _ _ _ _ _).mono ?_
        rintro e w1 ⟨rfl, hb1⟩
        go_wp2
        go_roundw
        case rel => exact ⟨k + 1, by go_num, by omega, hbel.trans (hb1.mono hsz), HN.out⟩
        case measure => simp [intOf]; omega
      · have HE := Lib.hid (hasConf_hit hlt he)
        rw [he] at hc0
        go_wp2_with fail
        refine (isConf_any _ _ _ _ _ _ _ _).mono ?_
        rintro e w1 ⟨rfl, hb1⟩
        go_wp2
        go_ret
        exact ⟨⟨_, rfl, by rw [HE.out]; simp⟩, hbel.trans (hb1.mono hsz)⟩
    · have HE := Lib.hid (hasConf_miss (fun j hj => HP.out j hj (by omega)))
      go_wp2
      go_ret
      exact ⟨⟨_, rfl, by rw [HE.out]; rfl⟩, hbel⟩
set_option maxHeartbeats 1000000 in
theorem contains_conf (φ : Nat → Prop) (a : Option Addr) (c : Nat) (rs : List Reg) (w : World) (h : Regs φ w (.slice a rs.length c) rs) :
    Calls Tryd.prog 39 #[.slice a rs.length c, .func (.func 40) #[] #[]] w fun e w' => e = .returned (.bool (hasConf rs)) ∧ Below w.heap.size w w' := by
  go_enter Tryd.func39, Tryd.ntmps39
  go_wp2_with (go_at_call 62; refine (index_conf φ _ _ _ _ h).mono ?_; rintro e w' ⟨⟨r, rfl, hr⟩, hb⟩)
  go_ret
  exact ⟨ret_bool rfl, hb⟩

set_option maxHeartbeats 1000000 in
theorem clean_main (φ : Nat → Prop) (v : Value) (rs : List Reg) (w : World) (h : Regs φ w v rs) (hs : ∀ r ∈ rs, (allOf r).length ≤ 1000000) :
    Calls Tryd.prog 17 #[v] w fun e w' => e = .returned (.bool (cleanR rs)) ∧ Below w.heap.size w w' := by
  obtain ⟨a, c, rfl⟩ := h.slice
  have hcall := check_any φ _ rs w h hs
  clear hs
  by_cases h0 : checkAll rs = 0
  · have HE := Lib.hid (show (!hasConf rs) = cleanR rs from by unfold cleanR; rw [h0]; simp)
    rw [h0] at hcall
    clear h0
    go_enter Tryd.func17, Tryd.ntmps17
    go_wp2_with fail
    refine hcall.mono ?_
    rintro e w1 ⟨rfl, hb1⟩
    have H1 := h.keeps (Keeps.of_below hb1)
    go_wp2_with fail
    refine (contains_conf φ _ _ _ _ H1).mono ?_
    rintro e w2 ⟨rfl, hb2⟩
    go_wp2_with fail
    go_ret
    exact ⟨ret_bool HE.out, hb1.trans (hb2.mono hb1.size)⟩
  · have HE := Lib.hid (show false = cleanR rs from by unfold cleanR; simp [h0])
    have HB : ((checkAll rs : Int) == 0) = false := by rw [beq_eq_false_iff_ne]; omega
    clear h0
    go_enter Tryd.func17, Tryd.ntmps17
    go_wp2_with fail
    refine hcall.mono ?_
    rintro e w1 ⟨rfl, hb1⟩
    go_wp2_with fail
    go_ret
    exact ⟨ret_bool HE.out, hb1⟩
end Go.Proofs.YtbdekdhdkdjejaaDoor
