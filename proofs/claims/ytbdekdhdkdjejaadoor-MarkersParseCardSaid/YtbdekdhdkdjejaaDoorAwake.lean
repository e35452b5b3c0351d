/- quiltlaw22.awake: the chapter's example. -/
import Derived.Test.YtbdekdhdkdjejaaDoorParse
import Derived.Test.YtbdekdhdkdjejaaDoorSameRegs
import Derived.Test.YtbdekdhdkdjejaaDoorCleanMain
namespace Go.Proofs.YtbdekdhdkdjejaaDoor
open Go.RowKit Go.Shelf

def rsA : List Reg := [⟨false, [[97]], []⟩, ⟨true, [], [[[98]], [seM]]⟩]
theorem showA : showL rsA = ([97, 10, 60, 60, 60, 60, 60, 60, 60, 10, 98, 10, 61, 61, 61, 61, 61, 61, 61, 10, 92, 61, 61, 61, 61, 61, 61, 61, 10, 62, 62, 62, 62, 62, 62, 62, 10], 0) := by decide +kernel
theorem parseA : parseL [97, 10, 60, 60, 60, 60, 60, 60, 60, 10, 98, 10, 61, 61, 61, 61, 61, 61, 61, 10, 92, 61, 61, 61, 61, 61, 61, 61, 10, 62, 62, 62, 62, 62, 62, 62, 10] = (rsA, 0, 0) := by
  have := (parse_show (rs := rsA) (by rw [showA])).1
  rwa [showA] at this
theorem cleanA : cleanR rsA = false := by decide +kernel
theorem smallA : small rsA := ⟨by decide +kernel, by decide +kernel⟩

def Yes (w : World) (e : Ending) (w' : World) : Prop := e = .returned (.bool true) ∧ Below w.heap.size w w'

theorem strs_new (A : World) (x : List UInt8) : Strs (A.alloc (.cells #[.string (B x)] 9)) (.slice (some ⟨A.heap.size, 0, none⟩) 1 1) [x] := by
  refine .inr ⟨A.heap.size, 0, 1, rfl, by simp, by simp, by decide, by simp, fun i hi => ?_⟩
  simp at hi
  subst hi
  rw [cell_of_row _ _ _ _ _ _ (heap_alloc_new A _)]
  rfl
/-- The regions as they are made. -/
theorem regsA (w : World) : Regs Any (((((w.alloc (.cells #[.string (B [97])] 9)).alloc (.cells #[.string (B [98])] 9)).alloc (.cells #[.string (B [61, 61, 61, 61, 61, 61, 61])] 9)).alloc
    (.cells #[.slice (some ⟨w.heap.size + 1, 0, none⟩) 1 1, .slice (some ⟨w.heap.size + 1 + 1, 0, none⟩) 1 1] 35)).alloc
    (.cells #[.bool false, .slice (some ⟨w.heap.size, 0, none⟩) 1 1, .slice none 0 0, .bool true, .slice none 0 0, .slice (some ⟨w.heap.size + 1 + 1 + 1, 0, none⟩) 2 2] 41))
    (.slice (some ⟨w.heap.size + 1 + 1 + 1 + 1, 0, none⟩) 2 2) rsA := by
  obtain ⟨w1, h1⟩ : ∃ w1, w1 = w.alloc (.cells #[.string (B [97])] 9) := ⟨_, rfl⟩
  have s1 := strs_new w [97]
  rw [← h1] at s1 ⊢
  have z1 : w1.heap.size = w.heap.size + 1 := by rw [h1]; simp
  obtain ⟨w2, h2⟩ : ∃ w2, w2 = w1.alloc (.cells #[.string (B [98])] 9) := ⟨_, rfl⟩
  have s2 := strs_new w1 [98]
  rw [← h2] at s2 ⊢
  have b2 : Below w1.heap.size w1 w2 := by rw [h2]; exact (Below.refl _ _).alloc (Nat.le_refl _) _
  have z2 : w2.heap.size = w1.heap.size + 1 := by rw [h2]; simp
  obtain ⟨w3, h3⟩ : ∃ w3, w3 = w2.alloc (.cells #[.string (B [61, 61, 61, 61, 61, 61, 61])] 9) := ⟨_, rfl⟩
  have s3 := strs_new w2 [61, 61, 61, 61, 61, 61, 61]
  rw [← h3] at s3 ⊢
  have b3 : Below w2.heap.size w2 w3 := by rw [h3]; exact (Below.refl _ _).alloc (Nat.le_refl _) _
  have z3 : w3.heap.size = w2.heap.size + 1 := by rw [h3]; simp
  rw [z1] at s2
  rw [z2, z1] at s3
  have s4 := strss_two w3 _ _ _ _ (s2.below b3) s3
  obtain ⟨w4, h4⟩ : ∃ w4, w4 = w3.alloc (.cells #[.slice (some ⟨w.heap.size + 1, 0, none⟩) 1 1, .slice (some ⟨w.heap.size + 1 + 1, 0, none⟩) 1 1] 35) := ⟨_, rfl⟩
  rw [← h4] at s4 ⊢
  have b4 : Below w3.heap.size w3 w4 := by rw [h4]; exact (Below.refl _ _).alloc (Nat.le_refl _) _
  have z4 : w4.heap.size = w3.heap.size + 1 := by rw [h4]; simp
  rw [z3, z2, z1] at s4
  have b5 : ∀ o, Below w4.heap.size w4 (w4.alloc o) := fun o => (Below.refl _ _).alloc (Nat.le_refl _) _
  have hrow := heap_alloc_new w4 (.cells #[.bool false, .slice (some ⟨w.heap.size, 0, none⟩) 1 1, .slice none 0 0, .bool true, .slice none 0 0, .slice (some ⟨w.heap.size + 1 + 1 + 1, 0, none⟩) 2 2] 41)
  have z : w4.heap.size = w.heap.size + 1 + 1 + 1 + 1 := by omega
  rw [← z]
  have hnil : ∀ W : World, Strs W (.slice none 0 0) [] := fun W => .inl ⟨rfl, none, 0, rfl, Nat.zero_le _, fun _ => rfl⟩
  refine ⟨_, 2, rfl, by simp [rsA], by decide, (fun _ _ => trivial), (fun h => by cases h), fun i hi => ?_⟩
  have hi2 : i < 2 := hi
  rcases i with _ | _ | i
  · refine ⟨_, 0, .slice (some ⟨w.heap.size, 0, none⟩) 1 1, .slice none 0 0, rfl, by simp, ?_, ?_, ?_, ⟨?_, fun _ _ => trivial⟩, ?_⟩
    · rw [cell_of_row _ _ _ _ _ _ hrow]; rfl
    · rw [cell_of_row _ _ _ _ _ _ hrow]; rfl
    · rw [cell_of_row _ _ _ _ _ _ hrow]; rfl
    · exact ((((s1.below b2).below b3)).below b4).below (b5 _)
    · exact ⟨none, 0, rfl, Nat.le_refl _, Nat.zero_le _, fun _ _ => trivial, fun _ => rfl, fun i hi => absurd hi (Nat.not_lt_zero _)⟩
  · refine ⟨_, 0, .slice none 0 0, .slice (some ⟨w.heap.size + 1 + 1 + 1, 0, none⟩) 2 2, rfl, by simp, ?_, ?_, ?_, ⟨hnil _, fun _ _ => trivial⟩, ?_⟩
    · rw [cell_of_row _ _ _ _ _ _ hrow]; rfl
    · rw [cell_of_row _ _ _ _ _ _ hrow]; rfl
    · rw [cell_of_row _ _ _ _ _ _ hrow]; rfl
    · exact s4.keeps (Keeps.of_below (b5 _))
  · omega

set_option maxRecDepth 100000 in
set_option maxHeartbeats 1000000 in
theorem awake_any (w : World) : Calls Tryd.prog 12 #[] w (Yes w) := by
  have hR := regsA w
  have hB : Below w.heap.size w (((((w.alloc (.cells #[.string (B [97])] 9)).alloc (.cells #[.string (B [98])] 9)).alloc (.cells #[.string (B [61, 61, 61, 61, 61, 61, 61])] 9)).alloc
    (.cells #[.slice (some ⟨w.heap.size + 1, 0, none⟩) 1 1, .slice (some ⟨w.heap.size + 1 + 1, 0, none⟩) 1 1] 35)).alloc
    (.cells #[.bool false, .slice (some ⟨w.heap.size, 0, none⟩) 1 1, .slice none 0 0, .bool true, .slice none 0 0, .slice (some ⟨w.heap.size + 1 + 1 + 1, 0, none⟩) 2 2] 41)) :=
    (((((Below.refl _ w).alloc (Nat.le_refl _) _).alloc (by simp) _).alloc (by simp; omega) _).alloc (by simp; omega) _).alloc (by simp; omega) _
  have HR := Lib.hid hR
  have HB := Lib.hid hB
  clear hR hB
  go_enter Tryd.func12, Tryd.ntmps12
  go_wp2_with fail
  refine (show_any Any _ rsA _ HR.out smallA).mono ?_
  rintro e w2 ⟨rfl, hb2⟩
  rw [showA]
  have HR2 := Lib.hid (HR.out.keeps (Keeps.of_below hb2))
  have HB2 := Lib.hid (HB.out.trans (hb2.mono HB.out.size))
  clear hb2
  go_wp2_with fail
  refine (parse_any _ _).mono ?_
  rintro e w3 ⟨v3, rfl, hr3, hb3⟩
  rw [parseA] at hr3 ⊢
  obtain ⟨a3, c3, rfl⟩ := hr3.slice
  have hl : rsA.length = 2 := rfl
  rw [hl] at hr3 ⊢
  have HR3 := Lib.hid hr3
  have HL := Lib.hid (HR2.out.keeps (Keeps.of_below hb3))
  have HB3 := Lib.hid (HB2.out.trans (hb3.mono HB2.out.size))
  clear hr3 hb3 hl
  go_wp2_with fail
  refine (sameRegs Any Any _ _ rsA _ HL.out HR3.out).mono ?_
  rintro e w4 ⟨rfl, q, rfl⟩
  go_wp2_with fail
  refine (clean_main Any _ rsA _ (HR3.out.keeps (Keeps.of_below (below_drewN (Below.refl _ _) q))) (by decide +kernel)).mono ?_
  rintro e w5 ⟨rfl, hb5⟩
  rw [cleanA]
  have b4 : Below w.heap.size w (w3.drewN q) := below_drewN HB3.out q
  have HB5 := Lib.hid (b4.trans (hb5.mono b4.size))
  clear hb5 b4
  go_wp2_with fail
  go_ret
  exact ⟨rfl, HB5.out⟩
end Go.Proofs.YtbdekdhdkdjejaaDoor
