/- The walks of LinesWords, LinesWhole and LinesEnds: the functions return true and turn nothing that was there. -/
import Derived.Test.YtiipiaebclljeaaAwake
import Derived.Test.YtiipiaebclljeaaGreat
namespace Go.Proofs.Ytiipiaebclljeaa
open Go.RowKit

def Yes (w : World) (e : Ending) (w' : World) : Prop := e = .returned (.bool true) ∧ Below w.heap.size w w'
def reach : Nat := 140737488351232

set_option maxHeartbeats 1000000 in
theorem lawWords (l : List UInt8) (v u : Value) (xs ys : List (List UInt8)) (w : World) (hl : l.length ≤ reach) (hx : Strs w v xs) (hy : Strs w u ys) (hrx : ∀ x ∈ xs, x.length ≤ reach) (hry : ∀ x ∈ ys, x.length ≤ reach) :
    Calls Try.prog 3 #[.string (B l), v, u] w (Yes w) := by
  unfold reach at hl hrx hry
  have HRX := Lib.hid hrx
  have HRY := Lib.hid hry
  clear hrx hry
  by_cases h : 200 < l.length
  · have hd : decide ((200 : Int) < (l.length : Int)) = true := by simp; omega
    go_enter Try.func3, Try.ntmps3
    go_wp2_with (go_at_call 12; refine (awake_any _).mono ?_; rintro e w1 ⟨rfl, hb⟩)
    go_ret
    exact ⟨rfl, hb⟩
  · have hd : decide ((200 : Int) < (l.length : Int)) = false := by simp; omega
    cases hg : greatL xs
    · have HG := Lib.hid hg
      clear hg
      cases hg2 : greatL ys
      · have HG2 := Lib.hid hg2
        clear hg2
        go_enter Try.func3, Try.ntmps3
        go_wp2_with fail
        refine (great_any _ _ _ hx HRX.out).mono ?_
        rintro e w1 ⟨rfl, q, rfl⟩
        rw [HG.out]
        go_wp2_with fail
        refine (great_any _ ys _ (hy.below (below_drewN (Below.refl _ _) q)) HRY.out).mono ?_
        rintro e w1 ⟨rfl, q2, rfl⟩
        rw [HG2.out]
        go_wp2_with fail
        refine (common_any _ _ xs ys _ (hx.below (below_drewN (Below.refl _ _) _)) (hy.below (below_drewN (Below.refl _ _) _))).mono ?_
        rintro e w1 ⟨n, m, hc, rfl, q3, rfl⟩
        go_wp2_with fail
        refine (ref_common_any _ _ xs ys _ (hx.below (below_drewN (Below.refl _ _) _)) (hy.below (below_drewN (Below.refl _ _) _))).mono ?_
        rintro e w1 ⟨n', m', hc', rfl, q4, rfl⟩
        obtain ⟨rfl, rfl⟩ := hc.unique hc'
        clear hc hc'
        go_wp2_with fail
        refine (words_any l _ (by omega)).mono ?_
        rintro e w1 ⟨v1, rfl, hs1, hb1⟩
        go_wp2_with fail
        refine (ref_words_any l _ (by omega)).mono ?_
        rintro e w2 ⟨v2, rfl, hs2, hb2⟩
        go_wp2_with fail
        refine (same_true _ _ (wordsL l) _ (hs1.below hb2) hs2).mono ?_
        rintro e w3 ⟨rfl, q5, rfl⟩
        have b2 : Below w.heap.size w w2 := (below_drewN (Below.refl _ _) _).trans (hb1.trans (hb2.mono hb1.size))
        go_wp2_with fail
        refine (awake_any _).mono ?_
        rintro e w4 ⟨rfl, hb4⟩
        go_wp2_with fail
        go_ret
        exact ⟨rfl, (below_drewN b2 q5).trans (hb4.mono b2.size)⟩
      · have HG2 := Lib.hid hg2
        clear hg2
        go_enter Try.func3, Try.ntmps3
        go_wp2_with fail
        refine (great_any _ _ _ hx HRX.out).mono ?_
        rintro e w1 ⟨rfl, q, rfl⟩
        rw [HG.out]
        go_wp2_with fail
        refine (great_any _ ys _ (hy.below (below_drewN (Below.refl _ _) q)) HRY.out).mono ?_
        rintro e w1 ⟨rfl, q2, rfl⟩
        rw [HG2.out]
        go_wp2_with fail
        refine (awake_any _).mono ?_
        rintro e w4 ⟨rfl, hb4⟩
        go_wp2_with fail
        go_ret
        exact ⟨rfl, (below_drewN (Below.refl _ _) _).trans (hb4.mono (Nat.le_refl _))⟩
    · have HG := Lib.hid hg
      clear hg
      go_enter Try.func3, Try.ntmps3
      go_wp2_with fail
      refine (great_any _ _ _ hx HRX.out).mono ?_
      rintro e w1 ⟨rfl, q, rfl⟩
      rw [HG.out]
      go_wp2_with fail
      refine (awake_any _).mono ?_
      rintro e w4 ⟨rfl, hb4⟩
      go_wp2_with fail
      go_ret
      exact ⟨rfl, (below_drewN (Below.refl _ _) _).trans (hb4.mono (Nat.le_refl _))⟩
end Go.Proofs.Ytiipiaebclljeaa
