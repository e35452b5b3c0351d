/- The walk of MarkersParse. -/
import Derived.Test.YtbdekdhdkdjejaaDoorRefParse
namespace Go.Proofs.YtbdekdhdkdjejaaDoor
open Go.RowKit Go.Shelf

theorem ref_parse_any (l : List UInt8) (w : World) : Calls Tryd.prog 20 #[.string (B l)] w (ParseOut l w) := by
  by_cases h : (splitL l).2 = 0
  · exact ref_parse_main l w h
  · exact ref_parse_err l w h

set_option maxRecDepth 100000 in
set_option maxHeartbeats 1000000 in
theorem lawParse (l : List UInt8) (w : World) : Calls Tryd.prog 4 #[.string (B l)] w (Yes w) := by
  have hun := undef_bool
  by_cases h : 3000 < l.length
  · have hd : decide ((3000 : Int) < (l.length : Int)) = true := by simp; omega
    go_enter Tryd.func4, Tryd.ntmps4
    go_wp2_with (go_at_call 12; refine (awake_any _).mono ?_; rintro e w1 ⟨rfl, hb⟩)
    go_ret
    exact ⟨rfl, hb⟩
  · have hd : decide ((3000 : Int) < (l.length : Int)) = false := by simp; omega
    obtain ⟨rs, n, c, hP⟩ : ∃ rs n c, parseL l = (rs, n, c) := ⟨_, _, _, rfl⟩
    have HP := Lib.hid hP
    clear h hP
    go_enter Tryd.func4, Tryd.ntmps4
    go_wp2_with fail
    refine (parse_any l _).mono ?_
    rintro e w1 ⟨v1, rfl, hr1, hb1⟩
    rw [HP.out] at hr1 ⊢
    have HR1 := Lib.hid hr1
    have HB1 := Lib.hid hb1
    clear hr1 hb1
    go_wp2_with fail
    refine (ref_parse_any l _).mono ?_
    rintro e w2 ⟨v2, rfl, hr2, hb2⟩
    rw [HP.out] at hr2 ⊢
    have HR2 := Lib.hid hr2
    have HL2 := Lib.hid (HR1.out.keeps (Keeps.of_below hb2))
    have HB2 := Lib.hid (HB1.out.trans (hb2.mono HB1.out.size))
    clear hr2 hb2
    go_wp2_with fail
    refine (sameRegs Any Any _ _ rs _ HL2.out HR2.out).mono ?_
    rintro e w3 ⟨rfl, q, rfl⟩
    have HB3 := Lib.hid (below_drewN HB2.out q)
    go_wp2_with fail
    refine (awake_any _).mono ?_
    rintro e w8 ⟨rfl, hb8⟩
    have HB8 := Lib.hid (HB3.out.trans (hb8.mono HB3.out.size))
    clear hb8
    go_wp2_with fail
    go_ret
    exact ⟨rfl, HB8.out⟩
end Go.Proofs.YtbdekdhdkdjejaaDoor
