/- The walks of MarkersQuote and MarkersInverse. -/
import Derived.Test.YtbdekdhdkdjejaaDoorAwake
namespace Go.Proofs.YtbdekdhdkdjejaaDoor
open Go.RowKit Go.Shelf

theorem undef_bool (b : Bool) : (some undef = some (Value.bool b)) = False := by simp [undef]

set_option maxRecDepth 100000 in
set_option maxHeartbeats 1000000 in
theorem lawQuote (l : List UInt8) (w : World) : Calls Tryd.prog 5 #[.string (B l)] w (Yes w) := by
  have hun := undef_bool
  by_cases h : 2000 < l.length
  · have hd : decide ((2000 : Int) < (l.length : Int)) = true := by simp; omega
    go_enter Tryd.func5, Tryd.ntmps5
    go_wp2_with (go_at_call 12; refine (awake_any _).mono ?_; rintro e w1 ⟨rfl, hb⟩)
    go_ret
    exact ⟨rfl, hb⟩
  · have hd : decide ((2000 : Int) < (l.length : Int)) = false := by simp; omega
    have hl : l.length ≤ 1000000 := by omega
    clear h
    go_enter Tryd.func5, Tryd.ntmps5
    go_wp2_with fail
    refine (quote_any l _ hl).mono ?_
    rintro e w1 ⟨rfl, rfl⟩
    go_wp2_with fail
    refine (ref_quote_any l _ hl).mono ?_
    rintro e w1 ⟨rfl, rfl⟩
    go_wp2_with fail
    refine (unquote_any l _ hl).mono ?_
    rintro e w1 ⟨rfl, rfl⟩
    go_wp2_with fail
    refine (ref_unquote_any l _ hl).mono ?_
    rintro e w1 ⟨rfl, rfl⟩
    go_wp2_with fail
    refine (awake_any _).mono ?_
    rintro e w1 ⟨rfl, hb⟩
    go_wp2_with fail
    go_ret
    exact ⟨rfl, hb⟩

theorem quoteL_len (l : List UInt8) : (quoteL l).length ≤ l.length + 1 := by
  unfold quoteL
  split
  · simp
  · omega

set_option maxRecDepth 100000 in
set_option maxHeartbeats 1000000 in
theorem lawInverse (a b : List UInt8) (w : World) : Calls Tryd.prog 6 #[.string (B a), .string (B b)] w (Yes w) := by
  have hun := undef_bool
  by_cases h : 2000 < a.length
  · have hd : decide ((2000 : Int) < (a.length : Int)) = true := by simp; omega
    go_enter Tryd.func6, Tryd.ntmps6
    go_wp2_with (go_at_call 12; refine (awake_any _).mono ?_; rintro e w1 ⟨rfl, hb⟩)
    go_ret
    exact ⟨rfl, hb⟩
  · have hd : decide ((2000 : Int) < (a.length : Int)) = false := by simp; omega
    by_cases h' : 2000 < b.length
    · have hd' : decide ((2000 : Int) < (b.length : Int)) = true := by simp; omega
      go_enter Tryd.func6, Tryd.ntmps6
      go_wp2_with (go_at_call 12; refine (awake_any _).mono ?_; rintro e w1 ⟨rfl, hb⟩)
      go_ret
      exact ⟨rfl, hb⟩
    · have hd' : decide ((2000 : Int) < (b.length : Int)) = false := by simp; omega
      have hla : a.length ≤ 1000000 := by omega
      have hlb : b.length ≤ 1000000 := by omega
      have hlq : (quoteL a).length ≤ 1000000 := by have := quoteL_len a; omega
      have hm := quote_not_marker a
      obtain ⟨m1, m2, m3⟩ := not_markers hm
      unfold opM at m1
      unfold seM at m2
      unfold clM at m3
      have n1 : (quoteL a != [60, 60, 60, 60, 60, 60, 60]) = true := by simp only [bne, m1, Bool.not_false]
      have n2 : (quoteL a != [61, 61, 61, 61, 61, 61, 61]) = true := by simp only [bne, m2, Bool.not_false]
      have n3 : (quoteL a != [62, 62, 62, 62, 62, 62, 62]) = true := by simp only [bne, m3, Bool.not_false]
      have hq : (quoteL a == quoteL b) = (a == b) := by
        cases e : (a == b)
        · have : a ≠ b := by simpa using e
          have h2 : quoteL a ≠ quoteL b := fun h3 => this (quote_inj.1 h3)
          simpa using h2
        · have : a = b := by simpa using e
          subst this
          simp
      have HQ := Lib.hid hq
      clear h h' hm hq
      go_enter Tryd.func6, Tryd.ntmps6
      go_wp2_with fail
      refine (quote_any a _ hla).mono ?_
      rintro e w1 ⟨rfl, rfl⟩
      go_wp2_with fail
      refine (quote_any b _ hlb).mono ?_
      rintro e w1 ⟨rfl, rfl⟩
      go_wp2_with fail
      refine (unquote_any (quoteL a) _ hlq).mono ?_
      rintro e w1 ⟨rfl, rfl⟩
      rw [unquote_quote]
      go_wp2_with fail
      refine (awake_any _).mono ?_
      rintro e w1 ⟨rfl, hb⟩
      go_wp2_with fail
      go_ret
      exact ⟨rfl, hb⟩
end Go.Proofs.YtbdekdhdkdjejaaDoor
