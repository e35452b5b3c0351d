import Derived.Test.YtiipiaebclljeaaWordsSpec
import Derived.Test.YtiipiaebclljeaaParts
namespace Go.Proofs.Ytiipiaebclljeaa
open Go.RowKit

theorem drewN_owns {w : World} {base : Nat} {v : Value} {xs : List (List UInt8)} (h : Owns w base v xs) (n : Nat) : World.ownsRow (w.drewN n) base 9 1 v xs.length (xs.map strV) := h
theorem words_step {l : List UInt8} {k m : Nat} {xs : List (List UInt8)} (hlt : k < l.length) (hkm : k + 1 ≤ m) (hm : m ≤ l.length)
    (hp : ∀ j (hj : j < l.length), k < j → j < m → 0 < kindOf l[k] ∧ kindOf l[j] = kindOf l[k]) (hs : ∀ hl : m < l.length, ¬ (0 < kindOf l[k] ∧ kindOf l[m] = kindOf l[k]))
    (hi : wordsL l = xs ++ wordsL (l.drop k)) : wordsL l = (xs ++ [(l.drop k).take (m - k)]) ++ wordsL (l.drop m) := by
  have hne : l.drop k ≠ [] := by
    intro h
    have := congrArg List.length h
    rw [List.length_drop] at this
    simp at this
    omega
  have hw : wlen (l.drop k) = m - k := by
    refine wlen_of (by rw [List.length_drop]; omega) (by omega) (by rw [List.length_drop]; omega) ?_ ?_
    · intro j hj h1 h2
      rw [List.length_drop] at hj
      have := hp (k + j) (by omega) (by omega) (by omega)
      simp only [List.getElem_drop]
      simpa using this
    · intro hl h
      rw [List.length_drop] at hl
      simp only [List.getElem_drop] at h
      have e : k + (m - k) = m := by omega
      simp only [e, Nat.add_zero] at h
      exact hs (by omega) h
  rw [hi, wordsL_cons hne, hw, List.drop_drop, show k + (m - k) = m from by omega, List.append_assoc]
  rfl

set_option maxHeartbeats 2000000 in
theorem ref_words_any (l : List UInt8) (w : World) (hl : l.length ≤ 65536) :
    Calls Try.prog 17 #[.string (B l)] w fun e w' => ∃ v, e = .returned v ∧ Strs w' v (wordsL l) ∧ Below w.heap.size w w' := by
  obtain ⟨i0, hi, hz0, hz1, hz2⟩ := info_parts Try.info9
  go_enter Try.func17, Try.ntmps17
  go_wp2
  go_loopw [3, 4, 5] (fun v i _ wr => ∃ (k : Nat) (xs : List (List UInt8)), i = .int .i64 k ∧ k ≤ l.length ∧ xs.length ≤ k ∧
      wordsL l = xs ++ wordsL (l.drop k) ∧ Owns wr w.heap.size v xs ∧ Below w.heap.size w wr) (fun _ i _ _ => l.length - (intOf i).toNat)
  case atStart => exact ⟨0, [], rfl, by omega, by simp, by simp, owns_made w, (Below.refl _ _).alloc (Nat.le_refl _) _⟩
  case round =>
    obtain ⟨k, xs, rfl, hk, hxk, hinv, hown, hbel⟩ := hrel
    have HI := Lib.hid hinv
    have hsz := hbel.size
    clear hinv
    by_cases hlt : k < l.length
    · go_wp2
      go_loopw [5] (fun i wr2 => ∃ m q : Nat, i = .int .i64 m ∧ k + 1 ≤ m ∧ m ≤ l.length ∧ wr2 = wr.drewN q ∧ ∀ j (hj : j < l.length), k < j → j < m → 0 < kindOf l[k] ∧ kindOf l[j] = kindOf l[k]) (fun i _ => l.length - (intOf i).toNat)
      case atStart => exact ⟨k + 1, 0, by go_num, by omega, by omega, rfl, by omega⟩
      case round =>
        obtain ⟨m, q, rfl, hkm, hm, rfl, hp⟩ := hrel
        have HP := Lib.hid hp
        clear hp
        by_cases hlm : m < l.length
        · have d1 : decide ((m : Int) < (l.length : Int)) = true := by simp; omega
          by_cases hz : 0 < kindOf l[k]
          · have d2 : decide ((0 : Int) < (kindOf l[k] : Int)) = true := by simp; omega
            by_cases he : kindOf l[m] = kindOf l[k]
            · have d3 : ((kindOf l[m] : Int) == (kindOf l[k] : Int)) = true := by simp; omega
              have HE := Lib.hid he
              clear he
              go_wp2
              go_quiet ((go_at_call 30; exact quiet_add_read (kind_any _ _)))
              go_wp2
              go_roundw
              case rel =>
                refine ⟨m + 1, _, by go_num, by omega, by omega, (by first | exact rfl | exact World.drewN_drewN ..), fun j hj h1 h2 => ?_⟩
                by_cases e : j = m
                · subst e; exact ⟨hz, HE.out⟩
                · exact HP.out j hj h1 (by omega)
              case measure => simp [intOf]; omega
            · have d3 : ((kindOf l[m] : Int) == (kindOf l[k] : Int)) = false := by simp; omega
              have HS := Lib.hid (show ∀ hl : m < l.length, ¬ (0 < kindOf l[k] ∧ kindOf l[m] = kindOf l[k]) from fun _ h => he h.2)
              clear he
              go_wp2
              go_quiet ((go_at_call 30; exact quiet_add_read (kind_any _ _)))
              go_wp2_with (at_builtin; refine wpList_append_own _ rfl _ _ 22 rfl (w.heap.size) 9 i0 (.string ⟨#[]⟩) 1 16 Try.underlying22 hi hz0 hz1 hz2 rfl (by decide) _ _ _ rfl (World.ownsRow.alloc (drewN_owns hown _) _) ⟨wr.heap.size, 0, none⟩ 1 1 [strV ((l.drop k).take (m - k))] rfl rfl (cell_one_new _ _ _) (by simp [strV, Value.oneCell']) (by unfold maxLen; omega) (by omega) (by simp; omega) ?_; intro v' w1 hown' hgrow _)
              have hown2 : Owns w1 w.heap.size v' (xs ++ [(l.drop k).take (m - k)]) := by
                unfold Owns
                rw [List.length_append, List.map_append]
                exact hown'
              have hbel2 : Below w.heap.size w w1 := ((below_drewN hbel _).alloc hsz _).grown hgrow (by simp; omega) (fun j hj => (World.ownsRow.lt hown j hj).1)
              go_roundw
              case rel =>
                refine ⟨m, _, rfl, by omega, ?_, ?_, hown2, hbel2⟩
                · simp; omega
                · exact words_step hlt (by omega) hm HP.out HS.out HI.out
              case measure => simp [intOf]; omega
          · have d2 : decide ((0 : Int) < (kindOf l[k] : Int)) = false := by simp; omega
            have HS := Lib.hid (show ∀ hl : m < l.length, ¬ (0 < kindOf l[k] ∧ kindOf l[m] = kindOf l[k]) from fun _ h => hz h.1)
            go_wp2
            go_quiet ((go_at_call 30; exact quiet_add_read (kind_any _ _)))
            go_wp2_with (at_builtin; refine wpList_append_own _ rfl _ _ 22 rfl (w.heap.size) 9 i0 (.string ⟨#[]⟩) 1 16 Try.underlying22 hi hz0 hz1 hz2 rfl (by decide) _ _ _ rfl (World.ownsRow.alloc (drewN_owns hown _) _) ⟨wr.heap.size, 0, none⟩ 1 1 [strV ((l.drop k).take (m - k))] rfl rfl (cell_one_new _ _ _) (by simp [strV, Value.oneCell']) (by unfold maxLen; omega) (by omega) (by simp; omega) ?_; intro v' w1 hown' hgrow _)
            have hown2 : Owns w1 w.heap.size v' (xs ++ [(l.drop k).take (m - k)]) := by
              unfold Owns
              rw [List.length_append, List.map_append]
              exact hown'
            have hbel2 : Below w.heap.size w w1 := ((below_drewN hbel _).alloc hsz _).grown hgrow (by simp; omega) (fun j hj => (World.ownsRow.lt hown j hj).1)
            go_roundw
            case rel =>
              refine ⟨m, _, rfl, by omega, ?_, ?_, hown2, hbel2⟩
              · simp; omega
              · exact words_step hlt (by omega) hm HP.out HS.out HI.out
            case measure => simp [intOf]; omega

        · have d1 : decide ((m : Int) < (l.length : Int)) = false := by simp; omega
          have HS := Lib.hid (show ∀ hl : m < l.length, ¬ (0 < kindOf l[k] ∧ kindOf l[m] = kindOf l[k]) from fun h => absurd h hlm)
          go_wp2
          go_quiet ((go_at_call 30; exact quiet_add_read (kind_any _ _)))
          go_wp2_with (at_builtin; refine wpList_append_own _ rfl _ _ 22 rfl (w.heap.size) 9 i0 (.string ⟨#[]⟩) 1 16 Try.underlying22 hi hz0 hz1 hz2 rfl (by decide) _ _ _ rfl (World.ownsRow.alloc (drewN_owns hown _) _) ⟨wr.heap.size, 0, none⟩ 1 1 [strV ((l.drop k).take (m - k))] rfl rfl (cell_one_new _ _ _) (by simp [strV, Value.oneCell']) (by unfold maxLen; omega) (by omega) (by simp; omega) ?_; intro v' w1 hown' hgrow _)
          have hown2 : Owns w1 w.heap.size v' (xs ++ [(l.drop k).take (m - k)]) := by
            unfold Owns
            rw [List.length_append, List.map_append]
            exact hown'
          have hbel2 : Below w.heap.size w w1 := ((below_drewN hbel _).alloc hsz _).grown hgrow (by simp; omega) (fun j hj => (World.ownsRow.lt hown j hj).1)
          go_roundw
          case rel =>
            refine ⟨m, _, rfl, by omega, ?_, ?_, hown2, hbel2⟩
            · simp; omega
            · exact words_step hlt (by omega) hm HP.out HS.out HI.out
          case measure => simp [intOf]; omega

    · go_wp2
      go_ret
      refine ⟨_, rfl, ?_, hbel⟩
      have e : l.drop k = [] := List.drop_eq_nil_of_le (by omega)
      rw [HI.out, e, wordsL_nil, List.append_nil]
      exact hown.strs
end Go.Proofs.Ytiipiaebclljeaa
