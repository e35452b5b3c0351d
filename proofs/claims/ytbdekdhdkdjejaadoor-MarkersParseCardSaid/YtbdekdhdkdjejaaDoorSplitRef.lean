import Derived.Test.YtbdekdhdkdjejaaDoorSplit
namespace Go.Proofs.YtbdekdhdkdjejaaDoor
open Go.RowKit

theorem splitOut_made {l : List UInt8} {w w' : World} {n N : Nat} (h : splitL l = ([], n)) (hb : Below w.heap.size w w') : SplitOut l w (.returned (.tuple #[.slice (some ⟨N, 0, none⟩) 0 0, .int .i64 (n : Nat)])) w' := by
  unfold SplitOut
  rw [h]
  exact ⟨_, rfl, .inl ⟨rfl, _, 0, rfl, Nat.zero_le _, fun h => by cases h⟩, hb⟩

set_option maxHeartbeats 400000 in
theorem ref_split_great (l : List UInt8) (w : World) (h : 65536 < l.length) : Calls Tryd.prog 44 #[.string (B l)] w (SplitOut l w) := by
  have h' : decide ((65536 : Int) < (l.length : Int)) = true := by simp; omega
  go_enter Tryd.func44, Tryd.ntmps44
  go_wp2
  go_ret2
  exact splitOut_made (n := 4) (by unfold splitL; rw [if_pos h]) ((Below.refl _ _).alloc (Nat.le_refl _) _)

set_option maxHeartbeats 400000 in
theorem ref_split_nul (l : List UInt8) (w : World) (h : l.length ≤ 65536) (h0 : hasNul l = true) : Calls Tryd.prog 44 #[.string (B l)] w (SplitOut l w) := by
  have hc : cleanL 0 0 l = false := by rw [clean_nul, h0]; rfl
  have HC := Lib.hid hc
  have H0 := Lib.hid h0
  clear hc h0
  go_enter Tryd.func44, Tryd.ntmps44
  go_wp2_with (go_at_call 56; refine (clean_any _ _ _ _ (by unfold maxLen; omega)).mono ?_; rintro e w' ⟨rfl, q, rfl⟩; rw [HC.out])
  go_ret2
  exact splitOut_made (n := 3) (by unfold splitL; rw [if_neg (by omega), H0.out]; rfl) ((below_drewN (Below.refl _ _) _).alloc (Nat.le_refl _) _)

set_option maxHeartbeats 400000 in
theorem ref_split_end (l : List UInt8) (w : World) (h : l.length ≤ 65536) (h0 : hasNul l = false) (h1 : badEnd l = true) : Calls Tryd.prog 44 #[.string (B l)] w (SplitOut l w) := by
  have hc : cleanL 0 0 l = true := by rw [clean_nul, h0]; rfl
  have HC := Lib.hid hc
  have H1 := Lib.hid h1
  have hne : l ≠ [] := by rintro rfl; cases h1
  have he : l.isEmpty = false := by cases l <;> simp at hne ⊢
  have hpos : 0 < l.length := by cases l <;> simp at hne ⊢
  have hlt : l.length - 1 < l.length := by omega
  have hl10 : ((l[l.length - 1].toNat : Int) != 10) = true := by
    unfold badEnd at h1
    rw [List.getElem?_eq_getElem hlt, he] at h1
    simp at h1
    rw [bne_iff_ne]
    intro h10
    exact h1 ((lf_iff _).1 (by omega))
  clear hc h0 h1 hne
  go_enter Tryd.func44, Tryd.ntmps44
  go_wp2_with (go_at_call 56; refine (clean_any _ _ _ _ (by unfold maxLen; omega)).mono ?_; rintro e w' ⟨rfl, q, rfl⟩; rw [HC.out])
  go_ret2
  exact splitOut_made (n := 3) (by unfold splitL; rw [if_neg (by omega), H1.out, Bool.or_true]; rfl) ((below_drewN (Below.refl _ _) _).alloc (Nat.le_refl _) _)

theorem Strs.slice {w : World} {v : Value} {xs : List (List UInt8)} (h : Strs w v xs) : ∃ a cap, v = .slice a xs.length cap := by
  rcases h with ⟨rfl, a, cap, rfl, _, _⟩ | ⟨b, off, cap, rfl, _⟩
  · exact ⟨a, cap, rfl⟩
  · exact ⟨_, cap, rfl⟩
theorem Strs.le {w : World} {v : Value} {xs : List (List UInt8)} (h : Strs w v xs) : xs.length ≤ maxLen := by
  rcases h with ⟨rfl, a, cap, rfl, _, _⟩ | ⟨b, off, cap, rfl, h2, h3, h4, h5, h6⟩
  · exact Nat.zero_le _
  · exact Nat.le_trans h3 h4
theorem Strs.elem {w : World} {a : Option Addr} {n cap : Nat} {xs : List (List UInt8)} (h : Strs w (.slice a n cap) xs) {k : Nat} (hk : k < xs.length) :
    ∃ b off, a = some ⟨b, off, none⟩ ∧ w.cell? ⟨b, off + k, none⟩ = some (.string (B xs[k])) := by
  rcases h with ⟨rfl, _⟩ | ⟨b, off, cap', hv, h2, h3, h4, h5, h6⟩
  · simp at hk
  · injection hv with h1 _ _
    have := h6 k hk
    rw [List.getElem?_eq_getElem hk] at this
    exact ⟨b, off, h1, this⟩

theorem longLine_hit {xs : List (List UInt8)} {k : Nat} (hk : k < xs.length) (h : 1000 < xs[k].length) : longLine xs = true := by
  unfold longLine
  rw [List.any_eq_true]
  exact ⟨xs[k], List.getElem_mem hk, by simpa using h⟩
theorem longLine_miss {xs : List (List UInt8)} (h : ∀ j (hj : j < xs.length), xs[j].length ≤ 1000) : longLine xs = false := by
  unfold longLine
  rw [List.any_eq_false]
  intro x hx
  obtain ⟨j, hj, rfl⟩ := List.getElem_of_mem hx
  have := h j hj
  simp
  omega

/-- What is left behind the checks: the parts are counted and measured. -/
theorem ref_split_main (l : List UInt8) (w : World) (h : l.length ≤ 65536) (h0 : hasNul l = false) (h1 : badEnd l = false) (he : l.isEmpty = false) : Calls Tryd.prog 44 #[.string (B l)] w (SplitOut l w) := by
  have hc : cleanL 0 0 l = true := by rw [clean_nul, h0]; rfl
  have HC := Lib.hid hc
  have H0 := Lib.hid h0
  have H1 := Lib.hid h1
  have hpos : 0 < l.length := by cases l <;> simp at he ⊢
  have hlt : l.length - 1 < l.length := by omega
  have hl10 : ((l[l.length - 1].toNat : Int) != 10) = false := by
    unfold badEnd at h1
    rw [List.getElem?_eq_getElem hlt, he] at h1
    simp at h1
    rw [h1]; rfl
  have hsp : splitL l = if longLine (linesOf [] l) || decide (2000 < (linesOf [] l).length) then ([], 4) else (linesOf [] l, 0) := by
    unfold splitL
    rw [if_neg (by omega), h0, h1]
    rfl
  have HSP := Lib.hid hsp
  clear hc h0 h1 hsp
  by_cases hx : 2000 < (linesOf [] l).length
  · have hxd : decide ((2000 : Int) < ((linesOf [] l).length : Int)) = true := by simp; omega
    have HE := Lib.hid (show splitL l = ([], 4) from by rw [HSP.out]; simp [hx])
    go_enter Tryd.func44, Tryd.ntmps44
    go_wp2_with (first | (go_at_call 56; refine (clean_any _ _ _ _ (by unfold maxLen; omega)).mono ?_; rintro e w' ⟨rfl, q, rfl⟩; rw [HC.out]) | (go_at_call 65; refine (parts_any _ _ h).mono ?_; rintro e w1 ⟨v, rfl, hs, hb⟩; obtain ⟨a, cap, rfl⟩ := hs.slice))
    go_ret2
    exact splitOut_made (n := 4) HE.out ((Below.trans (below_drewN (Below.refl _ _) _) hb).alloc hb.size _)
  · have hxd : decide ((2000 : Int) < ((linesOf [] l).length : Int)) = false := by simp; omega
    go_enter Tryd.func44, Tryd.ntmps44
    go_wp2_with (first | (go_at_call 56; refine (clean_any _ _ _ _ (by unfold maxLen; omega)).mono ?_; rintro e w' ⟨rfl, q, rfl⟩; rw [HC.out]) | (go_at_call 65; refine (parts_any _ _ h).mono ?_; rintro e w1 ⟨v, rfl, hs, hb⟩; obtain ⟨a, cap, rfl⟩ := hs.slice))
    go_loop [5] (fun i => ∃ k : Nat, i = .int .i64 k ∧ k ≤ (linesOf [] l).length ∧ ∀ j (hj : j < (linesOf [] l).length), j < k → (linesOf [] l)[j].length ≤ 1000) (fun i => (linesOf [] l).length - (intOf i).toNat)
    case atStart => exact ⟨0, rfl, by omega, by omega⟩
    case round =>
      obtain ⟨k, rfl, hk, hp⟩ := hrel
      have HP := Lib.hid hp
      clear hp
      by_cases hlt2 : k < (linesOf [] l).length
      · obtain ⟨b, off, rfl, hcell⟩ := hs.elem hlt2
        by_cases hlong : 1000 < (linesOf [] l)[k].length
        · have hld : decide ((1000 : Int) < ((linesOf [] l)[k].length : Int)) = true := by simp; omega
          have HE := Lib.hid (show splitL l = ([], 4) from by rw [HSP.out, longLine_hit hlt2 hlong]; simp)
          go_wp2
          go_ret2
          exact splitOut_made (n := 4) HE.out ((Below.trans (below_drewN (Below.refl _ _) _) hb).alloc hb.size _)
        · have hld : decide ((1000 : Int) < ((linesOf [] l)[k].length : Int)) = false := by simp; omega
          go_wp2
          go_round
          case rel =>
            refine ⟨k + 1, by go_num, by omega, fun j hj hjk => ?_⟩
            by_cases e : j = k
            · subst e; omega
            · exact HP.out j hj (by omega)
          case measure => simp [intOf]; omega
      · have HE := Lib.hid (show splitL l = (linesOf [] l, 0) from by rw [HSP.out, longLine_miss (fun j hj => HP.out j hj (by omega))]; simp [hx])
        go_wp2
        go_ret2
        unfold SplitOut
        rw [HE.out]
        exact ⟨_, rfl, hs, Below.trans (below_drewN (Below.refl _ _) _) hb⟩

theorem ref_split_empty (w : World) : Calls Tryd.prog 44 #[.string (B [])] w (SplitOut [] w) := by
  have HC := Lib.hid (show cleanL 0 0 [] = true from rfl)
  go_enter Tryd.func44, Tryd.ntmps44
  go_wp2_with (first | (go_at_call 56; refine (clean_any _ _ _ _ (by unfold maxLen; simp)).mono ?_; rintro e w' ⟨rfl, q, rfl⟩; rw [HC.out]) | (go_at_call 65; refine (parts_any [] _ (by simp)).mono ?_; rintro e w1 ⟨v, rfl, hs, hb⟩; rw [linesOf_nil] at hs; obtain ⟨a, cap, rfl⟩ := hs.slice))
  go_loop [5] (fun i => i = .int .i64 0) (fun _ => 0)
  case atStart => rfl
  case round =>
    subst hrel
    go_wp2
    go_ret2
    exact ⟨_, rfl, hs, Below.trans (below_drewN (Below.refl _ _) _) hb⟩

/-- quiltref04.Split. -/
theorem ref_split_any (l : List UInt8) (w : World) : Calls Tryd.prog 44 #[.string (B l)] w (SplitOut l w) := by
  by_cases h : 65536 < l.length
  · exact ref_split_great l w h
  · cases h0 : hasNul l
    · cases h1 : badEnd l
      · cases he : l.isEmpty
        · exact ref_split_main l w (by omega) h0 h1 he
        · have : l = [] := by cases l <;> simp at he ⊢
          subst this
          exact ref_split_empty w
      · exact ref_split_end l w (by omega) h0 h1
    · exact ref_split_nul l w (by omega) h0
end Go.Proofs.YtbdekdhdkdjejaaDoor
