import Derived.Test.YtiipiaebclljeaaWordsRef
namespace Go.Proofs.Ytiipiaebclljeaa
open Go.RowKit

set_option maxHeartbeats 2000000 in
theorem words_any (l : List UInt8) (w : World) (hl : l.length ≤ 65536) :
    Calls Try.prog 16 #[.string (B l)] w fun e w' => ∃ v, e = .returned v ∧ Strs w' v (wordsL l) ∧ Below w.heap.size w w' := by
  obtain ⟨i0, hi, hz0, hz1, hz2⟩ := info_parts Try.info9
  go_enter Try.func16, Try.ntmps16
  go_wp2
  go_loopw [0, 3] (fun s v wr => ∃ (r : List UInt8) (xs : List (List UInt8)), s = .string (B r) ∧ xs.length + r.length ≤ l.length ∧
      wordsL l = xs ++ wordsL r ∧ Owns wr w.heap.size v xs ∧ Below w.heap.size w wr) (fun s _ _ => match s with | .string b => b.size | _ => 0)
  case atStart => exact ⟨l, [], rfl, by simp, by simp, Owns.nil w _, Below.refl _ _⟩
  case round =>
    obtain ⟨r, xs, rfl, hxr, hinv, hown, hbel⟩ := hrel
    have HI := Lib.hid hinv
    have hsz := hbel.size
    clear hinv
    cases r with
    | nil =>
      go_wp2
      go_ret
      refine ⟨_, rfl, ?_, hbel⟩
      rw [HI.out, wordsL_nil, List.append_nil]
      exact hown.strs
    | cons c r =>
      rw [List.length_cons] at hxr
      obtain ⟨a, ha⟩ : ∃ a, a = runLen isWord (c :: r) := ⟨_, rfl⟩
      obtain ⟨b, hb⟩ : ∃ b, b = runLen isBlank (c :: r) := ⟨_, rfl⟩
      rcases (show (a ≤ 1 ∧ b ≤ 1) ∨ (b ≤ a ∧ 1 < a) ∨ (a < b ∧ 1 < b) from by omega) with hc | hc | hc
      · rw [ha, hb] at hc

        have hn : wlen (c :: r) = 1 := by unfold wlen; omega
        have hle2 : 1 ≤ (c :: r).length := by rw [← hn]; exact wlen_le (by simp)
        have HN := Lib.hid hn
        clear hn
        rw [List.length_cons] at hle2
        go_wp2_with (first | (go_at_call 27; first | ((with_reducible refine (run_word _ _ (by unfold maxLen; simp; omega)).mono ?_); rintro e w' ⟨rfl, q', rfl⟩) | ((with_reducible refine (run_blank _ _ (by unfold maxLen; simp; omega)).mono ?_); rintro e w' ⟨rfl, q', rfl⟩)) | (at_builtin; refine wpList_append_own _ rfl _ _ 22 rfl (w.heap.size) 9 i0 (.string ⟨#[]⟩) 1 16 Try.underlying22 hi hz0 hz1 hz2 rfl (by decide) _ _ _ rfl (World.ownsRow.alloc (drewN_owns hown _) _) ⟨wr.heap.size, 0, none⟩ 1 1 [strV ((c :: r).take 1)] rfl rfl (cell_one_new _ _ _) (by simp [strV, Value.oneCell']) (by unfold maxLen; omega) (by omega) (by simp; omega) ?_; intro v' w1 hown' hgrow _))
        have hown2 : Owns w1 w.heap.size v' (xs ++ [(c :: r).take 1]) := by
          unfold Owns
          rw [List.length_append, List.map_append]
          exact hown'
        have hbel2 : Below w.heap.size w w1 := ((below_drewN hbel _).alloc hsz _).grown hgrow (by simp; omega) (fun j hj => (World.ownsRow.lt hown j hj).1)
        go_roundw
        case rel =>
          refine ⟨(c :: r).drop 1, xs ++ [(c :: r).take 1], (by first | rfl | rw [List.take_of_length_le (by simp)]), ?_, ?_, hown2, hbel2⟩
          · simp only [List.length_append, List.length_drop, List.length_cons, List.length_nil]; omega
          · rw [HI.out, wordsL_cons (l := c :: r) (by simp), HN.out, List.append_assoc]; rfl
        case measure => simp [B_size]; try omega

      · rw [ha, hb] at hc

        have hn : wlen (c :: r) = (runLen isWord (c :: r)) := by unfold wlen; omega
        have hle2 : (runLen isWord (c :: r)) ≤ (c :: r).length := by rw [← hn]; exact wlen_le (by simp)
        have HN := Lib.hid hn
        clear hn
        rw [List.length_cons] at hle2
        go_wp2_with (first | (go_at_call 27; first | ((with_reducible refine (run_word _ _ (by unfold maxLen; simp; omega)).mono ?_); rintro e w' ⟨rfl, q', rfl⟩) | ((with_reducible refine (run_blank _ _ (by unfold maxLen; simp; omega)).mono ?_); rintro e w' ⟨rfl, q', rfl⟩)) | (at_builtin; refine wpList_append_own _ rfl _ _ 22 rfl (w.heap.size) 9 i0 (.string ⟨#[]⟩) 1 16 Try.underlying22 hi hz0 hz1 hz2 rfl (by decide) _ _ _ rfl (World.ownsRow.alloc (drewN_owns hown _) _) ⟨wr.heap.size, 0, none⟩ 1 1 [strV ((c :: r).take (runLen isWord (c :: r)))] rfl rfl (cell_one_new _ _ _) (by simp [strV, Value.oneCell']) (by unfold maxLen; omega) (by omega) (by simp; omega) ?_; intro v' w1 hown' hgrow _))
        have hown2 : Owns w1 w.heap.size v' (xs ++ [(c :: r).take (runLen isWord (c :: r))]) := by
          unfold Owns
          rw [List.length_append, List.map_append]
          exact hown'
        have hbel2 : Below w.heap.size w w1 := ((below_drewN hbel _).alloc hsz _).grown hgrow (by simp; omega) (fun j hj => (World.ownsRow.lt hown j hj).1)
        go_roundw
        case rel =>
          refine ⟨(c :: r).drop (runLen isWord (c :: r)), xs ++ [(c :: r).take (runLen isWord (c :: r))], (by first | rfl | rw [List.take_of_length_le (by simp)]), ?_, ?_, hown2, hbel2⟩
          · simp only [List.length_append, List.length_drop, List.length_cons, List.length_nil]; omega
          · rw [HI.out, wordsL_cons (l := c :: r) (by simp), HN.out, List.append_assoc]; rfl
        case measure => simp [B_size]; try omega

      · rw [ha, hb] at hc

        have hn : wlen (c :: r) = (runLen isBlank (c :: r)) := by unfold wlen; omega
        have hle2 : (runLen isBlank (c :: r)) ≤ (c :: r).length := by rw [← hn]; exact wlen_le (by simp)
        have HN := Lib.hid hn
        clear hn
        rw [List.length_cons] at hle2
        go_wp2_with (first | (go_at_call 27; first | ((with_reducible refine (run_word _ _ (by unfold maxLen; simp; omega)).mono ?_); rintro e w' ⟨rfl, q', rfl⟩) | ((with_reducible refine (run_blank _ _ (by unfold maxLen; simp; omega)).mono ?_); rintro e w' ⟨rfl, q', rfl⟩)) | (at_builtin; refine wpList_append_own _ rfl _ _ 22 rfl (w.heap.size) 9 i0 (.string ⟨#[]⟩) 1 16 Try.underlying22 hi hz0 hz1 hz2 rfl (by decide) _ _ _ rfl (World.ownsRow.alloc (drewN_owns hown _) _) ⟨wr.heap.size, 0, none⟩ 1 1 [strV ((c :: r).take (runLen isBlank (c :: r)))] rfl rfl (cell_one_new _ _ _) (by simp [strV, Value.oneCell']) (by unfold maxLen; omega) (by omega) (by simp; omega) ?_; intro v' w1 hown' hgrow _))
        have hown2 : Owns w1 w.heap.size v' (xs ++ [(c :: r).take (runLen isBlank (c :: r))]) := by
          unfold Owns
          rw [List.length_append, List.map_append]
          exact hown'
        have hbel2 : Below w.heap.size w w1 := ((below_drewN hbel _).alloc hsz _).grown hgrow (by simp; omega) (fun j hj => (World.ownsRow.lt hown j hj).1)
        go_roundw
        case rel =>
          refine ⟨(c :: r).drop (runLen isBlank (c :: r)), xs ++ [(c :: r).take (runLen isBlank (c :: r))], (by first | rfl | rw [List.take_of_length_le (by simp)]), ?_, ?_, hown2, hbel2⟩
          · simp only [List.length_append, List.length_drop, List.length_cons, List.length_nil]; omega
          · rw [HI.out, wordsL_cons (l := c :: r) (by simp), HN.out, List.append_assoc]; rfl
        case measure => simp [B_size]; try omega

end Go.Proofs.Ytiipiaebclljeaa
