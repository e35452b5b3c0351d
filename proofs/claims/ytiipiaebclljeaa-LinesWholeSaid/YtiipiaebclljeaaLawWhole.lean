/- The walk of LinesWhole. -/
import Derived.Test.YtiipiaebclljeaaLawWords
namespace Go.Proofs.Ytiipiaebclljeaa
open Go.RowKit

theorem runLen_take (p : UInt8 → Bool) (l : List UInt8) (n : Nat) (h : runLen p l ≤ n) : runLen p (l.take n) = runLen p l := by
  induction l generalizing n with
  | nil => simp
  | cons c r ih =>
    cases n with
    | zero =>
      have : runLen p (c :: r) = 0 := by omega
      rw [this]; rfl
    | succ n =>
      unfold runLen at h ⊢
      simp only [List.take_succ_cons]
      split at h
      · rename_i hc
        simp only [hc, if_true]
        rw [ih n (by omega)]
      · rename_i hc
        simp [hc]
theorem wlen_word {l : List UInt8} : wlen (l.take (wlen l)) = wlen l := by
  have h1 : runLen isWord l ≤ wlen l := by unfold wlen; omega
  have h2 : runLen isBlank l ≤ wlen l := by unfold wlen; omega
  show max 1 (max (runLen isWord (l.take (wlen l))) (runLen isBlank (l.take (wlen l)))) = wlen l
  rw [runLen_take _ _ _ h1, runLen_take _ _ _ h2]
  rfl
theorem wordsL_word {l : List UInt8} (h : l ≠ []) : l.take (wlen l) ≠ [] ∧ wordsL (l.take (wlen l)) = [l.take (wlen l)] := by
  have hp := wlen_pos l
  have hle := wlen_le h
  have hne : l.take (wlen l) ≠ [] := by
    intro e
    have h1 : (l.take (wlen l)).length = 0 := by rw [e]; rfl
    have h2 : 0 < l.length := by omega
    rw [List.length_take] at h1
    omega
  refine ⟨hne, ?_⟩
  rw [wordsL_cons hne, wlen_word, List.take_take, Nat.min_self, List.drop_eq_nil_of_le (by rw [List.length_take]; omega), wordsL_nil]
theorem wordsL_induct (l : List UInt8) : (∀ w ∈ wordsL l, w ≠ [] ∧ wordsL w = [w] ∧ w.length ≤ l.length) ∧ (wordsL l).flatten = l := by
  obtain ⟨n, hn⟩ : ∃ n, l.length ≤ n := ⟨_, Nat.le_refl _⟩
  induction n generalizing l with
  | zero =>
    have : l = [] := List.eq_nil_of_length_eq_zero (by omega)
    subst this
    exact ⟨fun w hw => (by cases hw), rfl⟩
  | succ n ih =>
    cases hl : l with
    | nil => exact ⟨fun w hw => (by cases hw), rfl⟩
    | cons c r =>
      rw [← hl]
      have hne : l ≠ [] := by rw [hl]; simp
      have hp := wlen_pos l
      obtain ⟨h1, h2⟩ := ih (l.drop (wlen l)) (by rw [List.length_drop]; omega)
      rw [wordsL_cons hne]
      refine ⟨fun w hw => ?_, ?_⟩
      · rcases List.mem_cons.1 hw with rfl | hw
        · have := wordsL_word hne
          exact ⟨this.1, this.2, by rw [List.length_take]; omega⟩
        · have := h1 w hw
          refine ⟨this.1, this.2.1, ?_⟩
          have := this.2.2
          rw [List.length_drop] at this
          omega
      · rw [List.flatten_cons, h2, List.take_append_drop]
theorem flatten_succ (xs : List (List UInt8)) (k : Nat) (h : k < xs.length) : (xs.take (k + 1)).flatten = (xs.take k).flatten ++ xs[k] := by
  rw [List.take_succ_eq_append_getElem h, List.flatten_append]
  simp
theorem flatten_take_le (xs : List (List UInt8)) (k : Nat) : (xs.take k).flatten.length ≤ xs.flatten.length := by
  conv => rhs; rw [← List.take_append_drop k xs, List.flatten_append, List.length_append]
  omega

set_option maxHeartbeats 1000000 in
theorem lawWhole (l : List UInt8) (w : World) (_hl : l.length ≤ reach) : Calls Try.prog 4 #[.string (B l)] w (Yes w) := by
  by_cases h : 200 < l.length
  · have hd : decide ((200 : Int) < (l.length : Int)) = true := by simp; omega
    go_enter Try.func4, Try.ntmps4
    go_wp2_with (go_at_call 12; refine (awake_any _).mono ?_; rintro e w1 ⟨rfl, hb⟩)
    go_ret
    exact ⟨rfl, hb⟩
  · have hd : decide ((200 : Int) < (l.length : Int)) = false := by simp; omega
    obtain ⟨hw0, hf0⟩ := wordsL_induct l
    have HW := Lib.hid hw0
    have HF := Lib.hid hf0
    clear hw0 hf0
    go_enter Try.func4, Try.ntmps4
    go_wp2_with fail
    refine (words_any l _ (by omega)).mono ?_
    rintro e w1 ⟨v1, rfl, hs1, hb1⟩
    obtain ⟨a, cap, rfl⟩ := hs1.slice
    have hle : (wordsL l).length ≤ maxLen := hs1.le
    unfold maxLen at hle
    go_wp2_with fail
    go_loopw [3, 13] (fun s i wr => ∃ k : Nat, i = .int .i64 k ∧ k ≤ (wordsL l).length ∧ s = .string (B ((wordsL l).take k).flatten) ∧ Below w.heap.size w wr ∧ Strs wr (.slice a (wordsL l).length cap) (wordsL l)) (fun _ i _ => (wordsL l).length - (intOf i).toNat)
    case atStart => exact ⟨0, rfl, by omega, rfl, hb1, hs1⟩
    case round =>
      obtain ⟨k, rfl, hk, rfl, hb, hs⟩ := hrel
      by_cases hlt : k < (wordsL l).length
      · obtain ⟨hne, hself, hwl⟩ := HW.out (wordsL l)[k] (List.getElem_mem hlt)
        have he : (wordsL l)[k].isEmpty = false := by cases hh : (wordsL l)[k] <;> simp_all
        have HS := Lib.hid hself
        have hfl := flatten_take_le (wordsL l) k
        have hfl2 : (wordsL l).flatten.length ≤ 200 := by rw [HF.out]; omega
        have hadd := fun W => run_string_add_sum (P := Try.prog) W (B ((wordsL l).take k).flatten) (B (wordsL l)[k]) (by rw [B_size, B_size]; omega)
        have HFS := Lib.hid (flatten_succ (wordsL l) k hlt)
        clear hne hself hfl hfl2
        obtain ⟨b, off, rfl, hcell⟩ := hs.elem hlt
        go_wp2_with fail
        refine (words_any (wordsL l)[k] _ (by omega)).mono ?_
        rintro e w2 ⟨v2, rfl, hs2, hb2⟩
        rw [HS.out] at hs2
        go_wp2_with fail
        refine (same_true _ _ [(wordsL l)[k]] _ (hs2.below ((Below.refl _ _).alloc (Nat.le_refl _) _)) (strs_lit w2 [(wordsL l)[k]] 1 rfl (by decide))).mono ?_
        rintro e w3 ⟨rfl, q, rfl⟩
        go_wp2_with fail
        have hb3 : Below wr.heap.size wr ((w2.alloc (.cells ([(wordsL l)[k]].map strV).toArray 9)).drewN q) := below_drewN (hb2.alloc hb2.size _) q
        go_roundw
        case rel => exact ⟨k + 1, by go_num, by omega, by rw [HFS.out], hb.trans (hb3.mono hb.size), hs.below hb3⟩
        case measure => simp [intOf]; omega
      · have hall : (wordsL l).take k = wordsL l := List.take_of_length_le (by omega)
        rw [hall, HF.out]
        go_wp2_with fail
        refine (awake_any _).mono ?_
        rintro e w4 ⟨rfl, hb4⟩
        go_wp2_with fail
        go_ret
        exact ⟨rfl, hb.trans (hb4.mono hb.size)⟩
end Go.Proofs.Ytiipiaebclljeaa
