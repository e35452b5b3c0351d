import Derived.Test.YtiipiaebclljeaaSplitEmpty
import Derived.Test.YtiipiaebclljeaaSplitRef
import Derived.Test.YtiipiaebclljeaaSame
import Derived.Test.YtiipiaebclljeaaCommonNil
import Derived.Test.YtiipiaebclljeaaWords
namespace Go.Proofs.Ytiipiaebclljeaa
open Go.RowKit

/-- A literal of strings. -/
theorem strs_lit (w : World) (xs : List (List UInt8)) (n : Nat) (hn : xs.length = n) (hm : n ≤ maxLen) : Strs (w.alloc (.cells (xs.map strV).toArray 9)) (.slice (some ⟨w.heap.size, 0, none⟩) n n) xs := by
  subst hn
  cases xs with
  | nil => exact .inl ⟨rfl, _, _, rfl, Nat.zero_le _, fun h => by cases h⟩
  | cons x r =>
    refine .inr ⟨w.heap.size, 0, _, rfl, by simp, Nat.le_refl _, hm, by simp, fun i hi => ?_⟩
    have hb : (w.alloc (.cells ((x :: r).map strV).toArray 9)).heap[w.heap.size]? = some (.cells ((x :: r).map strV).toArray 9) := heap_alloc_new w _
    rw [cell_of_row _ w.heap.size (0 + i) _ _ _ hb]
    rw [List.getElem?_toArray, List.getElem?_map, Nat.zero_add, List.getElem?_eq_getElem hi]
    rfl

def t1 : List UInt8 := [97, 10, 10, 98, 32, 99, 10]
def t2 : List UInt8 := [120, 49, 32, 61, 32, 102, 40, 121, 41, 59, 32, 32, 47, 47]
def u1 : List (List UInt8) := [[97], [], [98, 32, 99]]
def u2 : List (List UInt8) := [[120, 49], [32], [61], [32], [102], [40], [121], [41], [59], [32, 32], [47], [47]]
theorem splitL_t1 : splitL t1 = (u1, 0) := by decide +kernel
theorem wordsL_t2 : wordsL t2 = u2 := by decide +kernel
theorem split_t1 (w : World) : Calls Try.prog 19 #[.string (B [97, 10, 10, 98, 32, 99, 10])] w fun e w' => ∃ v, e = .returned (.tuple #[v, .int .i64 0]) ∧ Strs w' v u1 ∧ Below w.heap.size w w' := by
  refine (split_any t1 w).mono fun e w' h => ?_
  unfold SplitOut at h
  rw [splitL_t1] at h
  exact h
theorem words_t2 (w : World) : Calls Try.prog 16 #[.string (B [120, 49, 32, 61, 32, 102, 40, 121, 41, 59, 32, 32, 47, 47])] w fun e w' => ∃ v, e = .returned v ∧ Strs w' v u2 ∧ Below w.heap.size w w' := by
  refine (words_any t2 w (by decide)).mono fun e w' h => ?_
  rw [wordsL_t2] at h
  exact h
theorem common_11 : IsCommon [[97], [98], [97]] [[97], [97]] 1 1 where
  lx := by decide
  ly := by decide
  head := by intro j hj; obtain rfl : j = 0 := by omega
             rfl
  tail := by intro j hj; obtain rfl : j = 0 := by omega
             rfl
  nexth := .inr (.inr (by decide))
  nextt := .inr (.inl rfl)

theorem common_t (w1 : World) : Calls Try.prog 13 #[.slice (some ⟨w1.heap.size, 0, none⟩) 3 3, .slice (some ⟨w1.heap.size + 1, 0, none⟩) 2 2]
    ((w1.alloc (.cells #[.string (B [97]), .string (B [98]), .string (B [97])] 9)).alloc (.cells #[.string (B [97]), .string (B [97])] 9)) fun e w' => e = .returned (.tuple #[.int .i64 1, .int .i64 1]) ∧ Below w1.heap.size w1 w' := by
  have h1 : Strs (w1.alloc (.cells #[.string (B [97]), .string (B [98]), .string (B [97])] 9)) (.slice (some ⟨w1.heap.size, 0, none⟩) 3 3) [[97], [98], [97]] := strs_lit w1 [[97], [98], [97]] 3 rfl (by decide)
  have h2 := strs_lit (w1.alloc (.cells #[.string (B [97]), .string (B [98]), .string (B [97])] 9)) [[97], [97]] 2 rfl (by decide)
  rw [World.size_alloc] at h2
  refine (common_any _ _ _ _ _ (h1.below ((Below.refl _ _).alloc (Nat.le_refl _) _)) h2).mono ?_
  rintro e w' ⟨n, m, hc, rfl, q, rfl⟩
  obtain ⟨rfl, rfl⟩ := hc.unique common_11
  exact ⟨rfl, below_drewN (((Below.refl _ _).alloc (Nat.le_refl _) _).alloc (by simp) _) q⟩
theorem same_true (v u : Value) (xs : List (List UInt8)) (w : World) (hx : Strs w v xs) (hy : Strs w u xs) : Calls Try.prog 15 #[v, u] w (Read w (.bool true)) := by
  have := same_any v u xs xs w hx hy
  rwa [decide_eq_true rfl] at this

set_option maxHeartbeats 1000000 in
/-- quiltlaw04.awake: the examples of the chapter. -/
theorem awake_any (w : World) : Calls Try.prog 12 #[] w fun e w' => e = .returned (.bool true) ∧ Below w.heap.size w w' := by
  go_enter Try.func12, Try.ntmps12
  go_wp2_with (go_at_call 19; refine (split_t1 _).mono ?_; rintro e w1 ⟨v1, rfl, hs1, hb1⟩)
  refine (common_t w1).mono ?_
  rintro e w2 ⟨rfl, hb2⟩
  have hs2 := hs1.below hb2
  go_wp2_with fail
  refine (same_true _ _ u1 _ (hs2.below ((Below.refl _ _).alloc (Nat.le_refl _) _)) (strs_lit w2 u1 3 rfl (by decide))).mono ?_
  rintro e w3 ⟨rfl, q, rfl⟩
  go_wp2_with fail
  refine (words_t2 _).mono ?_
  rintro e w4 ⟨v4, rfl, hs4, hb4⟩
  go_wp2_with fail
  refine (same_true _ _ u2 _ (hs4.below ((Below.refl _ _).alloc (Nat.le_refl _) _)) (strs_lit w4 u2 12 rfl (by decide))).mono ?_
  rintro e w5 ⟨rfl, q5, rfl⟩
  go_wp2_with fail
  go_ret
  refine ⟨rfl, ?_⟩
  have b2 : Below w.heap.size w w2 := hb1.trans (hb2.mono hb1.size)
  have b4 : Below w.heap.size w w4 := (below_drewN (b2.alloc b2.size _) q).trans (hb4.mono (by simp; have := b2.size; omega))
  exact below_drewN (b4.alloc b4.size _) q5
end Go.Proofs.Ytiipiaebclljeaa
