/- The walks of LinesSplit and LinesConcat. -/
import Derived.Test.YtiipiaebclljeaaText
import Derived.Test.YtiipiaebclljeaaLawWords
import Derived.Laws.AppendOwnNone
namespace Go.Proofs.Ytiipiaebclljeaa
open Go.RowKit

set_option maxHeartbeats 1000000 in
theorem lawSplit (l : List UInt8) (w : World) (hl : l.length ≤ reach) : Calls Try.prog 7 #[.string (B l)] w (Yes w) := by
  unfold reach at hl
  by_cases h : 3000 < l.length
  · have hd : decide ((3000 : Int) < (l.length : Int)) = true := by simp; omega
    go_enter Try.func7, Try.ntmps7
    go_wp2_with (go_at_call 12; refine (awake_any _).mono ?_; rintro e w1 ⟨rfl, hb⟩)
    go_ret
    exact ⟨rfl, hb⟩
  · have hd : decide ((3000 : Int) < (l.length : Int)) = false := by simp; omega
    have hml : l.length ≤ maxLen := by unfold maxLen; omega
    go_enter Try.func7, Try.ntmps7
    go_wp2_with fail
    refine (split_any _ _).mono ?_
    rintro e w1 ⟨v1, rfl, hs1, hb1⟩
    go_wp2_with fail
    refine (ref_split_any _ _).mono ?_
    rintro e w2 ⟨v2, rfl, hs2, hb2⟩
    have b2 : Below w.heap.size w w2 := hb1.trans (hb2.mono hb1.size)
    go_wp2_with fail
    refine (same_true _ _ (splitL l).1 _ (hs1.below hb2) hs2).mono ?_
    rintro e w3 ⟨rfl, q3, rfl⟩
    have b3 := below_drewN b2 q3
    go_wp2_with fail
    refine (isText_any _ _).mono ?_
    rintro e w4 ⟨rfl, hb4⟩
    have b4 : Below w.heap.size w w4 := b3.trans (hb4.mono b3.size)
    go_wp2_with fail
    refine (ref_isText_any _ _).mono ?_
    rintro e w5 ⟨rfl, hb5⟩
    have b5 : Below w.heap.size w w5 := b4.trans (hb5.mono b4.size)
    go_wp2_with fail
    refine (valid_any _ _ hml).mono ?_
    rintro e w6 ⟨rfl, q6, rfl⟩
    go_wp2_with fail
    refine (ref_valid_any _ _ hml).mono ?_
    rintro e w7 ⟨rfl, q7, rfl⟩
    have b7 := below_drewN b5 (q6 + q7)
    go_wp2_with fail
    refine (awake_any _).mono ?_
    rintro e w8 ⟨rfl, hb8⟩
    go_wp2_with fail
    go_ret
    exact ⟨rfl, b7.trans (hb8.mono b7.size)⟩

theorem linesOf_append (cur a r : List UInt8) (h : a = [] ∧ cur = [] ∨ ∃ p, a = p ++ [10]) : linesOf cur (a ++ r) = linesOf cur a ++ linesOf [] r := by
  induction a generalizing cur with
  | nil =>
    rcases h with ⟨_, rfl⟩ | ⟨p, hp⟩
    · rw [linesOf_nil]; rfl
    · cases p <;> cases hp
  | cons c t ih =>
    have ht : t = [] ∧ c = 10 ∨ ∃ p, t = p ++ [10] := by
      rcases h with ⟨h, _⟩ | ⟨p, hp⟩
      · cases h
      · cases p with
        | nil => left; injection hp with h1 h2; exact ⟨h2, h1⟩
        | cons d p => right; injection hp with h1 h2; exact ⟨p, h2⟩
    rw [List.cons_append, linesOf, linesOf]
    by_cases hc : c.toNat = 10
    · rw [if_pos hc, if_pos hc]
      have hq : t = [] ∧ ([] : List UInt8) = [] ∨ ∃ p, t = p ++ [10] := by
        rcases ht with ⟨h1, _⟩ | h1
        · exact .inl ⟨h1, rfl⟩
        · exact .inr h1
      rw [ih [] hq]
      rfl
    · rw [if_neg hc, if_neg hc]
      rcases ht with ⟨_, h1⟩ | h1
      · exact absurd ((lf_iff c).2 h1) hc
      · exact ih _ (.inr h1)
theorem goodEnd {l : List UInt8} (h : badEnd l = false) : l = [] ∨ ∃ p, l = p ++ [10] := by
  cases he : l.isEmpty
  · right
    have hne : l ≠ [] := by rintro rfl; cases he
    rw [badEnd_cons hne] at h
    have hs : Lib.hasSuffix l [10] = true := by simpa using h
    unfold Lib.hasSuffix at hs
    rw [List.isSuffixOf_iff_suffix] at hs
    obtain ⟨p, hp⟩ := hs
    exact ⟨p, hp.symm⟩
  · left
    cases l <;> simp at he ⊢
theorem badEnd_append {a b : List UInt8} (ha : badEnd a = false) (hb : badEnd b = false) : badEnd (a ++ b) = false := by
  rcases goodEnd hb with rfl | ⟨p, rfl⟩
  · rw [List.append_nil]; exact ha
  · have hne : a ++ (p ++ [10]) ≠ [] := by simp
    rw [badEnd_cons hne]
    have : Lib.hasSuffix (a ++ (p ++ [10])) [10] = true := by
      unfold Lib.hasSuffix
      rw [List.isSuffixOf_iff_suffix]
      exact ⟨a ++ p, by simp⟩
    rw [this]; rfl
theorem text_parts {l : List UInt8} (h : isTextL l = true) : l.length ≤ 65536 ∧ hasNul l = false ∧ badEnd l = false ∧ longLine (linesOf [] l) = false ∧ (linesOf [] l).length ≤ 2000 ∧ splitL l = (linesOf [] l, 0) := by
  unfold isTextL at h
  rw [decide_eq_true_eq] at h
  unfold splitL at h ⊢
  split at h
  · simp at h
  · rename_i h1
    rw [if_neg h1]
    split at h
    · simp at h
    · rename_i h2
      rw [if_neg h2]
      split at h
      · simp at h
      · rename_i h3
        rw [if_neg h3]
        simp only [Bool.or_eq_true, not_or, Bool.not_eq_true, decide_eq_true_eq] at h2 h3
        exact ⟨by omega, h2.1, h2.2, h3.1, by omega, rfl⟩
theorem splitL_append {a b : List UInt8} (ha : isTextL a = true) (hb : isTextL b = true) (la : a.length ≤ 1000) (lb : b.length ≤ 1000) : splitL (a ++ b) = ((splitL a).1 ++ (splitL b).1, 0) ∧ (splitL a).2 = 0 ∧ (splitL b).2 = 0 := by
  obtain ⟨a1, a2, a3, a4, a5, a6⟩ := text_parts ha
  obtain ⟨b1, b2, b3, b4, b5, b6⟩ := text_parts hb
  rw [a6, b6]
  refine ⟨?_, rfl, rfl⟩
  have hl : linesOf [] (a ++ b) = linesOf [] a ++ linesOf [] b := by
    refine linesOf_append [] a b ?_
    rcases goodEnd a3 with h | h
    · exact .inl ⟨h, rfl⟩
    · exact .inr h
  have hn : hasNul (a ++ b) = false := by unfold hasNul at *; rw [List.any_append, a2, b2]; rfl
  have hlong : longLine (linesOf [] a ++ linesOf [] b) = false := by unfold longLine at *; rw [List.any_append, a4, b4]; rfl
  have n1 := linesOf_length [] a
  have n2 := linesOf_length [] b
  unfold splitL
  rw [if_neg (by rw [List.length_append]; omega), hn, badEnd_append a3 b3, hl, hlong, List.length_append]
  rw [if_neg (by simp), if_neg (by simp; omega)]

/-- Appending strings to a row of the call's own, wherever they come from. -/
theorem run_append_strs (base : Nat) (v u : Value) (xs ys : List (List UInt8)) (w : World) (ho : Owns w base v xs) (hu : Strs w u ys) (hn : xs.length + ys.length ≤ 1000000) (hb : base ≤ w.heap.size) :
    ∃ v' w', (Builtin.append_ #[22, 22] 22 #[v, u]).run Try.prog w = .ok v' w' ∧ Owns w' base v' (xs ++ ys) ∧ Below base w w' := by
  obtain ⟨i0, hi, hz0, hz1, hz2⟩ := info_parts Try.info9
  have big : 1000000 * 16 ≤ 140737488355328 := by decide
  rcases hu with ⟨rfl, a, cap, rfl, hcap, hnone⟩ | ⟨b, off, cap, rfl, h2, h3, h4, h5, h6⟩
  · cases a with
    | none =>
      obtain rfl : cap = 0 := hnone rfl
      exact ⟨v, w, run_append_owned_none (P := Try.prog) (w := w) base 22 22 9 i0 1 Try.underlying22 hi v xs.length (xs.map strV) ho, by rw [List.append_nil]; exact ho, Below.refl _ _⟩
    | some a =>
      obtain ⟨v', w', h1, h2, h3, _⟩ := run_append_own (P := Try.prog) w base 22 22 9 i0 (.string ⟨#[]⟩) 1 16 Try.underlying22 hi hz0 hz1 hz2 rfl (by decide) v xs.length (xs.map strV) ho a 0 cap [] rfl (fun j u hj => by simp at hj) (fun u hu => by cases hu) (by unfold maxLen; omega) (by omega) hb
      refine ⟨v', w', h1, ?_, (Below.refl base w).grown h3 hb (fun k e => (ho.lt k e).1)⟩
      unfold Owns
      simpa using h2
  · obtain ⟨v', w', h1, h2', h3', _⟩ := run_append_own (P := Try.prog) w base 22 22 9 i0 (.string ⟨#[]⟩) 1 16 Try.underlying22 hi hz0 hz1 hz2 rfl (by decide) v xs.length (xs.map strV) ho ⟨b, off, none⟩ ys.length cap (ys.map strV) (by simp)
      (fun j u hj => by
        rw [List.getElem?_map] at hj
        obtain ⟨x, hx, rfl⟩ := Option.map_eq_some_iff.1 hj
        have hlt := (List.getElem?_eq_some_iff.1 hx).1
        have e : (⟨b, off, none⟩ : Addr).add j = ⟨b, off + j, none⟩ := by unfold Addr.add; split <;> simp_all
        rw [e, h6 j hlt, hx]
        rfl)
      (fun u hu => by obtain ⟨x, _, rfl⟩ := List.mem_map.1 hu; rfl) (by unfold maxLen; omega) (by omega) hb
    refine ⟨v', w', h1, ?_, (Below.refl base w).grown h3' hb (fun k e => (ho.lt k e).1)⟩
    unfold Owns
    rw [List.length_append, List.map_append]
    exact h2'

/-- An append whose run is known, also behind a guard. -/
theorem wpList_append_run {P : Program} {w : World} {ops : Array Oper} {rest : List Oper} {o : Oper} {a : Act} {Q : Exit → Act → World → Prop} (hw : Region.wanted o (yielded ops a.tmps) = true) (s x : Operand) (t t' : TypeId)
    (ho : o.op = .call { callee := .builtin .append, args := #[s, x], argTypes := #[t, t'] }) {v' : Value} {w' : World} (hr : (Builtin.append_ #[t, t'] o.type #[a.eval s, a.eval x]).run P w = .ok v' w')
    (h : wpList P ops Q rest (a.put o.dst v') w') : wpList P ops Q (o :: rest) a w := by
  refine wpList_step fun K hK => ?_
  rw [if_pos hw]
  unfold Oper.wp execOp
  simp only [ho, resolve, invoke, builtin, Sem.run_bind, Sem.run_pure, Result.andThen_ok, List.map_toArray, List.map_cons, List.map_nil, hr]
  exact hK _ _ h
end Go.Proofs.Ytiipiaebclljeaa
