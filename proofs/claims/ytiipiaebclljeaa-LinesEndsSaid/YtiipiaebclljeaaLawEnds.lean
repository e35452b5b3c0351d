/- The walk of LinesEnds. -/
import Derived.Test.YtiipiaebclljeaaLawWords
import Derived.StillTailTactics
import Derived.IntWalk
namespace Go.Proofs.Ytiipiaebclljeaa
open Go.RowKit

/-- The address of a slice's rest. -/
def restAddr (a : Option Addr) (cap k : Nat) : Option Addr := if cap = k then a else a.map (·.add k)

theorem run_take (a : Option Addr) (len cap n : Nat) (h : n ≤ cap) (w : World) : (Instr.slice 22 (.slice a len cap) none (some (.int .i64 (n : Int))) none).run Try.prog w = .ok (.slice a n cap) w := by
  have hn : (0 : Int) ≤ (n : Int) ∧ (n : Int) ≤ (cap : Int) := by omega
  simp [Instr.slice, run_underlying Try.underlying22, Instr.sliceBounds, run_sliceBound, hn.1, hn.2, Addr.add]
theorem run_drop (a : Option Addr) (len cap k : Nat) (i : Int) (hi : i = k) (h : k ≤ len) (w : World) : (Instr.slice 22 (.slice a len cap) (some (.int .i64 i)) none none).run Try.prog w = .ok (.slice (restAddr a cap k) (len - k) (cap - k)) w := by
  subst hi
  obtain ⟨i0, hi, hz0, hz1, hz2⟩ := info_parts Try.info9
  have hn : (0 : Int) ≤ (k : Int) ∧ (k : Int) ≤ (len : Int) := by omega
  simp [Instr.slice, run_underlying Try.underlying22, Instr.sliceBounds, run_sliceBound, hn.1, hn.2, sizeOf, typeInfo, hi, hz1, restAddr]

theorem Strs.take {w : World} {a : Option Addr} {n cap : Nat} {xs : List (List UInt8)} (h : Strs w (.slice a n cap) xs) (k : Nat) (hk : k ≤ xs.length) : Strs w (.slice a k cap) (xs.take k) := by
  have hl : (xs.take k).length = k := by rw [List.length_take]; omega
  rcases h with ⟨rfl, a', cap', hv, h2, h3⟩ | ⟨b, off, cap', hv, h2, h3, h4, h5, h6⟩
  · injection hv with h1 h2' h3'
    subst h1 h3'
    have : k = 0 := by simpa using hk
    subst this
    exact .inl ⟨rfl, _, _, rfl, h2, h3⟩
  · injection hv with h1 h2' h3'
    subst h1 h3'
    by_cases h0 : k = 0
    · subst h0
      exact .inl ⟨rfl, _, _, rfl, h4, fun h => by cases h⟩
    · refine .inr ⟨b, off, cap, by rw [hl], by omega, by omega, h4, h5, fun i hi => ?_⟩
      rw [hl] at hi
      rw [h6 i (by omega), List.getElem?_take, if_pos hi]
theorem Strs.drop {w : World} {a : Option Addr} {n cap : Nat} {xs : List (List UInt8)} (h : Strs w (.slice a n cap) xs) (k : Nat) (hk : k ≤ xs.length) : Strs w (.slice (restAddr a cap k) (xs.length - k) (cap - k)) (xs.drop k) := by
  have hl : (xs.drop k).length = xs.length - k := List.length_drop
  rcases h with ⟨rfl, a', cap', hv, h2, h3⟩ | ⟨b, off, cap', hv, h2, h3, h4, h5, h6⟩
  · injection hv with h1 h2' h3'
    subst h1 h3'
    have : k = 0 := by simpa using hk
    subst this
    refine .inl ⟨rfl, restAddr a cap 0, cap, rfl, h2, fun he => h3 ?_⟩
    unfold restAddr at he
    split at he
    · exact he
    · cases a <;> simp at he ⊢
  · injection hv with h1 h2' h3'
    subst h1 h3'
    by_cases h0 : k = xs.length
    · subst h0
      refine .inl ⟨by simp, restAddr (some ⟨b, off, none⟩) cap xs.length, cap - xs.length, by simp, by omega, fun he => ?_⟩
      unfold restAddr at he
      split at he
      · cases he
      · simp at he
    · have hne : cap ≠ k := by omega
      refine .inr ⟨b, off + k, cap - k, ?_, by omega, by omega, by omega, h5, fun i hi => ?_⟩
      · rw [hl]
        unfold restAddr
        rw [if_neg hne]
        simp [Addr.add]
      · rw [hl] at hi
        have := h6 (k + i) (by omega)
        rw [List.getElem?_drop, show off + k + i = off + (k + i) from by omega]
        exact this
theorem Strs.elems {w : World} {a : Option Addr} {n cap : Nat} {xs : List (List UInt8)} (h : Strs w (.slice a n cap) xs) (h0 : 0 < xs.length) :
    ∃ b off, a = some ⟨b, off, none⟩ ∧ ∀ k (hk : k < xs.length), w.cell? ⟨b, off + k, none⟩ = some (.string (B xs[k])) := by
  rcases h with ⟨rfl, _⟩ | ⟨b, off, cap', hv, h2, h3, h4, h5, h6⟩
  · simp at h0
  · injection hv with h1 _ _
    refine ⟨b, off, h1, fun k hk => ?_⟩
    have := h6 k hk
    rw [List.getElem?_eq_getElem hk] at this
    exact this
theorem IsCommon.heads {xs ys : List (List UInt8)} {n m : Nat} (h : IsCommon xs ys n m) : xs.take n = ys.take n := by
  apply List.ext_getElem?
  intro i
  rw [List.getElem?_take, List.getElem?_take]
  split
  · exact h.head i ‹_›
  · rfl
theorem IsCommon.tails {xs ys : List (List UInt8)} {n m : Nat} (h : IsCommon xs ys n m) : xs.drop (xs.length - m) = ys.drop (ys.length - m) := by
  have h1 := h.lx
  have h2 := h.ly
  apply List.ext_getElem?
  intro i
  rw [List.getElem?_drop, List.getElem?_drop]
  by_cases hi : i < m
  · have := h.tail (m - 1 - i) (by omega)
    rw [show xs.length - 1 - (m - 1 - i) = xs.length - m + i from by omega, show ys.length - 1 - (m - 1 - i) = ys.length - m + i from by omega] at this
    exact this
  · rw [List.getElem?_eq_none (by omega), List.getElem?_eq_none (by omega)]

set_option maxHeartbeats 2000000 in
/-- Neither list is great: the walk behind the two tests. -/
theorem ends_main (a a' : Option Addr) (c c' : Nat) (xs ys : List (List UInt8)) (w : World) (hx : Strs w (.slice a xs.length c) xs) (hy : Strs w (.slice a' ys.length c') ys) (hrx : ∀ x ∈ xs, x.length ≤ reach) (hry : ∀ x ∈ ys, x.length ≤ reach)
    (hg : greatL xs = false) (hg2 : greatL ys = false) (hcx : xs.length ≤ c) (hcy : ys.length ≤ c') :
    Calls Try.prog 5 #[.slice a xs.length c, .slice a' ys.length c'] w (Yes w) := by
  unfold reach at hrx hry
  have HRX := Lib.hid hrx
  have HRY := Lib.hid hry
  have HG := Lib.hid hg
  have HG2 := Lib.hid hg2
  have hmx := hx.le
  have hmy := hy.le
  unfold maxLen at hmx hmy
  clear hrx hry hg hg2
  go_enter Try.func5, Try.ntmps5
  go_wp2_with fail
  refine (great_any _ _ _ hx HRX.out).mono ?_
  rintro e w1 ⟨rfl, q, rfl⟩
  rw [HG.out]
  go_wp2_with fail
  refine (great_any _ ys _ (hy.below (below_drewN (Below.refl _ _) q)) HRY.out).mono ?_
  rintro e w1 ⟨rfl, q2, rfl⟩
  rw [HG2.out]
  go_wp2_with fail
  refine (common_any _ _ xs ys _ (hx.below (below_drewN (Below.refl _ _) _)) (hy.below (below_drewN (Below.refl _ _) _))).mono ?_
  rintro e w1 ⟨n, m, hc, rfl, q3, rfl⟩
  have HC := Lib.hid hc
  have hn1 := hc.lx
  have hn2 := hc.ly
  have ht1 := hx.take n (by omega)
  have ht2 := hy.take n (by omega)
  have ht3 := hx.drop (xs.length - m) (by omega)
  have ht4 := hy.drop (ys.length - m) (by omega)
  rw [← hc.heads] at ht2
  rw [← hc.tails] at ht4
  have T1 := Lib.hid ht1
  have T2 := Lib.hid ht2
  have T3 := Lib.hid ht3
  have T4 := Lib.hid ht4
  have s1 := fun W => run_take a xs.length c n (by omega) W
  have s2 := fun W => run_take a' ys.length c' n (by omega) W
  have s3 := fun W => run_drop a xs.length c (xs.length - m) ((xs.length : Int) - (m : Int)) (by omega) (by omega) W
  have s4 := fun W => run_drop a' ys.length c' (ys.length - m) ((ys.length : Int) - (m : Int)) (by omega) (by omega) W
  have HX := Lib.hid hx
  have HY := Lib.hid hy
  clear hc ht1 ht2 ht3 ht4 hx hy
  go_wp2_with fail
  go_quiet ((go_at_call 15; first | exact quiet_add_read (same_true _ _ (xs.take n) _ T1.out T2.out) | exact quiet_add_read (same_true _ _ (xs.drop (xs.length - m)) _ T3.out T4.out)))
  by_cases heq : n + m = xs.length ∨ n + m = ys.length
  · have hb : ((n : Int) + (m : Int) == min (xs.length : Int) (ys.length : Int)) = true := by rw [beq_iff_eq]; omega
    clear heq
    go_wp2_with fail
    refine (awake_any _).mono ?_
    rintro e w4 ⟨rfl, hb4⟩
    go_wp2_with fail
    go_ret
    exact ⟨rfl, (below_drewN (Below.refl _ _) _).trans (hb4.mono (Nat.le_refl _))⟩
  · have hb : ((n : Int) + (m : Int) == min (xs.length : Int) (ys.length : Int)) = false := by rw [beq_eq_false_iff_ne]; omega
    obtain ⟨b, off, rfl, hcx2⟩ := HX.out.elems (by omega)
    obtain ⟨b', off', rfl, hcy2⟩ := HY.out.elems (by omega)
    have gx : n < xs.length := by omega
    have gy : n < ys.length := by omega
    have gx2 : xs.length - 1 - m < xs.length := by omega
    have gy2 : ys.length - 1 - m < ys.length := by omega
    have h1 := hcx2 n gx
    have h2 := hcy2 n gy
    have h3 := hcx2 (xs.length - 1 - m) gx2
    have h4 := hcy2 (ys.length - 1 - m) gy2
    have e1 : (xs[n] == ys[n]) = false := by
      rcases HC.out.nexth with hh | hh | hh
      · omega
      · omega
      · rw [List.getElem?_eq_getElem gx, List.getElem?_eq_getElem gy] at hh
        rw [beq_eq_false_iff_ne]
        exact fun h => hh (by rw [h])
    have e2 : (xs[xs.length - 1 - m] == ys[ys.length - 1 - m]) = false := by
      rcases HC.out.nextt with hh | hh | hh
      · omega
      · omega
      · rw [List.getElem?_eq_getElem gx2, List.getElem?_eq_getElem gy2] at hh
        rw [beq_eq_false_iff_ne]
        exact fun h => hh (by rw [h])
    clear hcx2 hcy2 s1 s2 s3 s4
    have HQ := Lib.hid heq
    clear heq
    go_wp2_with fail
    refine wp_region_still_tail 29 (by kernel_rfl) (by kernel_rfl) ?_
    generalize hW : ({ w.drewN (q + q2 + q3 + nq) with drawn := (w.drewN (q + q2 + q3 + nq)).drawn + 1 } : World) = W'
    have bW : Below w.heap.size w W' := by rw [← hW]; exact ⟨rfl, rfl, rfl, Nat.le_refl _, fun _ _ => rfl⟩
    have h1' : W'.cell? ⟨b, off + n, none⟩ = some (.string (B xs[n])) := by rw [← hW]; exact h1
    have h2' : W'.cell? ⟨b', off' + n, none⟩ = some (.string (B ys[n])) := by rw [← hW]; exact h2
    have h3' : W'.cell? ⟨b, off + (xs.length - 1 - m), none⟩ = some (.string (B xs[xs.length - 1 - m])) := by rw [← hW]; exact h3
    have h4' : W'.cell? ⟨b', off' + (ys.length - 1 - m), none⟩ = some (.string (B ys[ys.length - 1 - m])) := by rw [← hW]; exact h4
    clear hW h1 h2 h3 h4
    have heq := HQ.out
    have t1 : ((xs.length : Int) - 1 - (m : Int)).toNat = xs.length - 1 - m := by omega
    have t2 : ((ys.length : Int) - 1 - (m : Int)).toNat = ys.length - 1 - m := by omega
    have p1 : (0 : Int) ≤ (xs.length : Int) - 1 - (m : Int) := by omega
    have p2 : (0 : Int) ≤ (ys.length : Int) - 1 - (m : Int) := by omega
    have p1' : (m : Int) ≤ (xs.length : Int) - 1 := by omega
    have p2' : (m : Int) ≤ (ys.length : Int) - 1 := by omega
    have l1 : (xs.length : Int) - 1 - (m : Int) < (xs.length : Int) := by omega
    have l2 : (ys.length : Int) - 1 - (m : Int) < (ys.length : Int) := by omega
    have f1 : IntKind.i64.wrap ((xs.length : Int) - 1) = (xs.length : Int) - 1 := IntWalk.i64_in _ (by omega)
    have f2 : IntKind.i64.wrap ((xs.length : Int) - 1 - (m : Int)) = (xs.length : Int) - 1 - (m : Int) := IntWalk.i64_in _ (by omega)
    have f3 : IntKind.i64.wrap ((ys.length : Int) - 1) = (ys.length : Int) - 1 := IntWalk.i64_in _ (by omega)
    have f4 : IntKind.i64.wrap ((ys.length : Int) - 1 - (m : Int)) = (ys.length : Int) - 1 - (m : Int) := IntWalk.i64_in _ (by omega)
    clear heq
    simp only [List.take_succ_cons, List.take_zero, List.drop_succ_cons, List.drop_zero]
    repeat still_step
    refine wpStill_nil ?_
    go_wp2_with fail
    refine (awake_any _).mono ?_
    rintro e w4 ⟨rfl, hb4⟩
    go_wp2_with fail
    go_ret
    exact ⟨rfl, bW.trans (hb4.mono bW.size)⟩

theorem Strs.cap {w : World} {v : Value} {xs : List (List UInt8)} (h : Strs w v xs) : ∃ a c, v = .slice a xs.length c ∧ xs.length ≤ c := by
  rcases h with ⟨rfl, a, c, rfl, _, _⟩ | ⟨b, off, c, rfl, _, h3, _⟩
  · exact ⟨a, c, rfl, Nat.zero_le _⟩
  · exact ⟨_, c, rfl, h3⟩

set_option maxHeartbeats 400000 in
theorem lawEnds (v u : Value) (xs ys : List (List UInt8)) (w : World) (hx : Strs w v xs) (hy : Strs w u ys) (hrx : ∀ x ∈ xs, x.length ≤ reach) (hry : ∀ x ∈ ys, x.length ≤ reach) :
    Calls Try.prog 5 #[v, u] w (Yes w) := by
  cases hg : greatL xs
  · cases hg2 : greatL ys
    · obtain ⟨a, c, rfl, hcx⟩ := hx.cap
      obtain ⟨a', c', rfl, hcy⟩ := hy.cap
      exact ends_main a a' c c' xs ys w hx hy hrx hry hg hg2 hcx hcy
    · unfold reach at hrx hry
      have HRX := Lib.hid hrx
      have HRY := Lib.hid hry
      have HG := Lib.hid hg
      have HG2 := Lib.hid hg2
      clear hrx hry hg hg2
      go_enter Try.func5, Try.ntmps5
      go_wp2_with fail
      refine (great_any _ _ _ hx HRX.out).mono ?_
      rintro e w1 ⟨rfl, q, rfl⟩
      rw [HG.out]
      go_wp2_with fail
      refine (great_any _ ys _ (hy.below (below_drewN (Below.refl _ _) q)) HRY.out).mono ?_
      rintro e w1 ⟨rfl, q2, rfl⟩
      rw [HG2.out]
      go_wp2_with fail
      refine (awake_any _).mono ?_
      rintro e w4 ⟨rfl, hb4⟩
      go_wp2_with fail
      go_ret
      exact ⟨rfl, (below_drewN (Below.refl _ _) _).trans (hb4.mono (Nat.le_refl _))⟩
  · unfold reach at hrx
    have HRX := Lib.hid hrx
    have HG := Lib.hid hg
    clear hrx hg
    go_enter Try.func5, Try.ntmps5
    go_wp2_with fail
    refine (great_any _ _ _ hx HRX.out).mono ?_
    rintro e w1 ⟨rfl, q, rfl⟩
    rw [HG.out]
    go_wp2_with fail
    refine (awake_any _).mono ?_
    rintro e w4 ⟨rfl, hb4⟩
    go_wp2_with fail
    go_ret
    exact ⟨rfl, (below_drewN (Below.refl _ _) _).trans (hb4.mono (Nat.le_refl _))⟩
end Go.Proofs.Ytiipiaebclljeaa
