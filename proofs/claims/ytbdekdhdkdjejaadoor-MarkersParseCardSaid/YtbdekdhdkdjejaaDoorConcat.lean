/- slices.Grow and slices.Concat at strings. -/
import Derived.Shelf.Spec.SlicesGrow
import Derived.Laws.AppendOwnNone
import Derived.Test.YtbdekdhdkdjejaaDoorErrs
namespace Go.Proofs.YtbdekdhdkdjejaaDoor
open Go.RowKit

open Go.Lib in
set_option maxHeartbeats 4000000 in
set_option maxRecDepth 100000 in
theorem grow_pos (n : Nat) (w : World) (hn : 0 < n) (hb : n ≤ 1000000) : Calls Tryd.prog 60 #[.slice none 0 0, .int .i64 n] w fun e w' => ∃ v, e = .returned v ∧ Owns w' w.heap.size v [] ∧ Below w.heap.size w w' := by
  obtain ⟨i0, hi, hz0, hz1, hz2⟩ := info_parts Tryd.info9
  have big : 1000000 * 16 ≤ 140737488355328 := by decide
  have h1 : ¬ ((n : Int) < 0) := by omega
  have h4 : (n : Int) > 0 := by omega
  have hold : (Builtin.firstCells i0.size 0 (.slice none 0 0)).run Tryd.prog w.drew = .ok ([] : List Value).toArray w.drew := run_firstCells_none w.drew i0.size 0 0 0
  have hrz : ∀ ty, (Builtin.append_ #[35, 3] ty #[.slice none 0 0, .int .i64 n]).run Tryd.prog w =
      .ok (.slice (some ⟨w.heap.size, 0, none⟩) n (grownCap w n 0 9)) (w.drew.alloc (.cells (([] : List Value).toArray ++ Builtin.zeroCells (Value.cells (.string ⟨#[]⟩)) n ++ Builtin.zeroCells (Value.cells (.string ⟨#[]⟩)) (grownCap w n 0 9 - n)) 9)) := fun ty => by
    have h := Lib.run_append_grow_zeros w 35 3 ty 9 i0 (.string ⟨#[]⟩) .i64 .i64 Tryd.underlying35 Tryd.underlying3 hi hz0 none 0 0 [] hold n (by omega) (by omega) (by omega) (by omega)
      (by rw [hz2]; omega)
      (by rw [Nat.zero_add]; exact growslice_fits hn (by rw [hz2]; omega))
    rw [Nat.zero_add] at h
    exact h
  have hGn : n ≤ grownCap w n 0 9 := grownCap_ge w _ _ _
  obtain ⟨G, hG⟩ : ∃ G, G = grownCap w n 0 9 := ⟨_, rfl⟩
  rw [← hG] at hrz hGn
  have hG48 : G ≤ maxLen := by
    have := grownCap_le_maxLen w n 0 9 (by unfold maxLen; omega)
    rw [← hG] at this
    exact this
  have hGm := Lib.hid hG48
  unfold maxLen at hG48
  clear hold hG
  go_enter Tryd.func60, Tryd.ntmps60
  go_wp2_with (at_builtin; refine Lib.wpList_append_run _ rfl _ _ _ _ rfl _ _ rfl rfl _ _ (hrz _) ?_)
  go_ret
  refine ⟨_, rfl, ?_, ?_⟩
  · refine ⟨rfl, .inr ⟨w.heap.size, _, _, rfl, Nat.le_refl _, heap_alloc_new w.drew _, Nat.zero_le _, hGm.out, ?_, by simp⟩⟩
    have e : (Value.cells (.string ⟨#[]⟩)).size = 1 := rfl
    simp only [Array.size_append, size_zeroCells, List.size_toArray, List.length_cons, List.length_nil]
    omega
  · exact ((Below.refl _ _).drew).alloc (Nat.le_refl _) _
/-- Appending strings to a row of the call's own, wherever they come from. -/
theorem run_append_strs (base : Nat) (v u : Value) (xs ys : List (List UInt8)) (w : World) (ho : Owns w base v xs) (hu : Strs w u ys) (hn : xs.length + ys.length ≤ 1000000) (hb : base ≤ w.heap.size) :
    ∃ v' w', (Builtin.append_ #[35, 35] 35 #[v, u]).run Tryd.prog w = .ok v' w' ∧ Owns w' base v' (xs ++ ys) ∧ Below base w w' := by
  obtain ⟨i0, hi, hz0, hz1, hz2⟩ := info_parts Tryd.info9
  have big : 1000000 * 16 ≤ 140737488355328 := by decide
  rcases hu with ⟨rfl, a, cap, rfl, hcap, hnone⟩ | ⟨b, off, cap, rfl, h2, h3, h4, h5, h6⟩
  · cases a with
    | none =>
      obtain rfl : cap = 0 := hnone rfl
      exact ⟨v, w, run_append_owned_none (P := Tryd.prog) (w := w) base 35 35 9 i0 1 Tryd.underlying35 hi v xs.length (xs.map strV) ho, by rw [List.append_nil]; exact ho, Below.refl _ _⟩
    | some a =>
      obtain ⟨v', w', h1, h2, h3, _⟩ := run_append_own (P := Tryd.prog) w base 35 35 9 i0 (.string ⟨#[]⟩) 1 16 Tryd.underlying35 hi hz0 hz1 hz2 rfl (by decide) v xs.length (xs.map strV) ho a 0 cap [] rfl (fun j u hj => by simp at hj) (fun u hu => by cases hu) (by unfold maxLen; omega) (by omega) hb
      refine ⟨v', w', h1, ?_, (Below.refl base w).grown h3 hb (fun k e => (ho.lt k e).1)⟩
      unfold Owns
      simpa using h2
  · obtain ⟨v', w', h1, h2', h3', _⟩ := run_append_own (P := Tryd.prog) w base 35 35 9 i0 (.string ⟨#[]⟩) 1 16 Tryd.underlying35 hi hz0 hz1 hz2 rfl (by decide) v xs.length (xs.map strV) ho ⟨b, off, none⟩ ys.length cap (ys.map strV) (by simp)
      (fun j u hj => by
        rw [List.getElem?_map] at hj
        obtain ⟨x, hx, rfl⟩ := Option.map_eq_some_iff.1 hj
        have hlt := (List.getElem?_eq_some_iff.1 hx).1
        have e : (⟨b, off, none⟩ : Addr).add j = ⟨b, off + j, none⟩ := by unfold Addr.add; split <;> simp_all
        rw [e, h6 j hlt, hx]
        rfl)
      (fun u hu => by obtain ⟨x, _, rfl⟩ := List.mem_map.1 hu; rfl) (by unfold maxLen; omega) (by omega) hb
    refine ⟨v', w', h1, ?_, (Below.refl base w).grown h3' hb (fun k e => (ho.lt k e).1)⟩
    unfold Owns
    rw [List.length_append, List.map_append]
    exact h2'

/-- An append whose run is known, also behind a guard. -/
theorem wpList_append_ran {P : Program} {w : World} {ops : Array Oper} {rest : List Oper} {o : Oper} {a : Act} {Q : Exit → Act → World → Prop} (hw : Region.wanted o (yielded ops a.tmps) = true) (s x : Operand) (t t' : TypeId)
    (ho : o.op = .call { callee := .builtin .append, args := #[s, x], argTypes := #[t, t'] }) {v' : Value} {w' : World} (hr : (Builtin.append_ #[t, t'] o.type #[a.eval s, a.eval x]).run P w = .ok v' w')
    (h : wpList P ops Q rest (a.put o.dst v') w') : wpList P ops Q (o :: rest) a w := by
  refine wpList_step fun K hK => ?_
  rw [if_pos hw]
  unfold Oper.wp execOp
  simp only [ho, resolve, invoke, builtin, Sem.run_bind, Sem.run_pure, Result.andThen_ok, List.map_toArray, List.map_cons, List.map_nil, hr]
  exact hK _ _ h

theorem flat_succ (xss : List (List (List UInt8))) (k : Nat) (h : k < xss.length) : (xss.take (k + 1)).flatten = (xss.take k).flatten ++ xss[k] := by
  rw [List.take_succ_eq_append_getElem h, List.flatten_append]
  simp
theorem flat_take_le (xss : List (List (List UInt8))) (k : Nat) : (xss.take k).flatten.length ≤ xss.flatten.length := by
  have : xss.flatten = (xss.take k).flatten ++ (xss.drop k).flatten := by rw [← List.flatten_append, List.take_append_drop]
  rw [this, List.length_append]; omega

theorem grow_any (n : Nat) (w : World) (hb : n ≤ 1000000) : Calls Tryd.prog 60 #[.slice none 0 0, .int .i64 n] w fun e w' => ∃ v, e = .returned v ∧ Owns w' w.heap.size v [] ∧ Below w.heap.size w w' := by
  rcases Nat.eq_zero_or_pos n with rfl | hn
  · go_enter Tryd.func60, Tryd.ntmps60
    go_wp2
    go_ret
    exact ⟨_, rfl, Owns.nil _ _, Below.refl _ _⟩
  · exact grow_pos n w hn hb

set_option maxHeartbeats 2000000 in
theorem concat_any (φ : Nat → Prop) (v : Value) (xss : List (List (List UInt8))) (w : World) (h : Strss φ w v xss) (hs : xss.flatten.length ≤ 1000000) :
    Calls Tryd.prog 36 #[v] w fun e w' => ∃ v', e = .returned v' ∧ Strs w' v' xss.flatten ∧ Below w.heap.size w w' := by
  obtain ⟨a, c, rfl⟩ := h.slice
  have hm := h.le
  unfold maxLen at hm
  go_enter Tryd.func36, Tryd.ntmps36
  go_wp2
  go_loopw [3, 5, 11] (fun s _ i wr => ∃ k q S : Nat, i = .int .i64 k ∧ s = .int .i64 S ∧ S = (xss.take k).flatten.length ∧ k ≤ xss.length ∧ wr = w.drewN q) (fun _ _ i _ => xss.length - (intOf i).toNat)
  case atStart => exact ⟨0, 0, 0, rfl, rfl, rfl, by omega, rfl⟩
  case round =>
    obtain ⟨k, q, S, rfl, rfl, hS, hk, rfl⟩ := hrel
    have hSle : S ≤ 1000000 := by have := flat_take_le xss k; omega
    have HS := Lib.hid hS
    clear hS
    by_cases hlt : k < xss.length
    · obtain ⟨b, off, u, rfl, hb, hcell, hu, _⟩ := h.elem hlt
      obtain ⟨a2, c2, rfl⟩ := hu.slice
      have hin : (k : Int) < (xss.length : Int) := by omega
      have hx := hu.le
      unfold maxLen at hx
      have hadd : S + xss[k].length ≤ 1000000 := by
        have h1 := flat_take_le xss (k + 1)
        rw [flat_succ _ _ hlt, List.length_append, ← HS.out] at h1
        omega
      have hneg : ¬ ((S : Int) + (xss[k].length : Int) < 0) := by omega
      go_wp2
      go_roundw
      case rel => exact ⟨k + 1, _, S + xss[k].length, by go_num, by go_num, by rw [flat_succ _ _ hlt, List.length_append, HS.out], by omega, rfl⟩
      case measure => simp [intOf]; omega
    · have hcall := fun w => grow_any S w hSle
      go_wp2_with fail
      refine (hcall _).mono ?_
      rintro e w1 ⟨v1, rfl, ho1, hb1⟩
      go_wp2_with fail
      go_loopw [6, 8, 27] (fun o _ i wr => ∃ k2 : Nat, i = .int .i64 k2 ∧ k2 ≤ xss.length ∧ Owns wr w.heap.size o (xss.take k2).flatten ∧ Below w.heap.size w wr) (fun _ _ i _ => xss.length - (intOf i).toNat)
      case atStart => exact ⟨0, rfl, by omega, ho1, (below_drewN (Below.refl _ _) _).trans hb1⟩
      case round =>
        obtain ⟨k2, rfl, hk2, ho, hbel⟩ := hrel
        by_cases hlt2 : k2 < xss.length
        · obtain ⟨b, off, u, rfl, hb, hcell, hu, _⟩ := (h.keeps (Keeps.of_below hbel)).elem hlt2
          have hin : (k2 : Int) < (xss.length : Int) := by omega
          have hn : (xss.take k2).flatten.length + xss[k2].length ≤ 1000000 := by
            have h1 := flat_take_le xss (k2 + 1)
            rw [flat_succ _ _ hlt2, List.length_append] at h1
            omega
          obtain ⟨v', w', hr, ho', hb'⟩ := run_append_strs w.heap.size _ u _ _ _ ho hu hn hbel.size
          have HN := Lib.hid hn
          have HR := Lib.hid hr
          clear hn hr
          go_wp2_with (at_builtin; go_must (refine wpList_append_ran rfl _ _ 35 35 rfl HR.out ?_))
          go_roundw
          case rel => exact ⟨k2 + 1, by go_num, by omega, by rw [flat_succ _ _ hlt2]; exact ho', hbel.trans hb'⟩
          case measure => simp [intOf]; omega
        · go_wp2
          go_ret
          refine ⟨_, rfl, ?_, hbel⟩
          have := ho.strs
          rwa [List.take_of_length_le (by omega)] at this
end Go.Proofs.YtbdekdhdkdjejaaDoor
