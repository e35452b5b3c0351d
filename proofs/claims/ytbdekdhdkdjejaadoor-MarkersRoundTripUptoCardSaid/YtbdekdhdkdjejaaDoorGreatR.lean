/- quiltref22.Great. -/
import Derived.Test.YtbdekdhdkdjejaaDoorLawQuote
namespace Go.Proofs.YtbdekdhdkdjejaaDoor
open Go.RowKit Go.Shelf

def sidesOf (r : Reg) : List (List (List UInt8)) := r.lines :: r.sides
def cntA (A : List (List (List UInt8))) : Nat := (A.map List.length).sum
def bytA (A : List (List (List UInt8))) : Nat := (A.map total).sum
def cntR (rs : List Reg) : Nat := (rs.map fun r => cntA (sidesOf r)).sum
def bytR (rs : List Reg) : Nat := (rs.map fun r => bytA (sidesOf r)).sum
def greatR (rs : List Reg) : Bool := decide (10 < rs.length) || decide (40 < cntR rs) || decide (5000 < bytR rs)

theorem sum_succ {α : Type} (f : α → Nat) (l : List α) (k : Nat) (h : k < l.length) : ((l.take (k + 1)).map f).sum = ((l.take k).map f).sum + f l[k] := by
  rw [List.take_succ_eq_append_getElem h, List.map_append, List.sum_append]
  simp
theorem sum_take_le {α : Type} (f : α → Nat) (l : List α) (k : Nat) : ((l.take k).map f).sum ≤ (l.map f).sum := by
  have : (l.map f).sum = ((l.take k).map f).sum + ((l.drop k).map f).sum := by
    rw [← List.sum_append, ← List.map_append, List.take_append_drop]
  omega
theorem sum_take_add {α : Type} (f : α → Nat) (l : List α) (k : Nat) (h : k < l.length) : ((l.take k).map f).sum + f l[k] ≤ (l.map f).sum := by
  rw [← sum_succ f l k h]; exact sum_take_le f l (k + 1)

theorem strss_vals {φ : Nat → Prop} {w : World} {a : Option Addr} {n c : Nat} {xss : List (List (List UInt8))} (h : Strss φ w (.slice a n c) xss) :
    ∃ us : List Value, us.length = xss.length ∧ (∀ i (hi : i < us.length) (hj : i < xss.length), StrsIn φ w us[i] xss[i]) ∧ ((a = none ∧ c = 0 ∧ xss = []) ∨ ∃ ad, a = some ad ∧ ∀ j u, us[j]? = some u → w.cell? (ad.add j) = some u) := by
  obtain ⟨a', c', e, h1, h2, h3, h4, h5⟩ := h
  cases e
  cases xss with
  | nil =>
    refine ⟨[], rfl, fun i hi => absurd hi (Nat.not_lt_zero _), ?_⟩
    cases a with
    | none => exact .inl ⟨rfl, h4 rfl, rfl⟩
    | some ad => exact .inr ⟨ad, rfl, fun j u hj => by simp at hj⟩
  | cons x r =>
    obtain ⟨b, off, u, rfl, _, _, _⟩ := h5 0 (by simp)
    refine ⟨(List.range (x :: r).length).map fun i => (w.cell? ⟨b, off + i, none⟩).getD undef, by simp, fun i hi hj => ?_, .inr ⟨_, rfl, fun j u hj => ?_⟩⟩
    · obtain ⟨b', off', u, e, _, g1, g2⟩ := h5 i hj
      cases e
      simp only [List.getElem_map, List.getElem_range, g1, Option.getD_some]
      exact g2
    · rw [List.getElem?_map] at hj
      obtain ⟨i, hi, rfl⟩ := Option.map_eq_some_iff.1 hj
      obtain ⟨hlt, hi2⟩ := List.getElem?_eq_some_iff.1 hi
      rw [List.getElem_range] at hi2
      subst hi2
      obtain ⟨b', off', u, e, _, g1, g2⟩ := h5 j (by simpa using hlt)
      cases e
      have e : (⟨b, off, none⟩ : Addr).add j = ⟨b, off + j, none⟩ := by unfold Addr.add; split <;> simp_all
      rw [e, g1]
      rfl

/-- The lines and the sides in one slice. -/
theorem run_append_all {w W : World} (u1 : Value) (a2 : Option Addr) (n2 c2 : Nat) (xs : List (List UInt8)) (xss : List (List (List UInt8))) (v : Value) (h1 : Strs w u1 xs) (h2 : Strss Any w (.slice a2 n2 c2) xss) (hW : Below w.heap.size w W)
    (hv : W.ownsRow w.heap.size 35 1 v 1 [u1]) (hn : xss.length ≤ 1000000000) :
    ∃ v' w', (Builtin.append_ #[39, 39] 39 #[v, .slice a2 n2 c2]).run Tryd.prog W = .ok v' w' ∧ Strss Any w' v' (xs :: xss) ∧ Below w.heap.size w w' := by
  obtain ⟨i0, hi, hz0, hz1, hz2⟩ := info_parts Tryd.info35
  have hn2 : n2 = xss.length := by obtain ⟨_, _, e, _⟩ := h2; cases e; rfl
  subst hn2
  obtain ⟨us, hl, hs, hcase⟩ := strss_vals h2
  have big : 1000000001 * 24 ≤ 140737488355328 := by decide
  have fin : ∀ (v' : Value) (w' : World), w'.ownsRow w.heap.size 35 1 v' (1 + xss.length) (u1 :: us) → Below w.heap.size w w' → Strss Any w' v' (xs :: xss) := by
    intro v' w' ho hb
    have ho' : w'.ownsRow w.heap.size 35 1 v' (u1 :: us).length (u1 :: us) := by rw [List.length_cons, hl, Nat.add_comm]; exact ho
    refine (strss_of_row (φ := Any) ho' (by simp [hl]) fun i hi hj => ?_).mono (fun _ _ => trivial)
    cases i with
    | zero => exact ⟨h1.below hb, fun _ _ => trivial⟩
    | succ i =>
      have hi' : i < us.length := by simpa using hi
      have hj' : i < xss.length := by simpa using hj
      exact ⟨(hs i hi' hj').1.below hb, fun _ _ => trivial⟩
  rcases hcase with ⟨rfl, rfl, rfl⟩ | ⟨ad, rfl, hc⟩
  · obtain rfl : us = [] := List.eq_nil_of_length_eq_zero hl
    exact ⟨v, W, run_append_owned_none (P := Tryd.prog) (w := W) w.heap.size 39 39 35 i0 1 Tryd.underlying39 hi v 1 [u1] hv, fin v W hv hW, hW⟩
  · obtain ⟨v', w', r1, r2, r3, _⟩ := run_append_own (P := Tryd.prog) W w.heap.size 39 39 35 i0 (.slice none 0 0) 1 24 Tryd.underlying39 hi hz0 hz1 hz2 rfl (by decide) v 1 [u1] hv ad xss.length c2 us (by omega)
      (fun j u hj => by
        have hlt := (List.getElem?_eq_some_iff.1 hj).1
        have := hc j u hj
        exact cell_later hW this)
      (fun u hu => by
        obtain ⟨j, hj, rfl⟩ := List.mem_iff_getElem.1 hu
        obtain ⟨a, c, e⟩ := (hs j hj (by omega)).1.slice
        rw [e]
        rfl) (by unfold maxLen; omega) (by omega) hW.size
    have hb : Below w.heap.size w w' := hW.grown r3 hW.size (fun k e => (hv.lt k e).1)
    exact ⟨v', w', r1, fin v' w' r2 hb, hb⟩

/-- An append whose run is known, at a step of a region that draws its order. -/
theorem step_append_ran {P : Program} {w : World} {ops : Array Oper} {o : Oper} {a : Act} {K : Act → World → Prop} {Q : Exit → Act → World → Prop} {E : Prop} (hgd : o.guard = none) (s x : Operand) (t t' : TypeId)
    (ho : o.op = .call { callee := .builtin .append, args := #[s, x], argTypes := #[t, t'] }) {v' : Value} {w' : World} (hr : (Builtin.append_ #[t, t'] o.type #[a.eval s, a.eval x]).run P w = .ok v' w')
    (h : K (a.put o.dst v') w') : if Region.wanted o (yielded ops a.tmps) = true then Oper.wp P o a w K Q else E := by
  have hw : Region.wanted o (yielded ops a.tmps) = true := by simp [Region.wanted, hgd]
  rw [if_pos hw]
  unfold Oper.wp execOp
  simp only [ho, resolve, invoke, builtin, Sem.run_bind, Sem.run_pure, Result.andThen_ok, List.map_toArray, List.map_cons, List.map_nil, hr]
  exact h

set_option maxRecDepth 100000 in
set_option maxHeartbeats 4000000 in
theorem great_any (φ : Nat → Prop) (v : Value) (rs : List Reg) (w : World) (h : Regs φ w v rs) (hn : cntR rs ≤ 1000000000) (hb : bytR rs ≤ 1000000000) (hl : rs.length ≤ 1000000000) (hsd : ∀ r ∈ rs, r.sides.length ≤ 1000000000) :
    Calls Tryd.prog 11 #[v] w fun e w' => e = .returned (.bool (greatR rs)) ∧ Below w.heap.size w w' := by
  obtain ⟨a, c, rfl⟩ := h.slice
  have HN := Lib.hid hn
  have HBY := Lib.hid hb
  have H := Lib.hid (h.mono (ψ := Any) (fun _ _ => trivial))
  have HSD := Lib.hid hsd
  clear h hn hb hsd
  go_enter Tryd.func11, Tryd.ntmps11
  go_wp2_with fail
  go_loopw [3, 4, 5] (fun n b i wr => ∃ k N M : Nat, k ≤ rs.length ∧ i = .int .i64 k ∧ n = .int .i64 N ∧ b = .int .i64 M ∧ N = cntR (rs.take k) ∧ M = bytR (rs.take k) ∧ Below w.heap.size w wr) (fun _ _ i _ => rs.length - (intOf i).toNat)
  case atStart => exact ⟨0, 0, 0, Nat.zero_le _, rfl, rfl, rfl, rfl, rfl, Below.refl _ _⟩
  case round =>
    obtain ⟨k, N, M, hk, rfl, rfl, rfl, hN, hM, hbl⟩ := hrel
    have HB := Lib.hid hbl
    have HN0 := Lib.hid hN
    have HM0 := Lib.hid hM
    clear hbl hN hM
    by_cases hlt : k < rs.length
    · have HW := Lib.hid (H.out.keeps (Keeps.of_below HB.out))
      obtain ⟨wo, hwo⟩ : ∃ wo : World, wo = wr := ⟨_, rfl⟩
      subst hwo
      obtain ⟨b, off, u1, u2, rfl, _, g0, g1, g2, g3, g4⟩ := HW.out.elem hlt
      obtain ⟨a1, m1, rfl⟩ := g3.1.slice
      obtain ⟨a2, m2, rfl⟩ := g4.slice
      have ho : ((wo.alloc (.cells #[.slice a1 rs[k].lines.length m1] 35)).drew).ownsRow wo.heap.size 35 1 (.slice (some ⟨wo.heap.size, 0, none⟩) 1 1) 1 [.slice a1 rs[k].lines.length m1] := by
        exact World.ownsRow_lit (size := 1) (e := 35) wo #[.slice a1 rs[k].lines.length m1] 1 (Nat.le_refl _) (by decide) rfl
      have hW0 : Below wo.heap.size wo ((wo.alloc (.cells #[.slice a1 rs[k].lines.length m1] 35)).drew) := ((Below.refl _ _).alloc (Nat.le_refl _) _).drew
      obtain ⟨v', w1, hrun, hall, hbel⟩ := run_append_all _ a2 rs[k].sides.length m2 _ _ _ g3.1 g4 hW0 ho (HSD.out _ (List.getElem_mem hlt))
      obtain ⟨A, hA⟩ : ∃ A, A = rs[k].lines :: rs[k].sides := ⟨_, rfl⟩
      rw [← hA] at hall
      obtain ⟨av, cv, rfl⟩ := hall.slice
      have hAl : A.length ≤ 1000000001 := by
        have := HSD.out _ (List.getElem_mem hlt)
        rw [hA, List.length_cons]
        omega
      have HNA := Lib.hid (show N + cntA A ≤ 1000000000 from by
        have h1 := sum_take_add (fun r => cntA (sidesOf r)) rs k hlt
        have h2 := HN.out
        have h3 := HN0.out
        have e : cntA A = cntA (sidesOf rs[k]) := by rw [hA]; rfl
        unfold cntR at h2 h3
        rw [e, h3]
        exact Nat.le_trans h1 h2)
      have HMA := Lib.hid (show M + bytA A ≤ 1000000000 from by
        have h1 := sum_take_add (fun r => bytA (sidesOf r)) rs k hlt
        have h2 := HBY.out
        have h3 := HM0.out
        have e : bytA A = bytA (sidesOf rs[k]) := by rw [hA]; rfl
        unfold bytR at h2 h3
        rw [e, h3]
        exact Nat.le_trans h1 h2)
      have HN1 := Lib.hid (show N + cntA A = cntR (rs.take (k + 1)) from by
        rw [HN0.out, hA]
        exact (sum_succ (fun r => cntA (sidesOf r)) rs k hlt).symm)
      have HM1 := Lib.hid (show M + bytA A = bytR (rs.take (k + 1)) from by
        rw [HM0.out, hA]
        exact (sum_succ (fun r => bytA (sidesOf r)) rs k hlt).symm)
      have HRUN := Lib.hid hrun
      have HALL := Lib.hid hall
      have HBEL := Lib.hid (HB.out.trans (hbel.mono HB.out.size))
      clear hrun hall hbel ho hW0 g3 g4 hA
      go_wp2_with fail
      go_region_law (refine step_append_ran rfl (.tmp 20) (.tmp 25) 39 39 rfl (by simpa [Act.eval] using HRUN.out) ?_)
      all_goals clear HRUN g0 g1 g2
      all_goals go_wp2_with fail
      all_goals
        go_loop [3, 4, 7] (fun n b i => ∃ j N' M' : Nat, j ≤ A.length ∧ i = .int .i64 j ∧ n = .int .i64 N' ∧ b = .int .i64 M' ∧ N' = N + cntA (A.take j) ∧ M' = M + bytA (A.take j)) (fun _ _ i => A.length - (intOf i).toNat)
        case atStart => exact ⟨0, N, M, Nat.zero_le _, rfl, rfl, rfl, rfl, rfl⟩
        case round =>
          obtain ⟨j, N', M', hj, rfl, rfl, rfl, hN', hM'⟩ := hrel
          have HN' := Lib.hid hN'
          have HM' := Lib.hid hM'
          clear hN' hM'
          by_cases hjl : j < A.length
          · obtain ⟨b5, off5, u5, rfl, _, g5, g6⟩ := HALL.out.elem hjl
            obtain ⟨a6, c6, rfl⟩ := g6.1.slice
            have HG := Lib.hid g6.1
            clear g6
            have hb1 : N' + A[j].length ≤ 1000000000 := by
              have h1 := sum_take_add List.length A j hjl
              have h2 := HNA.out
              have h3 := HN'.out
              unfold cntA at h2 h3
              omega
            have HB2 := Lib.hid (show M' + total A[j] ≤ 1000000000 from by
              have h1 := sum_take_add total A j hjl
              have h2 := HMA.out
              have h3 := HM'.out
              unfold bytA at h2 h3
              omega)
            go_wp2_with fail
            have hm8 : A[j].length ≤ 1000000000 := by omega
            go_loop [4, 8] (fun b i => ∃ q M'' : Nat, q ≤ A[j].length ∧ i = .int .i64 q ∧ b = .int .i64 M'' ∧ M'' = M' + total (A[j].take q)) (fun _ i => A[j].length - (intOf i).toNat)
            case atStart => exact ⟨0, M', Nat.zero_le _, rfl, rfl, rfl⟩
            case round =>
              obtain ⟨q, M'', hq, rfl, rfl, hM''⟩ := hrel
              have HM'' := Lib.hid hM''
              clear hM''
              by_cases hql : q < A[j].length
              · obtain ⟨b7, off7, rfl, hcell⟩ := HG.out.elem hql
                have hb3 : M'' + A[j][q].length ≤ 1000000000 := by
                  have h1 := total_succ A[j] q hql
                  have h2 := total_take_le A[j] (q + 1)
                  have h3 := HM''.out
                  have h4 := HB2.out
                  omega
                go_wp2_with fail
                go_round
                case rel => exact ⟨q + 1, M'' + A[j][q].length, by omega, by go_num, by go_num, by rw [HM''.out, total_succ A[j] q hql]; omega⟩
                case measure => simp [intOf]; omega
              · go_wp2_with fail
                go_round
                case rel =>
                  refine ⟨j + 1, N' + A[j].length, M'', by omega, by go_num, by go_num, rfl, ?_, ?_⟩
                  · rw [HN'.out]; unfold cntA; rw [sum_succ List.length A j hjl]; omega
                  · have ht2 : A[j].take q = A[j] := List.take_of_length_le (by omega)
                    rw [HM''.out, HM'.out, ht2]; unfold bytA; rw [sum_succ total A j hjl]; omega
                case measure => simp [intOf]; omega
          · go_wp2_with fail
            go_roundw
            case rel =>
              have ht : A.take j = A := List.take_of_length_le (by omega)
              exact ⟨k + 1, N', M', by omega, by go_num, rfl, rfl, by rw [HN'.out, ht]; exact HN1.out, by rw [HM'.out, ht]; exact HM1.out, HBEL.out⟩
            case measure => simp [intOf]; omega
    · have ht : rs.take k = rs := List.take_of_length_le (by omega)
      have hNe : N = cntR rs := by rw [HN0.out, ht]
      have hMe : M = bytR rs := by rw [HM0.out, ht]
      subst hNe hMe
      have hun := undef_bool
      have HG := Lib.hid (show greatR rs = (decide (10 < rs.length) || decide (40 < cntR rs) || decide (5000 < bytR rs)) from rfl)
      clear ht
      by_cases e1 : 10 < rs.length
      · have d1 : decide ((10 : Int) < (rs.length : Int)) = true := by simp; omega
        go_wp2_with fail
        go_ret
        exact ⟨ret_bool (by rw [HG.out]; simp [e1]), HB.out⟩
      · have d1 : decide ((10 : Int) < (rs.length : Int)) = false := by simp; omega
        by_cases e2 : 40 < cntR rs
        · have d2 : decide ((40 : Int) < (cntR rs : Int)) = true := by simp; omega
          go_wp2_with fail
          go_ret
          exact ⟨ret_bool (by rw [HG.out]; simp [e2]), HB.out⟩
        · have d2 : decide ((40 : Int) < (cntR rs : Int)) = false := by simp; omega
          by_cases e3 : 5000 < bytR rs
          · have d3 : decide ((5000 : Int) < (bytR rs : Int)) = true := by simp; omega
            go_wp2_with fail
            go_ret
            exact ⟨ret_bool (by rw [HG.out]; simp [e3]), HB.out⟩
          · have d3 : decide ((5000 : Int) < (bytR rs : Int)) = false := by simp; omega
            go_wp2_with fail
            go_ret
            exact ⟨ret_bool (by rw [HG.out]; simp [e1, e2, e3]), HB.out⟩
end Go.Proofs.YtbdekdhdkdjejaaDoor
