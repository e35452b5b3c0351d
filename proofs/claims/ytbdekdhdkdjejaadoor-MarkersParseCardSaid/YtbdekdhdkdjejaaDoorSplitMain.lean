/-  -/
import Derived.Test.YtbdekdhdkdjejaaDoorSplit
namespace Go.Proofs.YtbdekdhdkdjejaaDoor
open Go.RowKit Go.Shelf
attribute [local go_sem] Oper.semAt_some

theorem linesOf_length (cur l : List UInt8) : (linesOf cur l).length ≤ l.length := by
  induction l generalizing cur with
  | nil => rw [linesOf_nil]; exact Nat.le_refl _
  | cons c r ih =>
    rw [linesOf]
    have h1 := ih []
    have h2 := ih (cur ++ [c])
    split
    · simp only [List.length_cons]; omega
    · simp only [List.length_cons]; omega

theorem longLine_snoc (pre : List (List UInt8)) (x : List UInt8) : longLine (pre ++ [x]) = (longLine pre || decide (1000 < x.length)) := by
  unfold longLine
  rw [List.any_append]
  simp

set_option maxHeartbeats 400000 in
theorem each_box (n : Nat) (l : List UInt8) (w : World) :
    CallsIn Fence.wide n Tryd.prog 50 #[.string (B l)] w fun e w' => e = .returned (.func (.func 69) #[] #[.pointer (some ⟨w.heap.size, 0, none⟩)]) ∧ w' = w.alloc (.cells #[.string (B l)] 9) := by
  refine callsIn_of_wp Tryd.func50 rfl trivial ?_ rfl
  simp only [Tryd.ntmps50, List.size_toArray, List.length_cons, List.length_nil, Nat.reduceAdd, Nat.reduceSub, Array.replicate_succ, Array.replicate_zero, List.push_toArray, List.append_toArray, List.nil_append, List.cons_append]
  gi_wp2
  go_ret
  exact ⟨rfl, rfl⟩

/-- Between two rounds: the lines so far lie in a row of the call's own; has there been a long one? -/
def SplitInv (w : World) (pre : List (List UInt8)) (W : World) : Prop :=
  (∃ v, Boxed W w.heap.size 35 v ∧ W.ownsRow (w.heap.size + 3) 9 1 v pre.length (pre.map strV)) ∧ Boxed W (w.heap.size + 1) 4 (.bool (longLine pre)) ∧ Below w.heap.size w W ∧ w.heap.size + 3 ≤ W.heap.size
theorem splitInv_own (w : World) (N : Nat) (hN : w.heap.size + 3 ≤ N) : OwnFrom N (SplitInv w) := by
  rintro pre X Y row ⟨⟨v, hv, hrow⟩, hl, hb, hsz⟩ hg hr
  have hne : ∀ k, k < N → some k ≠ row := fun k hk e => by have := (hr k e.symm).1; omega
  refine ⟨⟨v, hv.kept hg (hne _ (by omega)), hrow.kept hg ?_⟩, hl.kept hg (hne _ (by omega)), hb.grown hg hb.size (fun k e => by have := (hr k e).1; omega), Nat.le_trans hsz hg.size⟩
  cases hv2 : v.ownBlock with
  | none => exact .inl rfl
  | some g =>
    right
    intro e
    obtain ⟨_, o, ho, hc⟩ := hr g e.symm
    rcases hrow.2 with ⟨rfl, _⟩ | ⟨g', cap, cur, rfl, _, hgg, _⟩
    · cases hv2
    · simp only [Value.ownBlock, Option.some.injEq] at hv2
      subst hv2
      rw [hgg] at ho
      cases ho
      cases hc
theorem splitInv_outlives (w : World) : Outlives (· = w.heap.size + 2) (SplitInv w) := by
  rintro pre X Y row ⟨⟨v, hv, hrow⟩, hl, hb, hsz⟩ hg hr
  have hne : ∀ k, k ≠ w.heap.size + 2 → some k ≠ row := fun k hk e => hk (hr k e.symm)
  refine ⟨⟨v, hv.kept hg (hne _ (by omega)), hrow.kept hg ?_⟩, hl.kept hg (hne _ (by omega)), hb.grown hg hb.size (fun k e => by have := hr k e; omega), Nat.le_trans hsz hg.size⟩
  cases hv2 : v.ownBlock with
  | none => exact .inl rfl
  | some g =>
    right
    have := hrow.lt g hv2
    exact hne g (by omega)


theorem cell_one_at (W : World) (N : Nat) (h : N = W.heap.size) (x : Value) (t : TypeId) : ∀ j u, [x][j]? = some u → (W.alloc (.cells #[x] t)).cell? ((⟨N, 0, none⟩ : Addr).add j) = some u := by
  subst h; exact cell_one_new W x t

theorem row_slice {W : World} {base : Nat} {e : TypeId} {size : Nat} {v : Value} {k : Nat} {xs : List Value} (h : W.ownsRow base e size v k xs) : ∃ a cap, v = .slice a k cap := by
  rcases h.2 with ⟨rfl, rfl⟩ | ⟨g, cap, _, rfl, _⟩
  · exact ⟨none, 0, rfl⟩
  · exact ⟨_, cap, rfl⟩
theorem Strs.put {W : World} {v : Value} {xs : List (List UInt8)} {l : Nat} {o o' : Obj} (h : Strs W v xs) (hl : W.heap[l]? = some o) (ho : o.isCells = false) : Strs (W.putObj l o') v xs := by
  rcases h with h | ⟨b, off, cap, h1, h2, h3, h4, h5, h6⟩
  · exact .inl h
  · refine .inr ⟨b, off, cap, h1, h2, h3, h4, by simpa using h5, fun i hi => ?_⟩
    exact cell_kept (h6 i hi) (grownBy_putObj' W l o') (fun r e => by cases e; exact ⟨o, hl, ho⟩)

theorem split_round {w W w1 : World} {pre : List (List UInt8)} {x : List UInt8} {v v' : Value} {b : Bool} {tmp : Obj}
    (hv : Boxed W w.heap.size 35 v) (hrow : W.ownsRow (w.heap.size + 3) 9 1 v pre.length (pre.map strV)) (hL : Boxed W (w.heap.size + 1) 4 (.bool (longLine pre))) (hB : Below w.heap.size w W)
    (hsz : w.heap.size + 3 ≤ W.heap.size) (hb : longLine (pre ++ [x]) = b)
    (hown' : w1.ownsRow (w.heap.size + 3) 9 1 v' (pre.length + 1) (pre.map strV ++ [strV x])) (hgrow : ((W.setCell ⟨w.heap.size + 1, 0, none⟩ (.bool b)).alloc tmp).grownBy w1 v.ownBlock) :
    Boxed w1 w.heap.size 35 v ∧ KeepsOthers W (w1.setCell ⟨w.heap.size, 0, none⟩ v') ∧ keepBox (w.heap.size + 1 + 1) W (w1.setCell ⟨w.heap.size, 0, none⟩ v') ∧ SplitInv w (pre ++ [x]) (w1.setCell ⟨w.heap.size, 0, none⟩ v') := by
  have hne : ∀ k, k < w.heap.size + 3 → some k ≠ v.ownBlock := fun k hk e => by have := (hrow.lt k e.symm).1; omega
  obtain ⟨W2, hW2⟩ : ∃ W2, W2 = W.setCell ⟨w.heap.size + 1, 0, none⟩ (.bool b) := ⟨_, rfl⟩
  rw [← hW2] at hgrow
  have g2 : W.grownBy W2 (some (w.heap.size + 1)) := by rw [hW2]; exact grownBy_setCell' _ _ _
  have a1 : Boxed W2 w.heap.size 35 v := hv.kept g2 (by simp)
  have a2 : Boxed W2 (w.heap.size + 1) 4 (.bool b) := by rw [hW2]; exact hL.set _
  have b1 : Boxed w1 w.heap.size 35 v := (a1.alloc _).kept hgrow (hne _ (by omega))
  have b2 : Boxed w1 (w.heap.size + 1) 4 (.bool b) := (a2.alloc _).kept hgrow (hne _ (by omega))
  have g3 := grownBy_setCell' w1 w.heap.size v'
  have sz2 : W2.heap.size = W.heap.size := by rw [hW2]; simp
  have c1 : KeepsOthers W W2 := by rw [hW2]; exact KeepsOthers.setCell _ _ _
  have c2 : KeepsOthers (W2.alloc tmp) w1 := by
    refine KeepsOthers.of_grownBy hgrow fun j o hj ho => ?_
    rcases hrow.2 with ⟨rfl, _⟩ | ⟨g, cap, cur, rfl, hbg, hgg, _⟩
    · cases hj
    · simp only [Value.ownBlock, Option.some.injEq] at hj
      subst hj
      have hlt := (Array.getElem?_eq_some_iff.1 hgg).1
      rw [Below.heap_alloc _ _ _ (by omega), g2.block g hlt (by simp; omega), hgg] at ho
      cases ho
      rfl
  have hk : KeepsOthers W (w1.setCell ⟨w.heap.size, 0, none⟩ v') := ((c1.trans (KeepsOthers.alloc _ _)).trans c2).trans (KeepsOthers.setCell _ _ _)
  refine ⟨b1, hk, ?_, ⟨v', b1.set _, ?_⟩, ?_, ?_, ?_⟩
  · unfold keepBox
    rw [g3.block (w.heap.size + 1 + 1) (by have := hgrow.size; simp at this; omega) (by simp; omega), hgrow.block (w.heap.size + 1 + 1) (by simp; omega) (hne _ (by omega)),
      Below.heap_alloc _ _ _ (by omega), g2.block _ (by omega) (by simp)]
  · rw [List.length_append, List.map_append]
    exact ownsRow_setCell_below hown' (by simp) _
  · rw [hb]
    exact b2.kept g3 (by simp)
  · refine ((((hB.grown g2 hB.size (fun k e => by cases e; omega)).alloc (by omega) tmp).grown hgrow (by simp; omega) (fun k e => by have := (hrow.lt k e).1; omega)).grown g3 ?_ (fun k e => by cases e; omega))
    have := hgrow.size
    simp at this
    omega
  · have := hgrow.size
    have := g3.size
    simp at *
    omega

set_option maxRecDepth 100000 in
set_option maxHeartbeats 2000000 in
theorem split_main (l : List UInt8) (w : World) (h : l.length ≤ 65536) (h0 : hasNul l = false) (h1 : badEnd l = false) (he : l.isEmpty = false) : Calls Tryd.prog 26 #[.string (B l)] w (SplitOut l w) := by
  obtain ⟨i0, hi, hz0, hz1, hz2⟩ := info_parts Tryd.info9
  have HK := Lib.hid (nulAt_neg h0)
  have HS : Hid (Lib.hasSuffix l [10] = true) := by
    have hne : l ≠ [] := by rintro rfl; cases he
    rw [badEnd_cons hne] at h1
    have h2 : Lib.hasSuffix l [10] = true := by simpa using h1
    exact h2
  have H0 := Lib.hid h0
  have H1 := Lib.hid h1
  clear h0 h1
  have hlen : decide ((65536 : Int) < (l.length : Int)) = false := by simp; omega
  refine (callsIn_wide (n := 10)).1 ?_
  refine callsIn_of_wp_marks Tryd.func26 rfl trivial ?_ rfl
  simp only [Tryd.ntmps26, List.size_toArray, List.length_cons, List.length_nil, Nat.reduceAdd, Nat.reduceSub, Array.replicate_succ, Array.replicate_zero, List.push_toArray, List.append_toArray, List.nil_append, List.cons_append]
  gi_wp2_with (first | (refine ⟨trivial, ?_⟩; gi_at_call 48; refine (callsIn_wide.2 (index_nul _ _)).mono ?_; rintro e w' ⟨rfl, rfl⟩; rw [HK.out]) | (refine ⟨trivial, ?_⟩; gi_at_call 49; refine (callsIn_wide.2 (hasSuffix_lf _ _ (by unfold maxLen; omega))).mono ?_; rintro e w' ⟨rfl, rfl⟩; rw [HS.out]) | (refine ⟨trivial, ?_⟩; gi_at_call 50; refine (each_box _ _ _).mono ?_; rintro e w' ⟨rfl, rfl⟩))
  have bO := Boxed.new w 35 (.slice none 0 0)
  have bL := Boxed.new (w.alloc (.cells #[.slice none 0 0] 35)) 4 (.bool false)
  have bS := Boxed.new ((w.alloc (.cells #[.slice none 0 0] 35)).alloc (.cells #[.bool false] 4)) 9 (.string (B l))
  simp only [World.size_alloc] at bL bS
  have hB0 : Below w.heap.size w (((w.alloc (.cells #[.slice none 0 0] 35)).alloc (.cells #[.bool false] 4)).alloc (.cells #[.string (B l)] 9)) := (((Below.refl _ w).alloc (Nat.le_refl _) _).alloc (by simp) _).alloc (by simp; omega) _
  refine iter_law rfl (by omega) (gf := 69) (lb := #[.pointer (some ⟨w.heap.size + 1 + 1, 0, none⟩)]) rfl trivial (enters_of Tryd.func69 (by kernel_rfl) rfl)
    (each1_iter _ (w.heap.size + 1 + 1) l _ (by unfold maxLen; omega) bS) (by rintro k rfl; simp) (fun h k => Eq.trans k h) ?hkb (fun _ => rfl)
    (SplitInv w) (fun _ _ _ => False) (splitInv_own w _ (by simp)) (fun _ _ _ _ _ hs _ _ => hs) (splitInv_outlives w) (fun _ _ _ _ _ hs _ _ => hs)
    ⟨⟨_, (bO.alloc _).alloc _, World.ownsRow_nil _ _ _ _⟩, bL.alloc _, hB0, by simp⟩
    (fun x => { tmps := #[Value.string (B l), undef, Value.slice none 0 0, Value.int IntKind.i64 0,
          Value.pointer (some { block := w.heap.size, off := 0 }),
          Value.pointer (some { block := w.heap.size + 1, off := 0 }), Value.string (B x), Value.string (B l),
          Value.int IntKind.i64 ↑l.length, Value.bool false, Value.string (B l), Value.int IntKind.i64 (-1),
          Value.bool false, Value.bool false, Value.string (B l), Value.bool true, Value.bool true, Value.string (B l),
          Value.bool true, Value.bool false, Value.bool false, Value.bool false, Value.string (B l),
          Value.func (Fn.func 69) #[] #[Value.pointer (some { block := w.heap.size + 1 + 1, off := 0 })], Value.string (B x), undef,
          undef, undef, undef, undef, undef, undef, undef, undef, undef, undef, undef, undef, undef, undef, undef,
          undef], defers := [] }) ?assign ?body ?done ?stop
  case hkb =>
    intro V r r' hk
    exact World.putObj_heap_other (by simp)
  case assign =>
    intro l0 x W K hK
    dsimp only [strEnc]
    gi_wp2
    exact hK
  case body =>
    rintro l0 pre x W ⟨⟨v, hv, hrow⟩, hL, hB, hsz⟩ hpart
    have hpl : pre.length + 1 ≤ 65536 := by
      have h1 := hpart.length_le
      have h2 := linesOf_length [] l
      simp at h1
      omega
    have hc := hv.cell
    have hLc := hL.cell
    have hLf := hL.frozen
    have hS := longLine_snoc pre x
    have hbig : (65536 : Nat) * 16 ≤ 140737488355328 := by decide
    clear hpart
    cases hlp : longLine pre
    · rw [hlp] at hLc hS
      by_cases hx : 1000 < x.length
      · have hxd : decide ((1000 : Int) < (x.length : Int)) = true := by simp; omega
        have HSn := Lib.hid (show longLine (pre ++ [x]) = true from by rw [hS]; simp [hx])
        clear hS hx hlp
        gi_wp2_with (gi_at_builtin; go_must (refine wpListIn_append_own _ rfl _ _ 35 rfl (w.heap.size + 3) 9 i0 (.string ⟨#[]⟩) 1 16 Tryd.underlying35 hi hz0 hz1 hz2 rfl (by decide) _ _ _ rfl ((ownsRow_setCell_below hrow (by simp) _).alloc _) ⟨W.heap.size, 0, none⟩ 1 1 [strV x] rfl rfl (cell_one_at _ _ (by simp) _ _) (by simp [strV, Value.oneCell']) (by unfold maxLen; omega) (by omega) (by simp; omega) ?_); intro v' w1 hown' hgrow _; obtain ⟨g', cap', rfl⟩ := ownsRow_succ hown'; obtain ⟨hv1, hk1, hp1, hinv1⟩ := split_round hv hrow hL hB hsz HSn.out hown' hgrow; have hc1 := hv1.cell; have hf1 := hv1.frozen)
        exact ⟨hk1.from _, hp1, hinv1⟩
      · have hxd : decide ((1000 : Int) < (x.length : Int)) = false := by simp; omega
        have HSn := Lib.hid (show longLine (pre ++ [x]) = false from by rw [hS]; simp [hx])
        clear hS hx hlp
        gi_wp2_with (gi_at_builtin; go_must (refine wpListIn_append_own _ rfl _ _ 35 rfl (w.heap.size + 3) 9 i0 (.string ⟨#[]⟩) 1 16 Tryd.underlying35 hi hz0 hz1 hz2 rfl (by decide) _ _ _ rfl ((ownsRow_setCell_below hrow (by simp) _).alloc _) ⟨W.heap.size, 0, none⟩ 1 1 [strV x] rfl rfl (cell_one_at _ _ (by simp) _ _) (by simp [strV, Value.oneCell']) (by unfold maxLen; omega) (by omega) (by simp; omega) ?_); intro v' w1 hown' hgrow _; obtain ⟨g', cap', rfl⟩ := ownsRow_succ hown'; obtain ⟨hv1, hk1, hp1, hinv1⟩ := split_round hv hrow hL hB hsz HSn.out hown' hgrow; have hc1 := hv1.cell; have hf1 := hv1.frozen)
        exact ⟨hk1.from _, hp1, hinv1⟩
    · rw [hlp] at hLc hS
      have HSn := Lib.hid (show longLine (pre ++ [x]) = true from by rw [hS]; simp)
      clear hS hlp
      gi_wp2_with (gi_at_builtin; go_must (refine wpListIn_append_own _ rfl _ _ 35 rfl (w.heap.size + 3) 9 i0 (.string ⟨#[]⟩) 1 16 Tryd.underlying35 hi hz0 hz1 hz2 rfl (by decide) _ _ _ rfl ((ownsRow_setCell_below hrow (by simp) _).alloc _) ⟨W.heap.size, 0, none⟩ 1 1 [strV x] rfl rfl (cell_one_at _ _ (by simp) _ _) (by simp [strV, Value.oneCell']) (by unfold maxLen; omega) (by omega) (by simp; omega) ?_); intro v' w1 hown' hgrow _; obtain ⟨g', cap', rfl⟩ := ownsRow_succ hown'; obtain ⟨hv1, hk1, hp1, hinv1⟩ := split_round hv hrow hL hB hsz HSn.out hown' hgrow; have hc1 := hv1.cell; have hf1 := hv1.frozen)
      exact ⟨hk1.from _, hp1, hinv1⟩
  case done =>
    rintro xs W rfl ⟨⟨v, hv, hrow⟩, hL, hB, hsz⟩ hK
    have hc := hv.cell
    have hLc := hL.cell
    have hpl : (linesOf [] l).length ≤ 65536 := by
      have h2 := linesOf_length [] l
      omega
    obtain ⟨D, hD⟩ : ∃ D, D = (((w.alloc (.cells #[.slice none 0 0] 35)).alloc (.cells #[.bool false] 4)).alloc (.cells #[.string (B l)] 9)).heap.size := ⟨_, rfl⟩
    rw [← hD] at hK ⊢
    have hDl : w.heap.size ≤ D := by rw [hD]; simp; omega
    clear hD
    have hOut : ∀ (u : Value) (k : Nat) (xs : List (List UInt8)), splitL l = (xs, k) → Strs W u xs → ∀ r : Value, r = .tuple #[u, .int .i64 k] → SplitOut l w (.returned r) (W.putObj D (.deferred none)) := by
      rintro u k xs hs hstr r rfl
      have hle : W.heap.size ≤ (W.putObj D (.deferred none)).heap.size := by simp
      unfold SplitOut
      rw [hs]
      exact ⟨u, rfl, hstr.put hK rfl, hB.grown (grownBy_putObj' W _ _) hB.size (fun k e => by cases e; omega)⟩
    obtain ⟨a, cap, rfl⟩ := row_slice hrow
    have hstr : Strs W (.slice a (linesOf [] l).length cap) (linesOf [] l) := Owns.strs hrow
    have HO := Lib.hid hOut
    have HST := Lib.hid hstr
    have hsp : splitL l = if longLine (linesOf [] l) || decide (2000 < (linesOf [] l).length) then ([], 4) else (linesOf [] l, 0) := by
      unfold splitL
      rw [if_neg (by omega), H0.out, H1.out]
      rfl
    have HSP := Lib.hid hsp
    clear hOut hstr hsp
    have hnil : Strs W (.slice none 0 0) [] := .inl ⟨rfl, none, 0, rfl, Nat.zero_le _, fun _ => rfl⟩
    have HN := Lib.hid hnil
    clear hnil
    cases hlp : longLine (linesOf [] l)
    · rw [hlp] at hLc
      by_cases hx : 2000 < (linesOf [] l).length
      · have hxd : decide ((2000 : Int) < ((linesOf [] l).length : Int)) = true := by simp; omega
        have HE := Lib.hid (show splitL l = ([], 4) from by rw [HSP.out, hlp]; simp [hx])
        clear hlp hx
        gi_wp2
        refine ⟨by simp, .inl ⟨_, _, rfl, run_takeDeferred hK, ?_⟩⟩
        refine ⟨_, results_tmp2 rfl _ _ _, ?_⟩
        exact HO.out _ 4 _ HE.out HN.out _ rfl
      · have hxd : decide ((2000 : Int) < ((linesOf [] l).length : Int)) = false := by simp; omega
        have HE := Lib.hid (show splitL l = (linesOf [] l, 0) from by rw [HSP.out, hlp]; simp [hx])
        clear hlp hx
        gi_wp2
        refine ⟨by simp, .inl ⟨_, _, rfl, run_takeDeferred hK, ?_⟩⟩
        refine ⟨_, results_tmp2 rfl _ _ _, ?_⟩
        exact HO.out _ 0 _ HE.out HST.out _ rfl
    · rw [hlp] at hLc
      have HE := Lib.hid (show splitL l = ([], 4) from by rw [HSP.out, hlp]; simp)
      clear hlp
      gi_wp2
      refine ⟨by simp, .inl ⟨_, _, rfl, run_takeDeferred hK, ?_⟩⟩
      refine ⟨_, results_tmp2 rfl _ _ _, ?_⟩
      exact HO.out _ 4 _ HE.out HN.out _ rfl
  case stop =>
    rintro c pre W _ h _
    exact h.elim
end Go.Proofs.YtbdekdhdkdjejaaDoor
namespace Go.Proofs.YtbdekdhdkdjejaaDoor
open Go.RowKit Go.Shelf
attribute [local go_sem] Oper.semAt_some

set_option maxRecDepth 100000 in
set_option maxHeartbeats 2000000 in
theorem split_empty (l : List UInt8) (w : World) (h : l.length ≤ 65536) (h0 : hasNul l = false) (h1 : badEnd l = false) (he : l.isEmpty = true) : Calls Tryd.prog 26 #[.string (B l)] w (SplitOut l w) := by
  obtain ⟨i0, hi, hz0, hz1, hz2⟩ := info_parts Tryd.info9
  have HK := Lib.hid (nulAt_neg h0)
  have H0 := Lib.hid h0
  have H1 := Lib.hid h1
  clear h0 h1
  have hlen : decide ((65536 : Int) < (l.length : Int)) = false := by simp; omega
  refine (callsIn_wide (n := 10)).1 ?_
  refine callsIn_of_wp_marks Tryd.func26 rfl trivial ?_ rfl
  simp only [Tryd.ntmps26, List.size_toArray, List.length_cons, List.length_nil, Nat.reduceAdd, Nat.reduceSub, Array.replicate_succ, Array.replicate_zero, List.push_toArray, List.append_toArray, List.nil_append, List.cons_append]
  gi_wp2_with (first | (refine ⟨trivial, ?_⟩; gi_at_call 48; refine (callsIn_wide.2 (index_nul _ _)).mono ?_; rintro e w' ⟨rfl, rfl⟩; rw [HK.out]) | (refine ⟨trivial, ?_⟩; gi_at_call 50; refine (each_box _ _ _).mono ?_; rintro e w' ⟨rfl, rfl⟩))
  refine ⟨trivial, ?_⟩
  gi_wp2_with (first | (refine ⟨trivial, ?_⟩; gi_at_call 48; refine (callsIn_wide.2 (index_nul _ _)).mono ?_; rintro e w' ⟨rfl, rfl⟩; rw [HK.out]) | (refine ⟨trivial, ?_⟩; gi_at_call 50; refine (each_box _ _ _).mono ?_; rintro e w' ⟨rfl, rfl⟩))
  have bO := Boxed.new w 35 (.slice none 0 0)
  have bL := Boxed.new (w.alloc (.cells #[.slice none 0 0] 35)) 4 (.bool false)
  have bS := Boxed.new ((w.alloc (.cells #[.slice none 0 0] 35)).alloc (.cells #[.bool false] 4)) 9 (.string (B l))
  simp only [World.size_alloc] at bL bS
  have hB0 : Below w.heap.size w (((w.alloc (.cells #[.slice none 0 0] 35)).alloc (.cells #[.bool false] 4)).alloc (.cells #[.string (B l)] 9)) := (((Below.refl _ w).alloc (Nat.le_refl _) _).alloc (by simp) _).alloc (by simp; omega) _
  refine iter_law rfl (by omega) (gf := 69) (lb := #[.pointer (some ⟨w.heap.size + 1 + 1, 0, none⟩)]) rfl trivial (enters_of Tryd.func69 (by kernel_rfl) rfl)
    (each1_iter _ (w.heap.size + 1 + 1) l _ (by unfold maxLen; omega) bS) (by rintro k rfl; simp) (fun h k => Eq.trans k h) ?hkb (fun _ => rfl)
    (SplitInv w) (fun _ _ _ => False) (splitInv_own w _ (by simp)) (fun _ _ _ _ _ hs _ _ => hs) (splitInv_outlives w) (fun _ _ _ _ _ hs _ _ => hs)
    ⟨⟨_, (bO.alloc _).alloc _, World.ownsRow_nil _ _ _ _⟩, bL.alloc _, hB0, by simp⟩
    (fun x => { tmps := #[Value.string (B l), undef, Value.slice none 0 0, Value.int IntKind.i64 0,
          Value.pointer (some { block := w.heap.size, off := 0 }),
          Value.pointer (some { block := w.heap.size + 1, off := 0 }), Value.string (B x), Value.string (B l),
          Value.int IntKind.i64 ↑l.length, Value.bool false, Value.string (B l), Value.int IntKind.i64 (-1),
          Value.bool false, Value.bool false, Value.string (B l), Value.bool false, Value.bool false, undef,
          undef, undef, Value.bool false, Value.bool false, Value.string (B l),
          Value.func (Fn.func 69) #[] #[Value.pointer (some { block := w.heap.size + 1 + 1, off := 0 })], Value.string (B x), undef,
          undef, undef, undef, undef, undef, undef, undef, undef, undef, undef, undef, undef, undef, undef, undef,
          undef], defers := [] }) ?assign ?body ?done ?stop
  case hkb =>
    intro V r r' hk
    exact World.putObj_heap_other (by simp)
  case assign =>
    intro l0 x W K hK
    dsimp only [strEnc]
    gi_wp2
    exact hK
  case body =>
    rintro l0 pre x W ⟨⟨v, hv, hrow⟩, hL, hB, hsz⟩ hpart
    have hpl : pre.length + 1 ≤ 65536 := by
      have h1 := hpart.length_le
      have h2 := linesOf_length [] l
      simp at h1
      omega
    have hc := hv.cell
    have hLc := hL.cell
    have hLf := hL.frozen
    have hS := longLine_snoc pre x
    have hbig : (65536 : Nat) * 16 ≤ 140737488355328 := by decide
    clear hpart
    cases hlp : longLine pre
    · rw [hlp] at hLc hS
      by_cases hx : 1000 < x.length
      · have hxd : decide ((1000 : Int) < (x.length : Int)) = true := by simp; omega
        have HSn := Lib.hid (show longLine (pre ++ [x]) = true from by rw [hS]; simp [hx])
        clear hS hx hlp
        gi_wp2_with (gi_at_builtin; go_must (refine wpListIn_append_own _ rfl _ _ 35 rfl (w.heap.size + 3) 9 i0 (.string ⟨#[]⟩) 1 16 Tryd.underlying35 hi hz0 hz1 hz2 rfl (by decide) _ _ _ rfl ((ownsRow_setCell_below hrow (by simp) _).alloc _) ⟨W.heap.size, 0, none⟩ 1 1 [strV x] rfl rfl (cell_one_at _ _ (by simp) _ _) (by simp [strV, Value.oneCell']) (by unfold maxLen; omega) (by omega) (by simp; omega) ?_); intro v' w1 hown' hgrow _; obtain ⟨g', cap', rfl⟩ := ownsRow_succ hown'; obtain ⟨hv1, hk1, hp1, hinv1⟩ := split_round hv hrow hL hB hsz HSn.out hown' hgrow; have hc1 := hv1.cell; have hf1 := hv1.frozen)
        exact ⟨hk1.from _, hp1, hinv1⟩
      · have hxd : decide ((1000 : Int) < (x.length : Int)) = false := by simp; omega
        have HSn := Lib.hid (show longLine (pre ++ [x]) = false from by rw [hS]; simp [hx])
        clear hS hx hlp
        gi_wp2_with (gi_at_builtin; go_must (refine wpListIn_append_own _ rfl _ _ 35 rfl (w.heap.size + 3) 9 i0 (.string ⟨#[]⟩) 1 16 Tryd.underlying35 hi hz0 hz1 hz2 rfl (by decide) _ _ _ rfl ((ownsRow_setCell_below hrow (by simp) _).alloc _) ⟨W.heap.size, 0, none⟩ 1 1 [strV x] rfl rfl (cell_one_at _ _ (by simp) _ _) (by simp [strV, Value.oneCell']) (by unfold maxLen; omega) (by omega) (by simp; omega) ?_); intro v' w1 hown' hgrow _; obtain ⟨g', cap', rfl⟩ := ownsRow_succ hown'; obtain ⟨hv1, hk1, hp1, hinv1⟩ := split_round hv hrow hL hB hsz HSn.out hown' hgrow; have hc1 := hv1.cell; have hf1 := hv1.frozen)
        exact ⟨hk1.from _, hp1, hinv1⟩
    · rw [hlp] at hLc hS
      have HSn := Lib.hid (show longLine (pre ++ [x]) = true from by rw [hS]; simp)
      clear hS hlp
      gi_wp2_with (gi_at_builtin; go_must (refine wpListIn_append_own _ rfl _ _ 35 rfl (w.heap.size + 3) 9 i0 (.string ⟨#[]⟩) 1 16 Tryd.underlying35 hi hz0 hz1 hz2 rfl (by decide) _ _ _ rfl ((ownsRow_setCell_below hrow (by simp) _).alloc _) ⟨W.heap.size, 0, none⟩ 1 1 [strV x] rfl rfl (cell_one_at _ _ (by simp) _ _) (by simp [strV, Value.oneCell']) (by unfold maxLen; omega) (by omega) (by simp; omega) ?_); intro v' w1 hown' hgrow _; obtain ⟨g', cap', rfl⟩ := ownsRow_succ hown'; obtain ⟨hv1, hk1, hp1, hinv1⟩ := split_round hv hrow hL hB hsz HSn.out hown' hgrow; have hc1 := hv1.cell; have hf1 := hv1.frozen)
      exact ⟨hk1.from _, hp1, hinv1⟩
  case done =>
    rintro xs W rfl ⟨⟨v, hv, hrow⟩, hL, hB, hsz⟩ hK
    have hc := hv.cell
    have hLc := hL.cell
    have hpl : (linesOf [] l).length ≤ 65536 := by
      have h2 := linesOf_length [] l
      omega
    obtain ⟨D, hD⟩ : ∃ D, D = (((w.alloc (.cells #[.slice none 0 0] 35)).alloc (.cells #[.bool false] 4)).alloc (.cells #[.string (B l)] 9)).heap.size := ⟨_, rfl⟩
    rw [← hD] at hK ⊢
    have hDl : w.heap.size ≤ D := by rw [hD]; simp; omega
    clear hD
    have hOut : ∀ (u : Value) (k : Nat) (xs : List (List UInt8)), splitL l = (xs, k) → Strs W u xs → ∀ r : Value, r = .tuple #[u, .int .i64 k] → SplitOut l w (.returned r) (W.putObj D (.deferred none)) := by
      rintro u k xs hs hstr r rfl
      have hle : W.heap.size ≤ (W.putObj D (.deferred none)).heap.size := by simp
      unfold SplitOut
      rw [hs]
      exact ⟨u, rfl, hstr.put hK rfl, hB.grown (grownBy_putObj' W _ _) hB.size (fun k e => by cases e; omega)⟩
    obtain ⟨a, cap, rfl⟩ := row_slice hrow
    have hstr : Strs W (.slice a (linesOf [] l).length cap) (linesOf [] l) := Owns.strs hrow
    have HO := Lib.hid hOut
    have HST := Lib.hid hstr
    have hsp : splitL l = if longLine (linesOf [] l) || decide (2000 < (linesOf [] l).length) then ([], 4) else (linesOf [] l, 0) := by
      unfold splitL
      rw [if_neg (by omega), H0.out, H1.out]
      rfl
    have HSP := Lib.hid hsp
    clear hOut hstr hsp
    have hnil : Strs W (.slice none 0 0) [] := .inl ⟨rfl, none, 0, rfl, Nat.zero_le _, fun _ => rfl⟩
    have HN := Lib.hid hnil
    clear hnil
    cases hlp : longLine (linesOf [] l)
    · rw [hlp] at hLc
      by_cases hx : 2000 < (linesOf [] l).length
      · have hxd : decide ((2000 : Int) < ((linesOf [] l).length : Int)) = true := by simp; omega
        have HE := Lib.hid (show splitL l = ([], 4) from by rw [HSP.out, hlp]; simp [hx])
        clear hlp hx
        gi_wp2
        refine ⟨by simp, .inl ⟨_, _, rfl, run_takeDeferred hK, ?_⟩⟩
        refine ⟨_, results_tmp2 rfl _ _ _, ?_⟩
        exact HO.out _ 4 _ HE.out HN.out _ rfl
      · have hxd : decide ((2000 : Int) < ((linesOf [] l).length : Int)) = false := by simp; omega
        have HE := Lib.hid (show splitL l = (linesOf [] l, 0) from by rw [HSP.out, hlp]; simp [hx])
        clear hlp hx
        gi_wp2
        refine ⟨by simp, .inl ⟨_, _, rfl, run_takeDeferred hK, ?_⟩⟩
        refine ⟨_, results_tmp2 rfl _ _ _, ?_⟩
        exact HO.out _ 0 _ HE.out HST.out _ rfl
    · rw [hlp] at hLc
      have HE := Lib.hid (show splitL l = ([], 4) from by rw [HSP.out, hlp]; simp)
      clear hlp
      gi_wp2
      refine ⟨by simp, .inl ⟨_, _, rfl, run_takeDeferred hK, ?_⟩⟩
      refine ⟨_, results_tmp2 rfl _ _ _, ?_⟩
      exact HO.out _ 4 _ HE.out HN.out _ rfl
  case stop =>
    rintro c pre W _ h _
    exact h.elim
/-- lines.Split. -/
theorem split_any (l : List UInt8) (w : World) : Calls Tryd.prog 26 #[.string (B l)] w (SplitOut l w) := by
  by_cases h : 65536 < l.length
  · exact split_great l w h
  · cases h0 : hasNul l
    · cases h1 : badEnd l
      · cases he : l.isEmpty
        · exact split_main l w (by omega) h0 h1 he
        · exact split_empty l w (by omega) h0 h1 he
      · exact split_end l w (by omega) h0 h1
    · exact split_nul l w (by omega) h0
end Go.Proofs.YtbdekdhdkdjejaaDoor
