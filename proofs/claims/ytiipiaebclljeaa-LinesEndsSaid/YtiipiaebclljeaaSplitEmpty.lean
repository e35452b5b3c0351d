import Derived.Test.YtiipiaebclljeaaSplitMain
namespace Go.Proofs.Ytiipiaebclljeaa
open Go.RowKit Go.Shelf
attribute [local go_sem] Oper.semAt_some

set_option maxRecDepth 100000 in
set_option maxHeartbeats 2000000 in
theorem split_empty (l : List UInt8) (w : World) (h : l.length ≤ 65536) (h0 : hasNul l = false) (h1 : badEnd l = false) (he : l.isEmpty = true) : Calls Try.prog 19 #[.string (B l)] w (SplitOut l w) := by
  obtain ⟨i0, hi, hz0, hz1, hz2⟩ := info_parts Try.info9
  have HK := Lib.hid (nulAt_neg h0)
  have H0 := Lib.hid h0
  have H1 := Lib.hid h1
  clear h0 h1
  have hlen : decide ((65536 : Int) < (l.length : Int)) = false := by simp; omega
  refine (callsIn_wide (n := 10)).1 ?_
  refine callsIn_of_wp_marks Try.func19 rfl trivial ?_ rfl
  simp only [Try.ntmps19, List.size_toArray, List.length_cons, List.length_nil, Nat.reduceAdd, Nat.reduceSub, Array.replicate_succ, Array.replicate_zero, List.push_toArray, List.append_toArray, List.nil_append, List.cons_append]
  gi_wp2_with (first | (refine ⟨trivial, ?_⟩; gi_at_call 31; refine (callsIn_wide.2 (index_nul _ _)).mono ?_; rintro e w' ⟨rfl, rfl⟩; rw [HK.out]) | (refine ⟨trivial, ?_⟩; gi_at_call 33; refine (each_box _ _ _).mono ?_; rintro e w' ⟨rfl, rfl⟩))
  refine ⟨trivial, ?_⟩
  gi_wp2_with (first | (refine ⟨trivial, ?_⟩; gi_at_call 31; refine (callsIn_wide.2 (index_nul _ _)).mono ?_; rintro e w' ⟨rfl, rfl⟩; rw [HK.out]) | (refine ⟨trivial, ?_⟩; gi_at_call 33; refine (each_box _ _ _).mono ?_; rintro e w' ⟨rfl, rfl⟩))
  have bO := Boxed.new w 22 (.slice none 0 0)
  have bL := Boxed.new (w.alloc (.cells #[.slice none 0 0] 22)) 4 (.bool false)
  have bS := Boxed.new ((w.alloc (.cells #[.slice none 0 0] 22)).alloc (.cells #[.bool false] 4)) 9 (.string (B l))
  simp only [World.size_alloc] at bL bS
  have hB0 : Below w.heap.size w (((w.alloc (.cells #[.slice none 0 0] 22)).alloc (.cells #[.bool false] 4)).alloc (.cells #[.string (B l)] 9)) := (((Below.refl _ w).alloc (Nat.le_refl _) _).alloc (by simp) _).alloc (by simp; omega) _
  refine iter_law rfl (by omega) (gf := 41) (lb := #[.pointer (some ⟨w.heap.size + 1 + 1, 0, none⟩)]) rfl trivial (enters_of Try.func41 (by kernel_rfl) rfl)
    (each1_iter _ (w.heap.size + 1 + 1) l _ (by unfold maxLen; omega) bS) (by rintro k rfl; simp) (fun h k => Eq.trans k h) ?hkb (fun _ => rfl)
    (SplitInv w) (fun _ _ _ => False) (splitInv_own w _ (by simp)) (fun _ _ _ _ _ hs _ _ => hs) (splitInv_outlives w) (fun _ _ _ _ _ hs _ _ => hs)
    ⟨⟨_, (bO.alloc _).alloc _, World.ownsRow_nil _ _ _ _⟩, bL.alloc _, hB0, by simp⟩
    (fun x => { tmps := #[Value.string (B l), undef, Value.slice none 0 0, Value.int IntKind.i64 0,
          Value.pointer (some { block := w.heap.size, off := 0 }),
          Value.pointer (some { block := w.heap.size + 1, off := 0 }), Value.string (B x), Value.string (B l),
          Value.int IntKind.i64 ↑l.length, Value.bool false, Value.string (B l), Value.int IntKind.i64 (-1),
          Value.bool false, Value.bool false, Value.string (B l), Value.bool false, Value.bool false, undef,
          undef, undef, Value.bool false, Value.bool false, Value.string (B l),
          Value.func (Fn.func 41) #[] #[Value.pointer (some { block := w.heap.size + 1 + 1, off := 0 })], Value.string (B x), undef,
          undef, undef, undef, undef, undef, undef, undef, undef, undef, undef, undef, undef, undef, undef, undef,
          undef], defers := [] }) ?assign ?body ?done ?stop
  case hkb =>
    intro V r r' hk
    exact World.putObj_heap_other (by simp)
  case assign =>
    intro l0 x W K hK
    dsimp only [strEnc]
    gi_wp2
    exact hK
  case body =>
    rintro l0 pre x W ⟨⟨v, hv, hrow⟩, hL, hB, hsz⟩ hpart
    have hpl : pre.length + 1 ≤ 65536 := by
      have h1 := hpart.length_le
      have h2 := linesOf_length [] l
      simp at h1
      omega
    have hc := hv.cell
    have hLc := hL.cell
    have hLf := hL.frozen
    have hS := longLine_snoc pre x
    have hbig : (65536 : Nat) * 16 ≤ 140737488355328 := by decide
    clear hpart
    cases hlp : longLine pre
    · rw [hlp] at hLc hS
      by_cases hx : 1000 < x.length
      · have hxd : decide ((1000 : Int) < (x.length : Int)) = true := by simp; omega
        have HSn := Lib.hid (show longLine (pre ++ [x]) = true from by rw [hS]; simp [hx])
        clear hS hx hlp
        gi_wp2_with (gi_at_builtin; go_must (refine wpListIn_append_own _ rfl _ _ 22 rfl (w.heap.size + 3) 9 i0 (.string ⟨#[]⟩) 1 16 Try.underlying22 hi hz0 hz1 hz2 rfl (by decide) _ _ _ rfl ((ownsRow_setCell_below hrow (by simp) _).alloc _) ⟨W.heap.size, 0, none⟩ 1 1 [strV x] rfl rfl (cell_one_at _ _ (by simp) _ _) (by simp [strV, Value.oneCell']) (by unfold maxLen; omega) (by omega) (by simp; omega) ?_); intro v' w1 hown' hgrow _; obtain ⟨g', cap', rfl⟩ := ownsRow_succ hown'; obtain ⟨hv1, hk1, hp1, hinv1⟩ := split_round hv hrow hL hB hsz HSn.out hown' hgrow; have hc1 := hv1.cell; have hf1 := hv1.frozen)
        exact ⟨hk1.from _, hp1, hinv1⟩
      · have hxd : decide ((1000 : Int) < (x.length : Int)) = false := by simp; omega
        have HSn := Lib.hid (show longLine (pre ++ [x]) = false from by rw [hS]; simp [hx])
        clear hS hx hlp
        gi_wp2_with (gi_at_builtin; go_must (refine wpListIn_append_own _ rfl _ _ 22 rfl (w.heap.size + 3) 9 i0 (.string ⟨#[]⟩) 1 16 Try.underlying22 hi hz0 hz1 hz2 rfl (by decide) _ _ _ rfl ((ownsRow_setCell_below hrow (by simp) _).alloc _) ⟨W.heap.size, 0, none⟩ 1 1 [strV x] rfl rfl (cell_one_at _ _ (by simp) _ _) (by simp [strV, Value.oneCell']) (by unfold maxLen; omega) (by omega) (by simp; omega) ?_); intro v' w1 hown' hgrow _; obtain ⟨g', cap', rfl⟩ := ownsRow_succ hown'; obtain ⟨hv1, hk1, hp1, hinv1⟩ := split_round hv hrow hL hB hsz HSn.out hown' hgrow; have hc1 := hv1.cell; have hf1 := hv1.frozen)
        exact ⟨hk1.from _, hp1, hinv1⟩
    · rw [hlp] at hLc hS
      have HSn := Lib.hid (show longLine (pre ++ [x]) = true from by rw [hS]; simp)
      clear hS hlp
      gi_wp2_with (gi_at_builtin; go_must (refine wpListIn_append_own _ rfl _ _ 22 rfl (w.heap.size + 3) 9 i0 (.string ⟨#[]⟩) 1 16 Try.underlying22 hi hz0 hz1 hz2 rfl (by decide) _ _ _ rfl ((ownsRow_setCell_below hrow (by simp) _).alloc _) ⟨W.heap.size, 0, none⟩ 1 1 [strV x] rfl rfl (cell_one_at _ _ (by simp) _ _) (by simp [strV, Value.oneCell']) (by unfold maxLen; omega) (by omega) (by simp; omega) ?_); intro v' w1 hown' hgrow _; obtain ⟨g', cap', rfl⟩ := ownsRow_succ hown'; obtain ⟨hv1, hk1, hp1, hinv1⟩ := split_round hv hrow hL hB hsz HSn.out hown' hgrow; have hc1 := hv1.cell; have hf1 := hv1.frozen)
      exact ⟨hk1.from _, hp1, hinv1⟩
  case done =>
    rintro xs W rfl ⟨⟨v, hv, hrow⟩, hL, hB, hsz⟩ hK
    have hc := hv.cell
    have hLc := hL.cell
    have hpl : (linesOf [] l).length ≤ 65536 := by
      have h2 := linesOf_length [] l
      omega
    obtain ⟨D, hD⟩ : ∃ D, D = (((w.alloc (.cells #[.slice none 0 0] 22)).alloc (.cells #[.bool false] 4)).alloc (.cells #[.string (B l)] 9)).heap.size := ⟨_, rfl⟩
    rw [← hD] at hK ⊢
    have hDl : w.heap.size ≤ D := by rw [hD]; simp; omega
    clear hD
    have hOut : ∀ (u : Value) (k : Nat) (xs : List (List UInt8)), splitL l = (xs, k) → Strs W u xs → ∀ r : Value, r = .tuple #[u, .int .i64 k] → SplitOut l w (.returned r) (W.putObj D (.deferred none)) := by
      rintro u k xs hs hstr r rfl
      have hle : W.heap.size ≤ (W.putObj D (.deferred none)).heap.size := by simp
      unfold SplitOut
      rw [hs]
      exact ⟨u, rfl, hstr.put hK rfl, hB.grown (grownBy_putObj' W _ _) hB.size (fun k e => by cases e; omega)⟩
    obtain ⟨a, cap, rfl⟩ := row_slice hrow
    have hstr : Strs W (.slice a (linesOf [] l).length cap) (linesOf [] l) := Owns.strs hrow
    have HO := Lib.hid hOut
    have HST := Lib.hid hstr
    have hsp : splitL l = if longLine (linesOf [] l) || decide (2000 < (linesOf [] l).length) then ([], 4) else (linesOf [] l, 0) := by
      unfold splitL
      rw [if_neg (by omega), H0.out, H1.out]
      rfl
    have HSP := Lib.hid hsp
    clear hOut hstr hsp
    have hnil : Strs W (.slice none 0 0) [] := .inl ⟨rfl, none, 0, rfl, Nat.zero_le _, fun _ => rfl⟩
    have HN := Lib.hid hnil
    clear hnil
    cases hlp : longLine (linesOf [] l)
    · rw [hlp] at hLc
      by_cases hx : 2000 < (linesOf [] l).length
      · have hxd : decide ((2000 : Int) < ((linesOf [] l).length : Int)) = true := by simp; omega
        have HE := Lib.hid (show splitL l = ([], 4) from by rw [HSP.out, hlp]; simp [hx])
        clear hlp hx
        gi_wp2
        refine ⟨by simp, .inl ⟨_, _, rfl, run_takeDeferred hK, ?_⟩⟩
        refine ⟨_, results_tmp2 rfl _ _ _, ?_⟩
        exact HO.out _ 4 _ HE.out HN.out _ rfl
      · have hxd : decide ((2000 : Int) < ((linesOf [] l).length : Int)) = false := by simp; omega
        have HE := Lib.hid (show splitL l = (linesOf [] l, 0) from by rw [HSP.out, hlp]; simp [hx])
        clear hlp hx
        gi_wp2
        refine ⟨by simp, .inl ⟨_, _, rfl, run_takeDeferred hK, ?_⟩⟩
        refine ⟨_, results_tmp2 rfl _ _ _, ?_⟩
        exact HO.out _ 0 _ HE.out HST.out _ rfl
    · rw [hlp] at hLc
      have HE := Lib.hid (show splitL l = ([], 4) from by rw [HSP.out, hlp]; simp)
      clear hlp
      gi_wp2
      refine ⟨by simp, .inl ⟨_, _, rfl, run_takeDeferred hK, ?_⟩⟩
      refine ⟨_, results_tmp2 rfl _ _ _, ?_⟩
      exact HO.out _ 4 _ HE.out HN.out _ rfl
  case stop =>
    rintro c pre W _ h _
    exact h.elim
/-- lines.Split. -/
theorem split_any (l : List UInt8) (w : World) : Calls Try.prog 19 #[.string (B l)] w (SplitOut l w) := by
  by_cases h : 65536 < l.length
  · exact split_great l w h
  · cases h0 : hasNul l
    · cases h1 : badEnd l
      · cases he : l.isEmpty
        · exact split_main l w (by omega) h0 h1 he
        · exact split_empty l w (by omega) h0 h1 he
      · exact split_end l w (by omega) h0 h1
    · exact split_nul l w (by omega) h0
end Go.Proofs.Ytiipiaebclljeaa
