/- (*parser).inside at a closing marker: the state's law. (*parser).inside at a closing marker: the walk. -/
import Derived.Test.YtbdekdhdkdjejaaDoorInside
namespace Go.Proofs.YtbdekdhdkdjejaaDoor
open Go.RowKit

def closeS (s : PS) : PS := { out := s.out ++ [⟨true, [], s.sides⟩], lines := [], sides := [], side := [], ins := false }

theorem addr_add (g i : Nat) : (⟨g, 0, none⟩ : Addr).add i = ⟨g, 0 + i, none⟩ := by
  unfold Addr.add; split <;> simp_all
theorem strss_of_row {w : World} {base : Nat} {v : Value} {ss : List Value} {xss : List (List (List UInt8))} {φ : Nat → Prop} (h : w.ownsRow base 35 1 v ss.length ss) (hl : ss.length = xss.length)
    (hs : ∀ i (hi : i < ss.length) (hj : i < xss.length), StrsIn φ w ss[i] xss[i]) : Strss (fun b => φ b ∨ v.ownBlock = some b) w v xss := by
  obtain ⟨h1, h2⟩ := id h
  rcases h2 with ⟨rfl, h2⟩ | ⟨g, cap, cur, rfl, hb, hg, hc, hm, hs1, ht⟩
  · obtain rfl : xss = [] := List.eq_nil_of_length_eq_zero (by omega)
    exact ⟨none, 0, rfl, Nat.le_refl _, Nat.zero_le _, fun b hb => (by cases hb), fun _ => rfl, fun i hi => absurd hi (Nat.not_lt_zero _)⟩
  · refine ⟨some ⟨g, 0, none⟩, cap, by rw [hl], by omega, hm, fun b hb => .inr hb, fun e => (by cases e), fun i hi => ?_⟩
    have hi' : i < ss.length := by omega
    refine ⟨g, 0, ss[i], rfl, (Array.getElem?_eq_some_iff.1 hg).1, ?_, (hs i hi' hi).mono (fun b hb => .inl hb)⟩
    have := World.ownsRow.cells h (g := g) rfl i ss[i] (List.getElem?_eq_getElem hi')
    rw [addr_add] at this
    exact this

/-- A region with a conflict is put behind the regions. -/
theorem close_state {base pb : Nat} {s : PS} {w w2 : World} {φ : Nat → Prop} {vo vl vs vd : Value} {us : List (Bool × Value × Value)} {ss : List Value} (h : PState base pb s w φ vo vl vs vd us ss)
    {g cap H : Nat} (hat : vo.ownBlock = some g ∨ g = H) (hH : w.heap.size ≤ H) (hsz : w.heap.size ≤ w2.heap.size)
    (hrow : w2.heap[pb]? = some (.cells #[.slice (some ⟨g, 0, none⟩) (us.length + 1) cap, .slice none 0 0, .slice none 0 0, .slice none 0 0, stateV pb false] 51))
    (hown : w2.ownsRow base 41 3 (.slice (some ⟨g, 0, none⟩) (us.length + 1) cap) (us.length + 1) (regVals us ++ [.bool true, .slice none 0 0, vs]))
    (hkeep : ∀ k, k < w.heap.size → k ≠ pb → vo.ownBlock ≠ some k → w2.heap[k]? = w.heap[k]?) : PInv base pb (closeS s) w2 := by
  have hne_pb : ∀ k, base ≤ k → k ≠ pb := fun k hk e => by have := h.lt; omega
  have kl : ∀ k, vs.ownBlock = some k → w2.heap[k]? = w.heap[k]? := fun k hk => hkeep k (row_block h.sides hk).2.1 (hne_pb k (row_block h.sides hk).1) (rows_apart h.sides h.out (by decide) hk)
  have K : Keeps (fun b => φ b ∨ vs.ownBlock = some b) w w2 := ⟨hsz, fun k hk hφ => by
    rcases hφ with hφ | hφ
    · exact hkeep k hk (fun e => h.apart.pb (e ▸ hφ)) (h.apart.out k hφ)
    · exact kl k hφ⟩
  refine ⟨fun b => φ b ∨ vs.ownBlock = some b, .slice (some ⟨g, 0, none⟩) (us.length + 1) cap, .slice none 0 0, .slice none 0 0, .slice none 0 0, us ++ [(true, .slice none 0 0, vs)], [], ?_⟩
  refine { lt := h.lt, le := Nat.le_trans h.le hsz, row := hrow, out := ?_, ulen := ?_, regs := ?_, lines := Owns.nil _ _, sides := World.ownsRow_nil _ _ _ _, slen := rfl, strs := fun i hi => absurd hi (Nat.not_lt_zero _), side := Owns.nil _ _, apart := ?_, nil1 := fun _ => rfl, nil2 := fun _ => ⟨rfl, rfl⟩ }
  · rw [List.length_append]
    have e2 : regVals (us ++ [(true, .slice none 0 0, vs)]) = regVals us ++ [.bool true, .slice none 0 0, vs] := by unfold regVals; rw [List.flatMap_append]; rfl
    rw [e2]
    exact hown
  · show (us ++ [_]).length = (s.out ++ [_]).length
    rw [List.length_append, List.length_append, h.ulen]; rfl
  · intro i hi hj
    have hj2 : i < (s.out ++ [(⟨true, [], s.sides⟩ : Reg)]).length := hj
    show _ = ((s.out ++ [(⟨true, [], s.sides⟩ : Reg)])[i]'hj2).conf ∧ StrsIn _ w2 _ ((s.out ++ [(⟨true, [], s.sides⟩ : Reg)])[i]'hj2).lines ∧ Strss _ w2 _ ((s.out ++ [(⟨true, [], s.sides⟩ : Reg)])[i]'hj2).sides
    rw [List.length_append, List.length_singleton] at hi hj2
    rw [List.getElem_append, List.getElem_append]
    by_cases hlt : i < us.length
    · have hlt2 : i < s.out.length := by have := h.ulen; omega
      rw [dif_pos hlt, dif_pos hlt2]
      obtain ⟨h1, h2, h3⟩ := h.regs i hlt hlt2
      exact ⟨h1, (h2.mono (fun b hb => .inl hb)).keeps K, (h3.mono (fun b hb => .inl hb)).keeps K⟩
    · have hlt2 : ¬ i < s.out.length := by have := h.ulen; omega
      rw [dif_neg hlt, dif_neg hlt2, List.getElem_singleton, List.getElem_singleton]
      exact ⟨rfl, ⟨.inl ⟨rfl, none, 0, rfl, Nat.zero_le _, fun _ => rfl⟩, At.none _ _ _⟩, (strss_of_row h.sides h.slen h.strs).keeps K⟩
  · refine ⟨fun b hb => ?_, fun b hb => ?_, fun b hb => ?_, fun b _ e => (by cases e), fun b _ e => (by cases e), fun b _ e => (by cases e)⟩
    · refine cells_kept K hb ?_
      rcases hb with hb | hb
      · exact h.apart.cells b hb
      · exact row_cells h.sides hb
    · rcases hb with hb | hb
      · exact h.apart.gt b hb
      · have := (row_block h.sides hb).1; have := h.lt; omega
    · intro e3
      obtain rfl : g = b := by simpa [Value.ownBlock] using e3
      have hb1 : g < w.heap.size ∧ vo.ownBlock ≠ some g := by
        rcases hb with hb | hb
        · exact ⟨h.apart.old _ hb, h.apart.out _ hb⟩
        · exact ⟨(row_block h.sides hb).2.1, rows_apart h.sides h.out (by decide) hb⟩
      rcases hat with hat | hat
      · exact hb1.2 hat
      · omega
end Go.Proofs.YtbdekdhdkdjejaaDoor
namespace Go.Proofs.YtbdekdhdkdjejaaDoor
open Go.RowKit

set_option maxRecDepth 100000 in
set_option maxHeartbeats 2000000 in
theorem inside_close (base pb : Nat) (s : PS) (w : World) (φ : Nat → Prop) (vo vl vs vd : Value) (us : List (Bool × Value × Value)) (ss : List Value) (h : PState base pb s w φ vo vl vs vd us ss) (hi : s.ins = true)
    (he : s.side.isEmpty = false) (hn : s.sides.length ≤ 100000) (hno : s.out.length ≤ 100000) :
    Calls Tryd.prog 63 #[.pointer (some ⟨pb, 0, none⟩), .string (B clM)] w fun e w' => e = .returned (.bool true) ∧ PInv base pb (closeS (sepS s)) w' ∧ FB base pb w w' := by
  obtain ⟨i0, hi0, hz0, hz1, hz2⟩ := info_parts Tryd.info35
  obtain ⟨j0, hj0, hy0, hy1, hy2⟩ := info_parts Tryd.info41
  obtain ⟨ad, cd, rfl⟩ := h.side.strs.slice
  have hpos := len_pos he
  have n2 := cell_of_row w pb 2 _ _ _ h.row
  have n3 := cell_of_row w pb 3 _ _ _ h.row
  simp at n2 n3
  have hlt : pb < w.heap.size := Nat.lt_of_lt_of_le h.lt h.le
  have hne : pb ≠ w.heap.size := by omega
  have HO := Lib.hid (show ((w.alloc (.cells #[.slice ad s.side.length cd] 35)).drew).ownsRow base 35 1 vs ss.length ss from World.ownsRow.alloc h.sides _)
  have HN := Lib.hid (show ∀ j u, [Value.slice ad s.side.length cd][j]? = some u → ((w.alloc (.cells #[.slice ad s.side.length cd] 35)).drew).cell? ((⟨w.heap.size, 0, none⟩ : Addr).add j) = some u from
    World.news_of_block (w := (w.alloc (.cells #[.slice ad s.side.length cd] 35)).drew) (heap_alloc_new w _))
  have HB := Lib.hid (show ss.length + 1 ≤ maxLen ∧ (ss.length + 1) * 24 ≤ 140737488355328 ∧ base ≤ w.heap.size + 1 ∧ us.length + 1 ≤ maxLen ∧ (us.length + 1) * 56 ≤ 140737488355328 from by
    have h2 := h.le
    have h3 := h.slen
    have h4 := h.ulen
    unfold maxLen
    omega)
  have H := Lib.hid h
  have HE := Lib.hid he
  clear h he hn hno
  unfold clM
  go_enter Tryd.func63, Tryd.ntmps63
  go_wp2_with fail
  go_region_law (refine step_append_lies ((w.alloc (.cells #[.slice ad s.side.length cd] 35)).drew) rfl (.tmp 32) (.tmp 37) 39 rfl base 35 i0 (.slice none 0 0) 1 24 Tryd.underlying39 hi0 hz0 hz1 hz2 rfl (by decide) vs ss.length ss (by simp [Act.eval]) HO.out ⟨w.heap.size, 0, none⟩ 1 1 [.slice ad s.side.length cd] (by simp [Act.eval]) rfl HN.out (by simp [Value.oneCell']) (by omega) HB.out.1 HB.out.2.1 (by simp; exact HB.out.2.2.1) (w.heap.size + 1) (by simp) ?_; intro g cap w1 hown1 hgrow1 hat1 hlt1; (have hrow1 := (hgrow1.block pb (by simp; omega) (fun e => Nat.lt_irrefl _ (Nat.lt_of_lt_of_le H.out.lt (World.ownsRow.lt H.out.sides pb e.symm).1))).trans ((heap_alloc_old w (.cells #[.slice ad s.side.length cd] 35) hlt).trans H.out.row)); (have g2 := frozen_of_row w1 pb 2 _ _ hrow1); (have g3 := frozen_of_row w1 pb 3 _ _ hrow1); (have c2 := cell_of_row w1 pb 2 _ _ _ hrow1); (have c3 := cell_of_row w1 pb 3 _ _ _ hrow1); (simp at c2 c3))
  all_goals go_wp2_with fail
  all_goals
    have hp1 : ∀ k, k ≠ pb → ((w1.setCell ⟨pb, 2, none⟩ (.slice (some ⟨g, 0, none⟩) (ss.length + 1) cap)).setCell ⟨pb, 3, none⟩ (.slice none 0 0)).heap[k]? = w1.heap[k]? := fun k hk => (heap_setCell_ne _ _ _ _ hk).trans (heap_setCell_ne _ _ _ _ hk)
    have b1 : Below pb w1 ((w1.setCell ⟨pb, 2, none⟩ (.slice (some ⟨g, 0, none⟩) (ss.length + 1) cap)).setCell ⟨pb, 3, none⟩ (.slice none 0 0)) := ((Below.refl pb w1).setCell (p := ⟨pb, 2, none⟩) (Nat.le_refl _) _).setCell (p := ⟨pb, 3, none⟩) (Nat.le_refl _) _
    have b0 : Below base w w1 := (((Below.refl base w).alloc H.out.le (.cells #[.slice ad s.side.length cd] 35)).drew).grown hgrow1 (by have := H.out.le; simp; omega) (fun k e => (World.ownsRow.lt H.out.sides k e).1)
    have r1 := heap_setCell_same w1 pb 2 _ _ (.slice (some ⟨g, 0, none⟩) (ss.length + 1) cap) hrow1
    have r2 := heap_setCell_same _ pb 3 _ _ (.slice none 0 0) r1
    have HP := sep_pstate H.out hi hat1 (Nat.le_succ _) (Nat.le_trans b0.size b1.size) (by simpa using r2) (row_keep hown1 (fun k hk => hp1 k (by have := (row_block hown1 hk).1; have := H.out.lt; omega))) (fun k hk hkp hko => (hp1 k hkp).trans ((hgrow1.block k (by simp; omega) (fun e => hko e.symm)).trans (heap_alloc_old w (.cells #[.slice ad s.side.length cd] 35) hk)))
    have HF : FB base pb w ((w1.setCell ⟨pb, 2, none⟩ (.slice (some ⟨g, 0, none⟩) (ss.length + 1) cap)).setCell ⟨pb, 3, none⟩ (.slice none 0 0)) :=
      ⟨b1.os.trans b0.os, b1.tape.trans b0.tape, b1.output.trans b0.output, Nat.le_trans b0.size b1.size, fun k hk hkp => (hp1 k hkp).trans (b0.block k hk), others_grown H.out.row (fun k e => row_cells H.out.sides e) hgrow1 hp1⟩
    clear hp1 b1 b0 r1 r2
    generalize ((w1.setCell ⟨pb, 2, none⟩ (.slice (some ⟨g, 0, none⟩) (ss.length + 1) cap)).setCell ⟨pb, 3, none⟩ (.slice none 0 0)) = W2 at HP HF ⊢
    obtain ⟨φ', P2⟩ := HP
    have hlt2 : pb < W2.heap.size := Nat.lt_of_lt_of_le P2.lt P2.le
    have m0 := cell_of_row W2 pb 0 _ _ _ P2.row
    have m2 := cell_of_row W2 pb 2 _ _ _ P2.row
    simp at m0 m2
    have hne2 : pb ≠ W2.heap.size := by omega
    have HO2 := Lib.hid (show ((W2.alloc (.cells #[.bool true, .slice none 0 0, .slice (some ⟨g, 0, none⟩) (ss.length + 1) cap] 41)).drew).ownsRow base 41 3 vo us.length (regVals us) from World.ownsRow.alloc P2.out _)
    have HN2 := Lib.hid (show ∀ j u, [Value.bool true, .slice none 0 0, .slice (some ⟨g, 0, none⟩) (ss.length + 1) cap][j]? = some u → ((W2.alloc (.cells #[.bool true, .slice none 0 0, .slice (some ⟨g, 0, none⟩) (ss.length + 1) cap] 41)).drew).cell? ((⟨W2.heap.size, 0, none⟩ : Addr).add j) = some u from
      World.news_of_block (w := (W2.alloc (.cells #[.bool true, .slice none 0 0, .slice (some ⟨g, 0, none⟩) (ss.length + 1) cap] 41)).drew) (heap_alloc_new W2 _))
    have HB2 := Lib.hid (show base ≤ W2.heap.size + 1 from by have := P2.le; omega)
    have H2 := Lib.hid P2
    have HF2 := Lib.hid HF
    clear P2 HF hgrow1 hrow1 hown1 hat1 hlt1 g2 g3 c2 c3 n2 n3
    go_region_law (refine step_append_lies ((W2.alloc (.cells #[.bool true, .slice none 0 0, .slice (some ⟨g, 0, none⟩) (ss.length + 1) cap] 41)).drew) rfl (.tmp 50) (.tmp 56) 22 rfl base 41 j0 (.agg #[.bool false, .slice none 0 0, .slice none 0 0]) 3 56 Tryd.underlying22 hj0 hy0 hy1 hy2 rfl (by decide) vo us.length (regVals us) (by simp [Act.eval]) HO2.out ⟨W2.heap.size, 0, none⟩ 1 1 [.bool true, .slice none 0 0, .slice (some ⟨g, 0, none⟩) (ss.length + 1) cap] (by simp [Act.eval]) rfl HN2.out (by simp [Value.oneCell']) (by omega) HB.out.2.2.2.1 HB.out.2.2.2.2 (by simp; exact HB2.out) (W2.heap.size + 1) (by simp) ?_; intro g' cap' w3 hown3 hgrow3 hat3 hlt3; (have hrow3 := (hgrow3.block pb (by simp; omega) (fun e => Nat.lt_irrefl _ (Nat.lt_of_lt_of_le H.out.lt (World.ownsRow.lt H2.out.out pb e.symm).1))).trans ((heap_alloc_old W2 (.cells #[.bool true, .slice none 0 0, .slice (some ⟨g, 0, none⟩) (ss.length + 1) cap] 41) hlt2).trans H2.out.row)); (have q0 := frozen_of_row w3 pb 0 _ _ hrow3); (have q2 := frozen_of_row w3 pb 2 _ _ hrow3); (have q4 := frozen_of_row w3 pb 4 _ _ hrow3); (have c0 := cell_of_row w3 pb 0 _ _ _ hrow3); (have c2 := cell_of_row w3 pb 2 _ _ _ hrow3); (have c4 := cell_of_row w3 pb 4 _ _ _ hrow3); (simp at c0 c2 c4))
  all_goals go_wp2_with fail
  all_goals go_ret
  all_goals
    have hp3 : ∀ k, k ≠ pb → (((w3.setCell ⟨pb, 0, none⟩ (.slice (some ⟨g', 0, none⟩) (us.length + 1) cap')).setCell ⟨pb, 2, none⟩ (.slice none 0 0)).setCell ⟨pb, 4, none⟩ (.func (.func 41) #[.pointer (some ⟨pb, 0, none⟩)] #[])).heap[k]? = w3.heap[k]? := fun k hk => (heap_setCell_ne _ _ _ _ hk).trans ((heap_setCell_ne _ _ _ _ hk).trans (heap_setCell_ne _ _ _ _ hk))
    have b3 : Below pb w3 (((w3.setCell ⟨pb, 0, none⟩ (.slice (some ⟨g', 0, none⟩) (us.length + 1) cap')).setCell ⟨pb, 2, none⟩ (.slice none 0 0)).setCell ⟨pb, 4, none⟩ (.func (.func 41) #[.pointer (some ⟨pb, 0, none⟩)] #[])) := (((Below.refl pb w3).setCell (p := ⟨pb, 0, none⟩) (Nat.le_refl _) _).setCell (p := ⟨pb, 2, none⟩) (Nat.le_refl _) _).setCell (p := ⟨pb, 4, none⟩) (Nat.le_refl _) _
    have b2 : Below base W2 w3 := (((Below.refl base W2).alloc H2.out.le (.cells #[.bool true, .slice none 0 0, .slice (some ⟨g, 0, none⟩) (ss.length + 1) cap] 41)).drew).grown hgrow3 (by have := H2.out.le; simp; omega) (fun k e => (World.ownsRow.lt H2.out.out k e).1)
    have r0 := heap_setCell_same w3 pb 0 _ _ (.slice (some ⟨g', 0, none⟩) (us.length + 1) cap') hrow3
    have r2 := heap_setCell_same _ pb 2 _ _ (.slice none 0 0) r0
    have r4 := heap_setCell_same _ pb 4 _ _ (.func (.func 41) #[.pointer (some ⟨pb, 0, none⟩)] #[]) r2
    refine ⟨rfl, close_state H2.out hat3 (Nat.le_succ _) (Nat.le_trans b2.size b3.size) (by simpa [stateV] using r4) (row_keep hown3 (fun k hk => hp3 k (by have := (row_block hown3 hk).1; have := H.out.lt; omega))) (fun k hk hkp hko => (hp3 k hkp).trans ((hgrow3.block k (by simp; omega) (fun e => hko e.symm)).trans (heap_alloc_old W2 (.cells #[.bool true, .slice none 0 0, .slice (some ⟨g, 0, none⟩) (ss.length + 1) cap] 41) hk))), HF2.out.trans ?_⟩
    exact ⟨b3.os.trans b2.os, b3.tape.trans b2.tape, b3.output.trans b2.output, Nat.le_trans b2.size b3.size, fun k hk hkp => (hp3 k hkp).trans (b2.block k hk), others_grown H2.out.row (fun k e => row_cells H2.out.out e) hgrow3 hp3⟩
end Go.Proofs.YtbdekdhdkdjejaaDoor
