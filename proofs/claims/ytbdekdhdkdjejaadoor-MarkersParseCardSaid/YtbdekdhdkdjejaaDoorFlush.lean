/- The walk of flush. -/
import Derived.Test.YtbdekdhdkdjejaaDoorParser
namespace Go.Proofs.YtbdekdhdkdjejaaDoor
open Go.RowKit

set_option maxRecDepth 100000 in
set_option maxHeartbeats 1000000 in
theorem flush_some (base pb : Nat) (s : PS) (w : World) (φ : Nat → Prop) (vo vl vs vd : Value) (us : List (Bool × Value × Value)) (ss : List Value) (h : PState base pb s w φ vo vl vs vd us ss) (hne : s.lines.isEmpty = false)
    (hn : s.out.length ≤ 100000) : Calls Tryd.prog 43 #[.pointer (some ⟨pb, 0, none⟩)] w fun e w' => (∃ x, e = .returned x) ∧ PInvN base pb (flushS s) w' ∧ FB base pb w w' := by
  obtain ⟨i0, hi, hz0, hz1, hz2⟩ := info_parts Tryd.info41
  have hpos := len_pos hne
  obtain ⟨al, cl, rfl⟩ := h.lines.strs.slice
  have n0 := cell_of_row w pb 0 _ _ _ h.row
  have n1 := cell_of_row w pb 1 _ _ _ h.row
  simp at n0 n1
  have hlt : pb < w.heap.size := Nat.lt_of_lt_of_le h.lt h.le
  have f0 := frozen_of_row w pb 0 _ _ h.row
  have f1 := frozen_of_row w pb 1 _ _ h.row
  go_enter Tryd.func43, Tryd.ntmps43
  have HO := Lib.hid (show ((w.alloc (.cells #[.bool false, .slice al s.lines.length cl, .slice none 0 0] 41)).drew).ownsRow base 41 3 vo us.length (regVals us) from World.ownsRow.alloc h.out _)
  have HN := Lib.hid (show ∀ j u, [Value.bool false, .slice al s.lines.length cl, .slice none 0 0][j]? = some u → ((w.alloc (.cells #[.bool false, .slice al s.lines.length cl, .slice none 0 0] 41)).drew).cell? ((⟨w.heap.size, 0, none⟩ : Addr).add j) = some u from
    World.news_of_block (w := (w.alloc (.cells #[.bool false, .slice al s.lines.length cl, .slice none 0 0] 41)).drew) (heap_alloc_new w _))
  have HB := Lib.hid (show us.length + 1 ≤ maxLen ∧ (us.length + 1) * 56 ≤ 140737488355328 ∧ base ≤ w.heap.size + 1 from by
    have h1 := h.ulen
    have h2 := h.le
    unfold maxLen
    omega)
  have H := Lib.hid h
  clear h
  go_wp2_with fail
  go_region_law (refine step_append_lies ((w.alloc (.cells #[.bool false, .slice al s.lines.length cl, .slice none 0 0] 41)).drew) rfl (.tmp 12) (.tmp 18) 22 rfl base 41 i0 (.agg #[.bool false, .slice none 0 0, .slice none 0 0]) 3 56 Tryd.underlying22 hi hz0 hz1 hz2 rfl (by decide) vo us.length (regVals us) (by simp [Act.eval]) HO.out ⟨w.heap.size, 0, none⟩ 1 1 [.bool false, .slice al s.lines.length cl, .slice none 0 0] (by simp [Act.eval]) rfl HN.out (by simp [Value.oneCell']) (by omega) HB.out.1 HB.out.2.1 (by simp; exact HB.out.2.2) (w.heap.size + 1) (by simp) ?_; intro g cap w1 hown1 hgrow1 hat1 hlt1; (have hrow1 := (hgrow1.block pb (by simp; omega) (fun e => Nat.lt_irrefl _ (Nat.lt_of_lt_of_le H.out.lt (World.ownsRow.lt H.out.out pb e.symm).1))).trans ((heap_alloc_old w (.cells #[.bool false, .slice al s.lines.length cl, .slice none 0 0] 41) hlt).trans H.out.row)); (have g0 := frozen_of_row w1 pb 0 _ _ hrow1); (have g1 := frozen_of_row w1 pb 1 _ _ hrow1); (have c0 := cell_of_row w1 pb 0 _ _ _ hrow1); (have c1 := cell_of_row w1 pb 1 _ _ _ hrow1); (simp at c0 c1))
  all_goals go_wp2_with fail
  all_goals go_end0
  all_goals
    have hp1 : ∀ k, k ≠ pb → ((w1.setCell ⟨pb, 0, none⟩ (.slice (some ⟨g, 0, none⟩) (us.length + 1) cap)).setCell ⟨pb, 1, none⟩ (.slice none 0 0)).heap[k]? = w1.heap[k]? := fun k hk => (heap_setCell_ne _ _ _ _ hk).trans (heap_setCell_ne _ _ _ _ hk)
    have b1 : Below pb w1 ((w1.setCell ⟨pb, 0, none⟩ (.slice (some ⟨g, 0, none⟩) (us.length + 1) cap)).setCell ⟨pb, 1, none⟩ (.slice none 0 0)) := ((Below.refl pb w1).setCell (p := ⟨pb, 0, none⟩) (Nat.le_refl _) _).setCell (p := ⟨pb, 1, none⟩) (Nat.le_refl _) _
    have b0 : Below base w w1 := (((Below.refl base w).alloc H.out.le (.cells #[.bool false, .slice al s.lines.length cl, .slice none 0 0] 41)).drew).grown hgrow1 (by have := H.out.le; simp; omega) (fun k e => (World.ownsRow.lt H.out.out k e).1)
    have r1 := heap_setCell_same w1 pb 0 _ _ (.slice (some ⟨g, 0, none⟩) (us.length + 1) cap) hrow1
    have r2 := heap_setCell_same _ pb 1 _ _ (.slice none 0 0) r1
    refine ⟨⟨_, rfl⟩, flush_state H.out hne hat1 (Nat.le_succ _) (Nat.le_trans b0.size b1.size) (by simpa using r2) (row_keep hown1 (fun k hk => hp1 k (by have := (row_block hown1 hk).1; have := H.out.lt; omega))) (fun k hk hkp hko => (hp1 k hkp).trans ((hgrow1.block k (by simp; omega) (fun e => hko e.symm)).trans (heap_alloc_old w (.cells #[.bool false, .slice al s.lines.length cl, .slice none 0 0] 41) hk))), ?_⟩
    exact ⟨b1.os.trans b0.os, b1.tape.trans b0.tape, b1.output.trans b0.output, Nat.le_trans b0.size b1.size, fun k hk hkp => (hp1 k hkp).trans (b0.block k hk), others_grown H.out.row (fun k e => row_cells H.out.out e) hgrow1 hp1⟩

set_option maxRecDepth 100000 in
set_option maxHeartbeats 1000000 in
theorem flush_none (base pb : Nat) (s : PS) (w : World) (φ : Nat → Prop) (vo vl vs vd : Value) (us : List (Bool × Value × Value)) (ss : List Value) (h : PState base pb s w φ vo vl vs vd us ss) (hne : s.lines.isEmpty = true) :
    Calls Tryd.prog 43 #[.pointer (some ⟨pb, 0, none⟩)] w fun e w' => (∃ x, e = .returned x) ∧ PInvN base pb (flushS s) w' ∧ FB base pb w w' := by
  have hz := len_zero hne
  obtain ⟨al, cl, rfl⟩ := h.lines.strs.slice
  have hrow := h.row
  rw [hz] at hrow
  have n1 := cell_of_row w pb 1 _ _ _ hrow
  simp at n1
  have f1 := frozen_of_row w pb 1 _ _ hrow
  have H := Lib.hid h
  have HR := Lib.hid hrow
  have HZ := Lib.hid hne
  clear h hrow hz hne
  go_enter Tryd.func43, Tryd.ntmps43
  go_wp2_with fail
  go_end0
  have r2 := heap_setCell_same w pb 1 _ _ (.slice none 0 0) HR.out
  have hp1 : ∀ k, k ≠ pb → (w.setCell ⟨pb, 1, none⟩ (.slice none 0 0)).heap[k]? = w.heap[k]? := fun k hk => heap_setCell_ne _ _ _ _ hk
  have b1 : Below pb w (w.setCell ⟨pb, 1, none⟩ (.slice none 0 0)) := (Below.refl pb w).setCell (p := ⟨pb, 1, none⟩) (Nat.le_refl _) _
  have hb : ∀ k, base ≤ k → k ≠ pb := fun k hk e => by have := H.out.lt; omega
  have K : Keeps φ w (w.setCell ⟨pb, 1, none⟩ (.slice none 0 0)) := ⟨b1.size, fun k _ hφ => hp1 k (fun e => H.out.apart.pb (e ▸ hφ))⟩
  have e : flushS s = s := by unfold flushS; rw [HZ.out]; rfl
  have e2 : s.lines = [] := List.isEmpty_iff.1 HZ.out
  rw [e]
  refine ⟨⟨_, rfl⟩, ⟨φ, vo, vs, vd, us, ss, ?_⟩, ⟨b1.os, b1.tape, b1.output, b1.size, fun k _ hkp => hp1 k hkp, others_set H.out.row hp1⟩⟩
  exact {
    lt := H.out.lt
    le := Nat.le_trans H.out.le b1.size
    row := by simpa using r2
    out := row_keep H.out.out (fun k hk => hp1 k (hb k (row_block H.out.out hk).1))
    ulen := H.out.ulen
    regs := fun i hi hj => ⟨(H.out.regs i hi hj).1, (H.out.regs i hi hj).2.1.keeps K, (H.out.regs i hi hj).2.2.keeps K⟩
    lines := by rw [e2]; exact Owns.nil _ _
    sides := row_keep H.out.sides (fun k hk => hp1 k (hb k (row_block H.out.sides hk).1))
    slen := H.out.slen
    strs := fun i hi hj => (H.out.strs i hi hj).keeps K
    side := row_keep H.out.side (fun k hk => hp1 k (hb k (row_block H.out.side hk).1))
    apart := ⟨fun b hb' => cells_kept K hb' (H.out.apart.cells b hb'), H.out.apart.gt, H.out.apart.out, fun b _ e => (by cases e), H.out.apart.sides, H.out.apart.side⟩
    nil1 := fun _ => rfl
    nil2 := H.out.nil2 }

/-- (*parser).flush. -/
theorem flush_any (base pb : Nat) (s : PS) (w : World) (h : PInv base pb s w) (hn : s.out.length ≤ 100000) :
    Calls Tryd.prog 43 #[.pointer (some ⟨pb, 0, none⟩)] w fun e w' => (∃ x, e = .returned x) ∧ PInvN base pb (flushS s) w' ∧ FB base pb w w' := by
  obtain ⟨φ, vo, vl, vs, vd, us, ss, h⟩ := h
  cases e : s.lines.isEmpty
  · exact flush_some base pb s w φ vo vl vs vd us ss h e hn
  · exact flush_none base pb s w φ vo vl vs vd us ss h e
end Go.Proofs.YtbdekdhdkdjejaaDoor
