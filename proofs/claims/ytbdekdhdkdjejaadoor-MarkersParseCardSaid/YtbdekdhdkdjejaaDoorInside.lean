/- (*parser).inside at markers. (*parser).inside at a separator. (*parser).inside at a separator: the walk. -/
import Derived.Test.YtbdekdhdkdjejaaDoorOutLine
namespace Go.Proofs.YtbdekdhdkdjejaaDoor
open Go.RowKit

set_option maxRecDepth 100000 in
set_option maxHeartbeats 1000000 in
theorem inside_open (pb : Nat) (w : World) : Calls Tryd.prog 63 #[.pointer (some ⟨pb, 0, none⟩), .string (B opM)] w fun e w' => e = .returned (.bool false) ∧ w = w' := by
  unfold opM
  go_enter Tryd.func63, Tryd.ntmps63
  go_wp2
  go_ret
  exact ⟨rfl, rfl⟩

set_option maxRecDepth 100000 in
set_option maxHeartbeats 1000000 in
theorem inside_empty (base pb : Nat) (s : PS) (x : List UInt8) (w : World) (h : PInv base pb s w) (hx : x = seM ∨ x = clM) (he : s.side.isEmpty = true) :
    Calls Tryd.prog 63 #[.pointer (some ⟨pb, 0, none⟩), .string (B x)] w fun e w' => e = .returned (.bool false) ∧ w = w' := by
  obtain ⟨φ, vo, vl, vs, vd, us, ss, h⟩ := h
  obtain ⟨al, cl, rfl⟩ := h.side.strs.slice
  have hrow := h.row
  rw [len_zero he] at hrow
  have n1 := cell_of_row w pb 3 _ _ _ hrow
  simp at n1
  clear h he hrow
  rcases hx with rfl | rfl <;> (first | unfold seM | unfold clM) <;>
  (go_enter Tryd.func63, Tryd.ntmps63
   go_wp2
   go_ret
   exact ⟨rfl, rfl⟩)
end Go.Proofs.YtbdekdhdkdjejaaDoor
namespace Go.Proofs.YtbdekdhdkdjejaaDoor
open Go.RowKit

theorem Tryd.info35 : (Tryd.prog.info? 35).map (fun i => (i.zero, i.size, i.bytes)) = some (some (.slice none 0 0), 1, 24) := by kernel_rfl
def sepS (s : PS) : PS := { s with sides := s.sides ++ [s.side], side := [] }

/-- A side is put behind the sides; the side is empty again. -/
theorem sep_pstate {base pb : Nat} {s : PS} {w w2 : World} {φ : Nat → Prop} {vo vl vs vd : Value} {us : List (Bool × Value × Value)} {ss : List Value} (h : PState base pb s w φ vo vl vs vd us ss) (hi : s.ins = true)
    {g cap H : Nat} (hat : vs.ownBlock = some g ∨ g = H) (hH : w.heap.size ≤ H) (hsz : w.heap.size ≤ w2.heap.size)
    (hrow : w2.heap[pb]? = some (.cells #[vo, vl, .slice (some ⟨g, 0, none⟩) (ss.length + 1) cap, .slice none 0 0, stateV pb s.ins] 51))
    (hown : w2.ownsRow base 35 1 (.slice (some ⟨g, 0, none⟩) (ss.length + 1) cap) (ss.length + 1) (ss ++ [vd]))
    (hkeep : ∀ k, k < w.heap.size → k ≠ pb → vs.ownBlock ≠ some k → w2.heap[k]? = w.heap[k]?) :
    ∃ φ', PState base pb (sepS s) w2 φ' vo (.slice none 0 0) (.slice (some ⟨g, 0, none⟩) (ss.length + 1) cap) (.slice none 0 0) us (ss ++ [vd]) := by
  obtain rfl := h.nil1 hi
  have hne_pb : ∀ k, base ≤ k → k ≠ pb := fun k hk e => by have := h.lt; omega
  have kd : ∀ k, vd.ownBlock = some k → w2.heap[k]? = w.heap[k]? := fun k hk => hkeep k (row_block h.side hk).2.1 (hne_pb k (row_block h.side hk).1) (rows_apart h.side h.sides (by decide) hk)
  have K : Keeps (fun b => φ b ∨ vd.ownBlock = some b) w w2 := ⟨hsz, fun k hk hφ => by
    rcases hφ with hφ | hφ
    · exact hkeep k hk (fun e => h.apart.pb (e ▸ hφ)) (h.apart.sides k hφ)
    · exact kd k hφ⟩
  refine ⟨fun b => φ b ∨ vd.ownBlock = some b, ?_⟩
  refine { lt := h.lt, le := Nat.le_trans h.le hsz, row := hrow, out := ?_, ulen := h.ulen, regs := ?_, lines := row_keep h.lines (fun k hk => by cases hk), sides := ?_, slen := ?_, strs := ?_, side := Owns.nil _ _, apart := ?_, nil1 := fun _ => rfl, nil2 := fun e => ?_ }
  · exact row_keep h.out (fun k hk => hkeep k (row_block h.out hk).2.1 (hne_pb k (row_block h.out hk).1) (rows_apart h.out h.sides (by decide) hk))
  · exact fun i hi hj => ⟨(h.regs i hi hj).1, ((h.regs i hi hj).2.1.mono (fun b hb => .inl hb)).keeps K, ((h.regs i hi hj).2.2.mono (fun b hb => .inl hb)).keeps K⟩
  · rw [List.length_append]; exact hown
  · show (ss ++ [vd]).length = (s.sides ++ [s.side]).length
    rw [List.length_append, List.length_append, h.slen]; rfl
  · intro i hi hj
    have hj2 : i < (s.sides ++ [s.side]).length := hj
    show StrsIn _ w2 (ss ++ [vd])[i] ((s.sides ++ [s.side])[i]'hj2)
    have hi' : i < ss.length + 1 := by simpa using hi
    rw [List.getElem_append, List.getElem_append]
    by_cases hlt : i < ss.length
    · have hlt2 : i < s.sides.length := by have := h.slen; omega
      rw [dif_pos hlt, dif_pos hlt2]
      exact ((h.strs i hlt hlt2).mono (fun b hb => .inl hb)).keeps K
    · have hlt2 : ¬ i < s.sides.length := by have := h.slen; omega
      rw [dif_neg hlt, dif_neg hlt2, List.getElem_singleton, List.getElem_singleton]
      exact ⟨Owns.strs (base := base) (row_keep h.side kd), fun b hb => .inr hb⟩
  · refine ⟨fun b hb => ?_, fun b hb => ?_, fun b hb => ?_, fun b _ e => (by cases e), fun b hb e3 => ?_, fun b _ e => (by cases e)⟩
    · refine cells_kept K hb ?_
      rcases hb with hb | hb
      · exact h.apart.cells b hb
      · exact row_cells h.side hb
    · rcases hb with hb | hb
      · exact h.apart.gt b hb
      · have := (row_block h.side hb).1; have := h.lt; omega
    · rcases hb with hb | hb
      · exact h.apart.out _ hb
      · exact rows_apart h.side h.out (by decide) hb
    · obtain rfl : g = b := by simpa [Value.ownBlock] using e3
      have hb1 : g < w.heap.size ∧ vs.ownBlock ≠ some g := by
        rcases hb with hb | hb
        · exact ⟨h.apart.old _ hb, h.apart.sides _ hb⟩
        · exact ⟨(row_block h.side hb).2.1, rows_apart h.side h.sides (by decide) hb⟩
      rcases hat with hat | hat
      · exact hb1.2 hat
      · omega
  · rw [show (sepS s).ins = s.ins from rfl, hi] at e; cases e
theorem sep_state {base pb : Nat} {s : PS} {w w2 : World} {φ : Nat → Prop} {vo vl vs vd : Value} {us : List (Bool × Value × Value)} {ss : List Value} (h : PState base pb s w φ vo vl vs vd us ss) (hi : s.ins = true)
    {g cap H : Nat} (hat : vs.ownBlock = some g ∨ g = H) (hH : w.heap.size ≤ H) (hsz : w.heap.size ≤ w2.heap.size)
    (hrow : w2.heap[pb]? = some (.cells #[vo, vl, .slice (some ⟨g, 0, none⟩) (ss.length + 1) cap, .slice none 0 0, stateV pb s.ins] 51))
    (hown : w2.ownsRow base 35 1 (.slice (some ⟨g, 0, none⟩) (ss.length + 1) cap) (ss.length + 1) (ss ++ [vd]))
    (hkeep : ∀ k, k < w.heap.size → k ≠ pb → vs.ownBlock ≠ some k → w2.heap[k]? = w.heap[k]?) : PInv base pb (sepS s) w2 := by
  obtain ⟨φ', h⟩ := sep_pstate h hi hat hH hsz hrow hown hkeep
  exact ⟨φ', _, _, _, _, _, _, h⟩
end Go.Proofs.YtbdekdhdkdjejaaDoor
namespace Go.Proofs.YtbdekdhdkdjejaaDoor
open Go.RowKit

set_option maxRecDepth 100000 in
set_option maxHeartbeats 1000000 in
theorem inside_sep (base pb : Nat) (s : PS) (w : World) (φ : Nat → Prop) (vo vl vs vd : Value) (us : List (Bool × Value × Value)) (ss : List Value) (h : PState base pb s w φ vo vl vs vd us ss) (hi : s.ins = true)
    (he : s.side.isEmpty = false) (hn : s.sides.length ≤ 100000) :
    Calls Tryd.prog 63 #[.pointer (some ⟨pb, 0, none⟩), .string (B seM)] w fun e w' => e = .returned (.bool true) ∧ PInv base pb (sepS s) w' ∧ FB base pb w w' := by
  obtain ⟨i0, hi0, hz0, hz1, hz2⟩ := info_parts Tryd.info35
  obtain ⟨ad, cd, rfl⟩ := h.side.strs.slice
  have hpos := len_pos he
  have n2 := cell_of_row w pb 2 _ _ _ h.row
  have n3 := cell_of_row w pb 3 _ _ _ h.row
  simp at n2 n3
  have hlt : pb < w.heap.size := Nat.lt_of_lt_of_le h.lt h.le
  have hne : pb ≠ w.heap.size := by omega
  have HO := Lib.hid (show ((w.alloc (.cells #[.slice ad s.side.length cd] 35)).drew).ownsRow base 35 1 vs ss.length ss from World.ownsRow.alloc h.sides _)
  have HN := Lib.hid (show ∀ j u, [Value.slice ad s.side.length cd][j]? = some u → ((w.alloc (.cells #[.slice ad s.side.length cd] 35)).drew).cell? ((⟨w.heap.size, 0, none⟩ : Addr).add j) = some u from
    World.news_of_block (w := (w.alloc (.cells #[.slice ad s.side.length cd] 35)).drew) (heap_alloc_new w _))
  have HB := Lib.hid (show ss.length + 1 ≤ maxLen ∧ (ss.length + 1) * 24 ≤ 140737488355328 ∧ base ≤ w.heap.size + 1 from by
    have h2 := h.le
    have h3 := h.slen
    unfold maxLen
    omega)
  have H := Lib.hid h
  clear h he hn
  unfold seM
  go_enter Tryd.func63, Tryd.ntmps63
  go_wp2_with fail
  go_region_law (refine step_append_lies ((w.alloc (.cells #[.slice ad s.side.length cd] 35)).drew) rfl (.tmp 32) (.tmp 37) 39 rfl base 35 i0 (.slice none 0 0) 1 24 Tryd.underlying39 hi0 hz0 hz1 hz2 rfl (by decide) vs ss.length ss (by simp [Act.eval]) HO.out ⟨w.heap.size, 0, none⟩ 1 1 [.slice ad s.side.length cd] (by simp [Act.eval]) rfl HN.out (by simp [Value.oneCell']) (by omega) HB.out.1 HB.out.2.1 (by simp; exact HB.out.2.2) (w.heap.size + 1) (by simp) ?_; intro g cap w1 hown1 hgrow1 hat1 hlt1; (have hrow1 := (hgrow1.block pb (by simp; omega) (fun e => Nat.lt_irrefl _ (Nat.lt_of_lt_of_le H.out.lt (World.ownsRow.lt H.out.sides pb e.symm).1))).trans ((heap_alloc_old w (.cells #[.slice ad s.side.length cd] 35) hlt).trans H.out.row)); (have g2 := frozen_of_row w1 pb 2 _ _ hrow1); (have g3 := frozen_of_row w1 pb 3 _ _ hrow1); (have c2 := cell_of_row w1 pb 2 _ _ _ hrow1); (have c3 := cell_of_row w1 pb 3 _ _ _ hrow1); (simp at c2 c3))
  all_goals go_wp2_with fail
  all_goals go_ret
  all_goals
    have hp1 : ∀ k, k ≠ pb → ((w1.setCell ⟨pb, 2, none⟩ (.slice (some ⟨g, 0, none⟩) (ss.length + 1) cap)).setCell ⟨pb, 3, none⟩ (.slice none 0 0)).heap[k]? = w1.heap[k]? := fun k hk => (heap_setCell_ne _ _ _ _ hk).trans (heap_setCell_ne _ _ _ _ hk)
    have b1 : Below pb w1 ((w1.setCell ⟨pb, 2, none⟩ (.slice (some ⟨g, 0, none⟩) (ss.length + 1) cap)).setCell ⟨pb, 3, none⟩ (.slice none 0 0)) := ((Below.refl pb w1).setCell (p := ⟨pb, 2, none⟩) (Nat.le_refl _) _).setCell (p := ⟨pb, 3, none⟩) (Nat.le_refl _) _
    have b0 : Below base w w1 := (((Below.refl base w).alloc H.out.le (.cells #[.slice ad s.side.length cd] 35)).drew).grown hgrow1 (by have := H.out.le; simp; omega) (fun k e => (World.ownsRow.lt H.out.sides k e).1)
    have r1 := heap_setCell_same w1 pb 2 _ _ (.slice (some ⟨g, 0, none⟩) (ss.length + 1) cap) hrow1
    have r2 := heap_setCell_same _ pb 3 _ _ (.slice none 0 0) r1
    refine ⟨rfl, sep_state H.out hi hat1 (Nat.le_succ _) (Nat.le_trans b0.size b1.size) (by simpa using r2) (row_keep hown1 (fun k hk => hp1 k (by have := (row_block hown1 hk).1; have := H.out.lt; omega))) (fun k hk hkp hko => (hp1 k hkp).trans ((hgrow1.block k (by simp; omega) (fun e => hko e.symm)).trans (heap_alloc_old w (.cells #[.slice ad s.side.length cd] 35) hk))), ?_⟩
    exact ⟨b1.os.trans b0.os, b1.tape.trans b0.tape, b1.output.trans b0.output, Nat.le_trans b0.size b1.size, fun k hk hkp => (hp1 k hkp).trans (b0.block k hk), others_grown H.out.row (fun k e => row_cells H.out.sides e) hgrow1 hp1⟩
end Go.Proofs.YtbdekdhdkdjejaaDoor
