/- (*parser).outside at a line that is no marker. (*parser).inside at a line that is no marker. -/
import Derived.Test.YtbdekdhdkdjejaaDoorOutside
namespace Go.Proofs.YtbdekdhdkdjejaaDoor
open Go.RowKit

/-- A line is put behind the lines. -/
theorem line_state {base pb : Nat} {s : PS} {x : List UInt8} {w w2 : World} {φ : Nat → Prop} {vo vl vs vd : Value} {us : List (Bool × Value × Value)} {ss : List Value} (h : PState base pb s w φ vo vl vs vd us ss) (hi : s.ins = false)
    {g cap H : Nat} (hat : vl.ownBlock = some g ∨ g = H) (hH : w.heap.size ≤ H) (hsz : w.heap.size ≤ w2.heap.size)
    (hrow : w2.heap[pb]? = some (.cells #[vo, .slice (some ⟨g, 0, none⟩) (s.lines.length + 1) cap, vs, vd, stateV pb s.ins] 51))
    (hown : w2.ownsRow base 9 1 (.slice (some ⟨g, 0, none⟩) (s.lines.length + 1) cap) (s.lines.length + 1) (s.lines.map strV ++ [strV (unquoteL x)]))
    (hkeep : ∀ k, k < w.heap.size → k ≠ pb → vl.ownBlock ≠ some k → w2.heap[k]? = w.heap[k]?) : PInv base pb (lineS s x) w2 := by
  obtain ⟨rfl, rfl⟩ := h.nil2 hi
  have hne_pb : ∀ k, base ≤ k → k ≠ pb := fun k hk e => by have := h.lt; omega
  have K : Keeps φ w w2 := ⟨hsz, fun k hk hφ => hkeep k hk (fun e => h.apart.pb (e ▸ hφ)) (h.apart.lines k hφ)⟩
  refine ⟨φ, vo, .slice (some ⟨g, 0, none⟩) (s.lines.length + 1) cap, .slice none 0 0, .slice none 0 0, us, ss, ?_⟩
  exact {
    lt := h.lt
    le := Nat.le_trans h.le hsz
    row := hrow
    out := row_keep h.out (fun k hk => hkeep k (row_block h.out hk).2.1 (hne_pb k (row_block h.out hk).1) (rows_apart h.out h.lines (by decide) hk))
    ulen := h.ulen
    regs := fun i hi hj => ⟨(h.regs i hi hj).1, (h.regs i hi hj).2.1.keeps K, (h.regs i hi hj).2.2.keeps K⟩
    lines := by
      unfold Owns lineS
      rw [List.length_append, List.map_append]
      exact hown
    sides := row_keep h.sides (fun k hk => by cases hk)
    slen := h.slen
    strs := fun i hi hj => (h.strs i hi hj).keeps K
    side := row_keep h.side (fun k hk => by cases hk)
    apart := ⟨fun b hb' => cells_kept K hb' (h.apart.cells b hb'), h.apart.gt, fun b hb => h.apart.out b hb, fun b hb e => by
      obtain rfl : g = b := by simpa [Value.ownBlock] using e
      rcases hat with hat | hat
      · exact h.apart.lines _ hb hat
      · have := h.apart.old _ hb
        omega, fun b _ e => (by cases e), fun b _ e => (by cases e)⟩
    nil1 := fun e => by rw [show (lineS s x).ins = s.ins from rfl, hi] at e; cases e
    nil2 := fun _ => ⟨rfl, rfl⟩ }

set_option maxRecDepth 100000 in
set_option maxHeartbeats 1000000 in
theorem outside_line (base pb : Nat) (s : PS) (x : List UInt8) (w : World) (φ : Nat → Prop) (vo vl vs vd : Value) (us : List (Bool × Value × Value)) (ss : List Value) (h : PState base pb s w φ vo vl vs vd us ss) (hi : s.ins = false)
    (hm : isM x = false) (hl : x.length ≤ 1000000) (hn : s.lines.length ≤ 100000) :
    Calls Tryd.prog 41 #[.pointer (some ⟨pb, 0, none⟩), .string (B x)] w fun e w' => e = .returned (.bool true) ∧ PInv base pb (lineS s x) w' ∧ FB base pb w w' := by
  obtain ⟨i0, hi0, hz0, hz1, hz2⟩ := info_parts Tryd.info9
  have hm' := hm
  unfold isM opM seM clM at hm'
  simp only [Bool.or_eq_false_iff] at hm'
  obtain ⟨⟨m1, m2⟩, m3⟩ := hm'
  have n1 := cell_of_row w pb 1 _ _ _ h.row
  simp at n1
  have hlt : pb < w.heap.size := Nat.lt_of_lt_of_le h.lt h.le
  have hne : pb ≠ w.heap.size := by omega
  have HU := Lib.hid (fun w => unquote_any x w hl)
  obtain ⟨y, hy⟩ : ∃ y, y = unquoteL x := ⟨_, rfl⟩
  rw [← hy] at HU
  have HY := Lib.hid hy
  have HO := Lib.hid (show ((w.alloc (.cells #[strV y] 9)).drew).ownsRow base 9 1 vl s.lines.length (s.lines.map strV) from World.ownsRow.alloc h.lines _)
  have HN := Lib.hid (show ∀ j u, [strV y][j]? = some u → ((w.alloc (.cells #[strV y] 9)).drew).cell? ((⟨w.heap.size, 0, none⟩ : Addr).add j) = some u from
    World.news_of_block (w := (w.alloc (.cells #[strV y] 9)).drew) (heap_alloc_new w _))
  have HB := Lib.hid (show s.lines.length + 1 ≤ maxLen ∧ (s.lines.length + 1) * 16 ≤ 140737488355328 ∧ base ≤ w.heap.size + 1 from by
    have h2 := h.le
    unfold maxLen
    omega)
  have H := Lib.hid h
  clear h hy hm hl hn
  go_enter Tryd.func41, Tryd.ntmps41
  go_wp2_with fail
  go_region_law (first
    | (refine step_append_lies ((w.alloc (.cells #[strV y] 9)).drew) rfl (.tmp 10) (.tmp 13) 35 rfl base 9 i0 (.string ⟨#[]⟩) 1 16 Tryd.underlying35 hi0 hz0 hz1 hz2 rfl (by decide) vl s.lines.length (s.lines.map strV) (by simp [Act.eval]) HO.out ⟨w.heap.size, 0, none⟩ 1 1 [strV y] (by simp [Act.eval]) rfl HN.out (by simp [strV, Value.oneCell']) (by omega) HB.out.1 HB.out.2.1 (by simp; exact HB.out.2.2) (w.heap.size + 1) (by simp) ?_; intro g cap w1 hown1 hgrow1 hat1 hlt1; (have hrow1 := (hgrow1.block pb (by simp; omega) (fun e => Nat.lt_irrefl _ (Nat.lt_of_lt_of_le H.out.lt (World.ownsRow.lt H.out.lines pb e.symm).1))).trans ((heap_alloc_old w (.cells #[strV y] 9) hlt).trans H.out.row)); (have g1 := frozen_of_row w1 pb 1 _ _ hrow1); (have c1 := cell_of_row w1 pb 1 _ _ _ hrow1); (simp at c1))
    | (go_simp; go_at_call 24; refine (HU.out _).mono ?_; rintro e w' ⟨rfl, rfl⟩))
  all_goals go_wp2_with fail
  all_goals go_ret
  all_goals
    have hp1 : ∀ k, k ≠ pb → (w1.setCell ⟨pb, 1, none⟩ (.slice (some ⟨g, 0, none⟩) (s.lines.length + 1) cap)).heap[k]? = w1.heap[k]? := fun k hk => heap_setCell_ne _ _ _ _ hk
    have b1 : Below pb w1 (w1.setCell ⟨pb, 1, none⟩ (.slice (some ⟨g, 0, none⟩) (s.lines.length + 1) cap)) := (Below.refl pb w1).setCell (p := ⟨pb, 1, none⟩) (Nat.le_refl _) _
    have b0 : Below base w w1 := (((Below.refl base w).alloc H.out.le (.cells #[strV y] 9)).drew).grown hgrow1 (by have := H.out.le; simp; omega) (fun k e => (World.ownsRow.lt H.out.lines k e).1)
    have r1 := heap_setCell_same w1 pb 1 _ _ (.slice (some ⟨g, 0, none⟩) (s.lines.length + 1) cap) hrow1
    refine ⟨rfl, line_state H.out hi hat1 (Nat.le_succ _) (Nat.le_trans b0.size b1.size) (by simpa using r1) (by rw [← HY.out]; exact row_keep hown1 (fun k hk => hp1 k (by have := (row_block hown1 hk).1; have := H.out.lt; omega))) (fun k hk hkp hko => (hp1 k hkp).trans ((hgrow1.block k (by simp; omega) (fun e => hko e.symm)).trans (heap_alloc_old w (.cells #[strV y] 9) hk))), ?_⟩
    exact ⟨b1.os.trans b0.os, b1.tape.trans b0.tape, b1.output.trans b0.output, Nat.le_trans b0.size b1.size, fun k hk hkp => (hp1 k hkp).trans (b0.block k hk), others_grown H.out.row (fun k e => row_cells H.out.lines e) hgrow1 hp1⟩
end Go.Proofs.YtbdekdhdkdjejaaDoor
namespace Go.Proofs.YtbdekdhdkdjejaaDoor
open Go.RowKit

def sideS (s : PS) (x : List UInt8) : PS := { s with side := s.side ++ [unquoteL x] }

/-- A line is put behind the lines. -/
theorem side_state {base pb : Nat} {s : PS} {x : List UInt8} {w w2 : World} {φ : Nat → Prop} {vo vl vs vd : Value} {us : List (Bool × Value × Value)} {ss : List Value} (h : PState base pb s w φ vo vl vs vd us ss) (hi : s.ins = true)
    {g cap H : Nat} (hat : vd.ownBlock = some g ∨ g = H) (hH : w.heap.size ≤ H) (hsz : w.heap.size ≤ w2.heap.size)
    (hrow : w2.heap[pb]? = some (.cells #[vo, vl, vs, .slice (some ⟨g, 0, none⟩) (s.side.length + 1) cap, stateV pb s.ins] 51))
    (hown : w2.ownsRow base 9 1 (.slice (some ⟨g, 0, none⟩) (s.side.length + 1) cap) (s.side.length + 1) (s.side.map strV ++ [strV (unquoteL x)]))
    (hkeep : ∀ k, k < w.heap.size → k ≠ pb → vd.ownBlock ≠ some k → w2.heap[k]? = w.heap[k]?) : PInv base pb (sideS s x) w2 := by
  obtain rfl := h.nil1 hi
  have hne_pb : ∀ k, base ≤ k → k ≠ pb := fun k hk e => by have := h.lt; omega
  have K : Keeps φ w w2 := ⟨hsz, fun k hk hφ => hkeep k hk (fun e => h.apart.pb (e ▸ hφ)) (h.apart.side k hφ)⟩
  refine ⟨φ, vo, .slice none 0 0, vs, .slice (some ⟨g, 0, none⟩) (s.side.length + 1) cap, us, ss, ?_⟩
  exact {
    lt := h.lt
    le := Nat.le_trans h.le hsz
    row := hrow
    out := row_keep h.out (fun k hk => hkeep k (row_block h.out hk).2.1 (hne_pb k (row_block h.out hk).1) (rows_apart h.out h.side (by decide) hk))
    ulen := h.ulen
    regs := fun i hi hj => ⟨(h.regs i hi hj).1, (h.regs i hi hj).2.1.keeps K, (h.regs i hi hj).2.2.keeps K⟩
    lines := row_keep h.lines (fun k hk => by cases hk)
    sides := row_keep h.sides (fun k hk => hkeep k (row_block h.sides hk).2.1 (hne_pb k (row_block h.sides hk).1) (rows_apart h.sides h.side (by decide) hk))
    slen := h.slen
    strs := fun i hi hj => (h.strs i hi hj).keeps K
    side := by
      unfold Owns sideS
      rw [List.length_append, List.map_append]
      exact hown
    apart := ⟨fun b hb' => cells_kept K hb' (h.apart.cells b hb'), h.apart.gt, fun b hb => h.apart.out b hb, fun b _ e => (by cases e), fun b hb => h.apart.sides b hb, fun b hb e => by
      obtain rfl : g = b := by simpa [Value.ownBlock] using e
      rcases hat with hat | hat
      · exact h.apart.side _ hb hat
      · have := h.apart.old _ hb
        omega⟩
    nil1 := fun _ => rfl
    nil2 := fun e => by rw [show (sideS s x).ins = s.ins from rfl, hi] at e; cases e }

set_option maxRecDepth 100000 in
set_option maxHeartbeats 1000000 in
theorem inside_line (base pb : Nat) (s : PS) (x : List UInt8) (w : World) (φ : Nat → Prop) (vo vl vs vd : Value) (us : List (Bool × Value × Value)) (ss : List Value) (h : PState base pb s w φ vo vl vs vd us ss) (hi : s.ins = true)
    (hm : isM x = false) (hl : x.length ≤ 1000000) (hn : s.side.length ≤ 100000) :
    Calls Tryd.prog 63 #[.pointer (some ⟨pb, 0, none⟩), .string (B x)] w fun e w' => e = .returned (.bool true) ∧ PInv base pb (sideS s x) w' ∧ FB base pb w w' := by
  obtain ⟨i0, hi0, hz0, hz1, hz2⟩ := info_parts Tryd.info9
  have hm' := hm
  unfold isM opM seM clM at hm'
  simp only [Bool.or_eq_false_iff] at hm'
  obtain ⟨⟨m1, m2⟩, m3⟩ := hm'
  have n1 := cell_of_row w pb 3 _ _ _ h.row
  simp at n1
  have hlt : pb < w.heap.size := Nat.lt_of_lt_of_le h.lt h.le
  have hne : pb ≠ w.heap.size := by omega
  have HU := Lib.hid (fun w => unquote_any x w hl)
  obtain ⟨y, hy⟩ : ∃ y, y = unquoteL x := ⟨_, rfl⟩
  rw [← hy] at HU
  have HY := Lib.hid hy
  have HO := Lib.hid (show ((w.alloc (.cells #[strV y] 9)).drew).ownsRow base 9 1 vd s.side.length (s.side.map strV) from World.ownsRow.alloc h.side _)
  have HN := Lib.hid (show ∀ j u, [strV y][j]? = some u → ((w.alloc (.cells #[strV y] 9)).drew).cell? ((⟨w.heap.size, 0, none⟩ : Addr).add j) = some u from
    World.news_of_block (w := (w.alloc (.cells #[strV y] 9)).drew) (heap_alloc_new w _))
  have HB := Lib.hid (show s.side.length + 1 ≤ maxLen ∧ (s.side.length + 1) * 16 ≤ 140737488355328 ∧ base ≤ w.heap.size + 1 from by
    have h2 := h.le
    unfold maxLen
    omega)
  have H := Lib.hid h
  clear h hy hm hl hn
  go_enter Tryd.func63, Tryd.ntmps63
  go_wp2_with fail
  go_region_law (first
    | (refine step_append_lies ((w.alloc (.cells #[strV y] 9)).drew) rfl (.tmp 10) (.tmp 13) 35 rfl base 9 i0 (.string ⟨#[]⟩) 1 16 Tryd.underlying35 hi0 hz0 hz1 hz2 rfl (by decide) vd s.side.length (s.side.map strV) (by simp [Act.eval]) HO.out ⟨w.heap.size, 0, none⟩ 1 1 [strV y] (by simp [Act.eval]) rfl HN.out (by simp [strV, Value.oneCell']) (by omega) HB.out.1 HB.out.2.1 (by simp; exact HB.out.2.2) (w.heap.size + 1) (by simp) ?_; intro g cap w1 hown1 hgrow1 hat1 hlt1; (have hrow1 := (hgrow1.block pb (by simp; omega) (fun e => Nat.lt_irrefl _ (Nat.lt_of_lt_of_le H.out.lt (World.ownsRow.lt H.out.side pb e.symm).1))).trans ((heap_alloc_old w (.cells #[strV y] 9) hlt).trans H.out.row)); (have g1 := frozen_of_row w1 pb 3 _ _ hrow1); (have c1 := cell_of_row w1 pb 3 _ _ _ hrow1); (simp at c1))
    | (go_simp; go_at_call 24; refine (HU.out _).mono ?_; rintro e w' ⟨rfl, rfl⟩))
  all_goals go_wp2_with fail
  all_goals go_ret
  all_goals
    have hp1 : ∀ k, k ≠ pb → (w1.setCell ⟨pb, 3, none⟩ (.slice (some ⟨g, 0, none⟩) (s.side.length + 1) cap)).heap[k]? = w1.heap[k]? := fun k hk => heap_setCell_ne _ _ _ _ hk
    have b1 : Below pb w1 (w1.setCell ⟨pb, 3, none⟩ (.slice (some ⟨g, 0, none⟩) (s.side.length + 1) cap)) := (Below.refl pb w1).setCell (p := ⟨pb, 3, none⟩) (Nat.le_refl _) _
    have b0 : Below base w w1 := (((Below.refl base w).alloc H.out.le (.cells #[strV y] 9)).drew).grown hgrow1 (by have := H.out.le; simp; omega) (fun k e => (World.ownsRow.lt H.out.side k e).1)
    have r1 := heap_setCell_same w1 pb 3 _ _ (.slice (some ⟨g, 0, none⟩) (s.side.length + 1) cap) hrow1
    refine ⟨rfl, side_state H.out hi hat1 (Nat.le_succ _) (Nat.le_trans b0.size b1.size) (by simpa using r1) (by rw [← HY.out]; exact row_keep hown1 (fun k hk => hp1 k (by have := (row_block hown1 hk).1; have := H.out.lt; omega))) (fun k hk hkp hko => (hp1 k hkp).trans ((hgrow1.block k (by simp; omega) (fun e => hko e.symm)).trans (heap_alloc_old w (.cells #[strV y] 9) hk))), ?_⟩
    exact ⟨b1.os.trans b0.os, b1.tape.trans b0.tape, b1.output.trans b0.output, Nat.le_trans b0.size b1.size, fun k hk hkp => (hp1 k hkp).trans (b0.block k hk), others_grown H.out.row (fun k e => row_cells H.out.side e) hgrow1 hp1⟩
end Go.Proofs.YtbdekdhdkdjejaaDoor
