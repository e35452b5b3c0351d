/- (*parser).outside. -/
import Derived.Laws.EntriesVeiled
import Derived.Test.YtbdekdhdkdjejaaDoorFlush
namespace Go.Proofs.YtbdekdhdkdjejaaDoor
open Go.RowKit

def openS (s : PS) : PS := { flushS s with sides := [], side := [], ins := true }
def lineS (s : PS) (x : List UInt8) : PS := { s with lines := s.lines ++ [unquoteL x] }

set_option maxRecDepth 100000 in
set_option maxHeartbeats 1000000 in
theorem outside_bad (pb : Nat) (x : List UInt8) (w : World) (h : x = seM ∨ x = clM) :
    Calls Tryd.prog 41 #[.pointer (some ⟨pb, 0, none⟩), .string (B x)] w fun e w' => e = .returned (.bool false) ∧ w = w' := by
  rcases h with rfl | rfl <;> (first | unfold seM | unfold clM) <;>
  (go_enter Tryd.func41, Tryd.ntmps41
   go_wp2
   go_ret
   exact ⟨rfl, rfl⟩)

set_option maxRecDepth 100000 in
set_option maxHeartbeats 1000000 in
theorem outside_open (base pb : Nat) (s : PS) (w : World) (h : PInv base pb s w) (hn : s.out.length ≤ 100000) :
    Calls Tryd.prog 41 #[.pointer (some ⟨pb, 0, none⟩), .string (B opM)] w fun e w' => e = .returned (.bool true) ∧ PInv base pb (openS s) w' ∧ FB base pb w w' := by
  have HF := Lib.hid (flush_any base pb s w h hn)
  clear h hn
  unfold opM
  go_enter Tryd.func41, Tryd.ntmps41
  go_wp2_with fail
  refine HF.out.mono ?_
  rintro e w1 ⟨⟨x, rfl⟩, ⟨φ, vo, vs, vd, us, ss, h1⟩, hfb⟩
  have r0 := h1.row
  have f2 := frozen_of_row w1 pb 2 _ _ r0
  have f3 := frozen_of_row w1 pb 3 _ _ r0
  have f4 := frozen_of_row w1 pb 4 _ _ r0
  have c2 := cell_of_row w1 pb 2 _ _ _ r0
  have c3 := cell_of_row w1 pb 3 _ _ _ r0
  have c4 := cell_of_row w1 pb 4 _ _ _ r0
  simp at c2 c3 c4
  have H1 := Lib.hid h1
  have HB := Lib.hid hfb
  have R0 := Lib.hid r0
  clear h1 hfb r0
  go_wp2_with fail
  go_ret
  have r2 := heap_setCell_same w1 pb 2 _ _ (.slice none 0 0) R0.out
  have r3 := heap_setCell_same _ pb 3 _ _ (.slice none 0 0) r2
  have r4 := heap_setCell_same _ pb 4 _ _ (.func (.func 63) #[.pointer (some ⟨pb, 0, none⟩)] #[]) r3
  have hp1 : ∀ k, k ≠ pb → (((w1.setCell ⟨pb, 2, none⟩ (.slice none 0 0)).setCell ⟨pb, 3, none⟩ (.slice none 0 0)).setCell ⟨pb, 4, none⟩ (.func (.func 63) #[.pointer (some ⟨pb, 0, none⟩)] #[])).heap[k]? = w1.heap[k]? := fun k hk => (heap_setCell_ne _ _ _ _ hk).trans ((heap_setCell_ne _ _ _ _ hk).trans (heap_setCell_ne _ _ _ _ hk))
  have b1 : Below pb w1 (((w1.setCell ⟨pb, 2, none⟩ (.slice none 0 0)).setCell ⟨pb, 3, none⟩ (.slice none 0 0)).setCell ⟨pb, 4, none⟩ (.func (.func 63) #[.pointer (some ⟨pb, 0, none⟩)] #[])) :=
    (((Below.refl pb w1).setCell (p := ⟨pb, 2, none⟩) (Nat.le_refl _) _).setCell (p := ⟨pb, 3, none⟩) (Nat.le_refl _) _).setCell (p := ⟨pb, 4, none⟩) (Nat.le_refl _) _
  have hb : ∀ k, base ≤ k → k ≠ pb := fun k hk e => by have := H1.out.lt; omega
  have hK : Keeps φ w1 (((w1.setCell ⟨pb, 2, none⟩ (.slice none 0 0)).setCell ⟨pb, 3, none⟩ (.slice none 0 0)).setCell ⟨pb, 4, none⟩ (.func (.func 63) #[.pointer (some ⟨pb, 0, none⟩)] #[])) := ⟨b1.size, fun k _ hφ => hp1 k (fun e => H1.out.apart.pb (e ▸ hφ))⟩
  refine ⟨rfl, ⟨φ, vo, .slice none 0 0, .slice none 0 0, .slice none 0 0, us, [], ?_⟩, HB.out.trans ⟨b1.os, b1.tape, b1.output, b1.size, fun k _ hkp => hp1 k hkp, others_set H1.out.row hp1⟩⟩
  exact {
    lt := H1.out.lt
    le := Nat.le_trans H1.out.le b1.size
    row := by simpa [openS, stateV] using r4
    out := row_keep H1.out.out (fun k hk => hp1 k (hb k (row_block H1.out.out hk).1))
    ulen := H1.out.ulen
    regs := fun i hi hj => ⟨(H1.out.regs i hi hj).1, (H1.out.regs i hi hj).2.1.keeps hK, (H1.out.regs i hi hj).2.2.keeps hK⟩
    lines := row_keep H1.out.lines (fun k hk => by cases hk)
    sides := World.ownsRow_nil _ _ _ _
    slen := rfl
    strs := fun i hi => absurd hi (Nat.not_lt_zero _)
    side := Owns.nil _ _
    apart := ⟨fun b hb' => cells_kept hK hb' (H1.out.apart.cells b hb'), H1.out.apart.gt, H1.out.apart.out, fun b _ e => (by cases e), fun b _ e => (by cases e), fun b _ e => (by cases e)⟩
    nil1 := fun _ => rfl
    nil2 := fun _ => ⟨rfl, rfl⟩ }
end Go.Proofs.YtbdekdhdkdjejaaDoor
