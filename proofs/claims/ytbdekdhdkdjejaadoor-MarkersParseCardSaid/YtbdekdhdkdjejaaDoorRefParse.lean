/- quiltref22.Parse. -/
import Derived.Deep.RegionHeld3
import Derived.Test.YtbdekdhdkdjejaaDoorLastStep
namespace Go.Proofs.YtbdekdhdkdjejaaDoor
open Go.RowKit Go.Shelf

set_option maxRecDepth 100000 in
set_option maxHeartbeats 1000000 in
theorem ref_parse_err (l : List UInt8) (w : World) (h : (splitL l).2 ≠ 0) : Calls Tryd.prog 20 #[.string (B l)] w (ParseOut l w) := by
  have hb : (((splitL l).2 : Int) != 0) = true := by rw [bne_iff_ne]; omega
  have HP := Lib.hid (show parseL l = ([], 0, (splitL l).2) from by unfold parseL; rw [if_neg h])
  clear h
  go_enter Tryd.func20, Tryd.ntmps20
  go_wp2_with fail
  refine (ref_split_any _ _).mono ?_
  rintro e w1 ⟨v, rfl, hs, hb1⟩
  have HB := Lib.hid hb1
  clear hb1 hs
  go_wp2_with fail
  go_ret3
  unfold ParseOut
  rw [HP.out]
  exact ⟨_, rfl, regs_nil _ _, HB.out⟩

/-- A refused line ends the parse. -/
theorem refused_at {l : List UInt8} {k : Nat} (h0 : (splitL l).2 = 0) (hk : k < (splitL l).1.length) (hr : (runL s0 0 ((splitL l).1.take k)).2 = 0)
    (hs : stepS (runL s0 0 ((splitL l).1.take k)).1 (splitL l).1[k] = none) : parseL l = ([], k + 1, 3) := by
  have e : runL s0 0 ((splitL l).1.take (k + 1)) = ((runL s0 0 ((splitL l).1.take k)).1, k + 1) := by
    rw [List.take_succ_eq_append_getElem hk, run_snoc hr, hs]
    simp only [List.length_take]
    rw [show 0 + min k (splitL l).1.length + 1 = k + 1 by omega]
  have e3 : runL s0 0 (splitL l).1 = ((runL s0 0 ((splitL l).1.take k)).1, k + 1) := by
    have e2 : (splitL l).1 = (splitL l).1.take (k + 1) ++ (splitL l).1.drop (k + 1) := (List.take_append_drop _ _).symm
    have e4 : runL s0 0 ((splitL l).1.take (k + 1) ++ (splitL l).1.drop (k + 1)) = ((runL s0 0 ((splitL l).1.take k)).1, k + 1) := by rw [run_stop (by rw [e]; simp), e]
    rwa [← e2] at e4
  unfold parseL
  rw [if_pos h0, e3]
  simp
/-- What the loop keeps. -/
def LoopR (xs : List (List UInt8)) (w1 : World) (v b i : Value) (wr : World) : Prop :=
  ∃ k : Nat, k ≤ xs.length ∧ i = .int .i64 k ∧ b = .bool (runL s0 0 (xs.take k)).1.ins ∧ (runL s0 0 (xs.take k)).2 = 0 ∧ RInv w1.heap.size (runL s0 0 (xs.take k)).1 wr v ∧ Below w1.heap.size w1 wr
theorem loop_next {xs : List (List UInt8)} {w1 wr : World} {v : Value} {k : Nat} {t : PS} {b : Bool} (hk : k < xs.length) (hr : (runL s0 0 (xs.take k)).2 = 0) (hs : stepS (runL s0 0 (xs.take k)).1 xs[k] = some t) (hb : t.ins = b) (hi : RInv w1.heap.size t wr v)
    (hB : Below w1.heap.size w1 wr) : LoopR xs w1 v (.bool b) (.int .i64 ((k : Int) + 1)) wr := by
  have e : runL s0 0 (xs.take (k + 1)) = (t, 0) := by rw [List.take_succ_eq_append_getElem hk, run_snoc hr, hs]
  refine ⟨k + 1, by omega, by go_num, by rw [e, hb], by rw [e], by rw [e]; exact hi, hB⟩
/-- Between two regions the last one has a conflict. -/
theorem last_conf {l : List UInt8} {k : Nat} (h0 : (splitL l).2 = 0) (hr : (runL s0 0 ((splitL l).1.take k)).2 = 0) (hi : (runL s0 0 ((splitL l).1.take k)).1.ins = false) : prevOf false (runL s0 0 ((splitL l).1.take k)).1.out = false :=
  (run_inv inv_start (fun x hx => split_good h0 x (List.mem_of_mem_take hx)) hr).last hi
theorem last_true {out : List Reg} (h : prevOf false out = false) (hn : 0 < out.length) : (out[out.length - 1]'(by omega)).conf = true := by
  have hne : out ≠ [] := by rintro rfl; simp at hn
  have e := List.dropLast_concat_getLast hne
  rw [← e, prevOf_snoc] at h
  rw [← List.getLast_eq_getElem hne]
  simpa using h
theorem take_sz {xs : List (List UInt8)} (k : Nat) : szS (runL s0 0 (xs.take k)).1 ≤ xs.length := by
  have := run_sz (s := s0) (n := 0) (a := xs.take k)
  have e : szS s0 = 0 := rfl
  rw [List.length_take] at this
  omega
theorem loop_start (xs : List (List UInt8)) (w1 : World) : LoopR xs w1 (.slice (some ⟨w1.heap.size, 0, none⟩) 0 0) (.bool false) (.int .i64 0) (w1.alloc (.cells #[] 41)) := by
  refine ⟨0, Nat.zero_le _, rfl, rfl, rfl, .inl ⟨rfl, .inl ⟨fun _ => False, [], ?_, rfl⟩⟩, (Below.refl _ _).alloc (Nat.le_refl _) _⟩
  exact ⟨by simp, World.ownsRow_lit (size := 3) (e := 41) w1 #[] 0 (Nat.le_refl _) (Nat.zero_le _) rfl, rfl, fun i hi => absurd hi (Nat.not_lt_zero _), fun b hb => hb.elim, fun b hb => hb.elim⟩

theorem alloc3 (w : World) (o1 o2 o3 : Obj) : (((w.alloc o1).alloc o2).alloc o3).heap[w.heap.size]? = some o1 ∧ (((w.alloc o1).alloc o2).alloc o3).heap[w.heap.size + 1]? = some o2 ∧ ∀ k, k < w.heap.size → (((w.alloc o1).alloc o2).alloc o3).heap[k]? = w.heap[k]? := by
  refine ⟨?_, ?_, fun k hk => ?_⟩
  · rw [Below.heap_alloc _ _ _ (by simp; omega), Below.heap_alloc _ _ _ (by simp)]
    exact heap_alloc_new w o1
  · rw [Below.heap_alloc _ _ _ (by simp)]
    have := heap_alloc_new (w.alloc o1) o2
    rwa [World.size_alloc] at this
  · rw [Below.heap_alloc _ _ _ (by simp; omega), Below.heap_alloc _ _ _ (by simp; omega), Below.heap_alloc _ _ _ hk]
theorem RS.row0 {base : Nat} {out : List Reg} {w : World} {φ : Nat → Prop} {v : Value} {us : List (Bool × Value × Value)} (h : RS base out w φ v us []) : w.ownsRow base 41 3 v us.length (regVals us) := by
  have := h.row
  rwa [List.append_nil] at this

theorem modeA_drew {base : Nat} {s : PS} {w : World} {v : Value} (h : ModeA base s w v) (n : Nat) : ModeA base s (w.drewN n) v := by
  obtain ⟨φ, us, h, hl⟩ := h
  exact ⟨φ, us, h.next (Nat.le_refl _) (fun _ _ => rfl) h.row h.apart, hl⟩
theorem refuse_out {l : List UInt8} {w W : World} {k : Nat} (h : parseL l = ([], k + 1, 3)) (hb : Below w.heap.size w W) : ParseOut l w (.returned (.tuple #[.slice none 0 0, .int .i64 ((k : Int) + 1), .int .i64 3])) W := by
  unfold ParseOut
  rw [h]
  exact ⟨_, by simp, regs_nil _ _, hb⟩

set_option maxRecDepth 100000 in
set_option maxHeartbeats 40000000 in
theorem ref_parse_main (l : List UInt8) (w : World) (h : (splitL l).2 = 0) : Calls Tryd.prog 20 #[.string (B l)] w (ParseOut l w) := by
  have hb : (((splitL l).2 : Int) != 0) = false := by simp [h]
  obtain ⟨i0, hi0, hz0, hz1, hz2⟩ := info_parts Tryd.info41
  obtain ⟨j0, hj0, hy0, hy1, hy2⟩ := info_parts Tryd.info35
  obtain ⟨q0, hq0, hx0, hx1, hx2⟩ := info_parts Tryd.info9
  have HS := Lib.hid h
  have HBD := Lib.hid (split_bounds h)
  clear h
  go_enter Tryd.func20, Tryd.ntmps20
  go_wp2_with fail
  refine (ref_split_any _ _).mono ?_
  rintro e w1 ⟨v, rfl, hs, hb1⟩
  obtain ⟨a, c, rfl⟩ := hs.slice
  have HB1 := Lib.hid hb1
  have HST := Lib.hid hs
  have hlen : (splitL l).1.length ≤ 2000 := HBD.out.1
  clear hb1 hs
  go_wp2_with fail
  go_loopw [7, 8, 9] (fun v b i wr => LoopR (splitL l).1 w1 v b i wr) (fun _ _ i _ => (splitL l).1.length - (intOf i).toNat)
  case atStart => exact loop_start _ _
  case round =>
    obtain ⟨k, hk, rfl, rfl, hrun, hinv, hbel⟩ := hrel
    have HRUN := Lib.hid hrun
    have HBEL := Lib.hid hbel
    have HSZ := Lib.hid (take_sz (xs := (splitL l).1) k)
    clear hrun hbel
    by_cases hlt : k < (splitL l).1.length
    · have hlt0 := hlt
      have HSR := Lib.hid (HST.out.below HBEL.out)
      obtain ⟨b, off, rfl, hcell⟩ := HSR.out.elem hlt
      have HREF := Lib.hid (fun hn => refused_at HS.out hlt HRUN.out hn)
      have HLAST := Lib.hid (fun hi => last_conf (k := k) HS.out HRUN.out hi)
      have HNX := Lib.hid (fun (v : Value) (V : World) (t : PS) (b : Bool) hs hb hi hB => loop_next (v := v) (wr := V) (w1 := w1) (t := t) (b := b) hlt HRUN.out hs hb hi hB)
      have hxl : (splitL l).1[k].length ≤ 1000 := HBD.out.2 _ (List.getElem_mem hlt)
      generalize hse : (runL s0 0 ((splitL l).1.take k)).1 = s at hinv HREF HLAST HNX HSZ ⊢
      generalize hxe : (splitL l).1[k] = x at hcell HREF HNX hxl ⊢
      clear hse hxe
      rcases hinv with ⟨hin, hmode⟩ | ⟨hin, hmode⟩
      · have hv7 : ∃ a n c, u7 = .slice a n c := by
          rcases hmode with ⟨_, _, h, _⟩ | ⟨_, _, _, h, _⟩
          · obtain ⟨a, c, e⟩ := row_slice h.row; exact ⟨a, _, c, e⟩
          · obtain ⟨a, c, e⟩ := row_slice h.row; exact ⟨a, _, c, e⟩
        rw [hin]
        cases hm : isM x
        · have hm' := not_markers hm
          unfold opM seM clM at hm'
          obtain ⟨m1, m2, m3⟩ := hm'
          have HMK := Lib.hid hm
          have HU := Lib.hid (fun w => ref_unquote_any x w (by omega))
          obtain ⟨y, hy⟩ : ∃ y, y = unquoteL x := ⟨_, rfl⟩
          rw [← hy] at HU
          have HY := Lib.hid hy
          have HIN := Lib.hid hin
          have hbl : b < wr.heap.size := by have := World.block_lt_of_cell? wr _ hcell; simpa using this
          have hb1 : b < w1.heap.size := by
            obtain ⟨b', off', e, hc'⟩ := HST.out.elem hlt0
            cases e
            have := World.block_lt_of_cell? w1 _ hc'
            simpa using this
          have hun := undef_bool
          rcases hmode with ⟨φ, us, hR, hl⟩ | ⟨φ, us, vl, hR, ho, ha, hl⟩
          · have hrow := hR.row0
            obtain ⟨a7, c7, rfl⟩ := row_slice hrow
            have hus : us.length ≤ 3000 := by
              have h2 := hR.ulen
              have h3 := HSZ.out
              unfold szS at h3
              omega
            have HR := Lib.hid hR
            have HRW := Lib.hid hrow
            have HL := Lib.hid hl
            have HNW := Lib.hid (fun (n : Nat) => show ∀ j u, [Value.bool false, .slice none 0 0, .slice none 0 0][j]? = some u → ((wr.drewN n).alloc (.cells #[.bool false, .slice none 0 0, .slice none 0 0] 41)).cell? ((⟨wr.heap.size, 0, none⟩ : Addr).add j) = some u from
              World.news_of_block (heap_alloc_new (wr.drewN n) _))
            have HBB := Lib.hid (show w1.heap.size ≤ wr.heap.size from HBEL.out.size)
            have HLT := Lib.hid (fun hn => last_true (HLAST.out hin) (show 0 < s.out.length from hn))
            clear hrow hR hl hy hm hin
            by_cases hz : us.length = 0
            · have hk0 : decide ((us.length : Int) - 1 < 0) = true := decide_eq_true (by omega)
              clear hz
              go_wp2_with fail
              go_quiet (fail)
              go_wp2_with fail
              refine (marker_any _ _).mono ?_
              rintro e w2 ⟨rfl, rfl⟩
              rw [HMK.out]
              go_wp2_with (at_builtin; refine wpList_append_lies _ rfl (.tmp 136) (.tmp 138) 22 rfl w1.heap.size 41 i0 (.agg #[.bool false, .slice none 0 0, .slice none 0 0]) 3 56 Tryd.underlying22 hi0 hz0 hz1 hz2 rfl (by decide) (.slice a7 us.length c7) us.length (regVals us) rfl (World.ownsRow.alloc (w := wr.drewN nq) HRW.out _) ⟨wr.heap.size, 0, none⟩ 1 1 [.bool false, .slice none 0 0, .slice none 0 0] rfl rfl (HNW.out nq) (by simp [Value.oneCell']) (by decide) (by unfold maxLen; omega) (by omega) (by have := HBB.out; simp; omega) (wr.heap.size + 1) (by simp) ?_; intro g cap w3 hown3 hgrow3 hat3 hlt3)
              have hib : (us.length : Int) < (us.length : Int) + 1 := by omega
              have hsz3 : wr.heap.size + 1 ≤ w3.heap.size := by have := hgrow3.size; simpa using this
              have cL3 : w3.cell? ⟨g, us.length * 3 + 1, none⟩ = some (.slice none 0 0) := by
                have h1 : (regVals us ++ [Value.bool false, .slice none 0 0, .slice none 0 0])[us.length * 3 + 1]? = some (.slice none 0 0) := by
                  rw [List.getElem?_append_right (by rw [regVals_length]; omega), regVals_length]
                  rw [show us.length * 3 + 1 - us.length * 3 = 1 by omega]
                  rfl
                have h2 := World.ownsRow.cells hown3 (g := g) rfl _ _ h1
                rw [addr_add, Nat.zero_add] at h2
                exact h2
              have cb3 : w3.cell? ⟨b, off + k, none⟩ = some (.string (B x)) :=
                (hgrow3.cell_far ⟨b, off + k, none⟩ (by simp; omega) (fun e => by have := (row_block HRW.out e.symm).1; simp at this; omega)).trans ((World.cell?_alloc_lt (wr.drewN nq) _ _ hbl).trans hcell)
              obtain ⟨cur3, t3, hC3⟩ := row_cells hown3 (k := g) rfl
              have HC3 := Lib.hid hC3
              have hgne3 : g ≠ w3.heap.size := by omega
              have hbne3 : b ≠ w3.heap.size := by omega
              have hbl3 : b < w3.heap.size := by omega
              have HOW := Lib.hid hown3
              have HGR := Lib.hid hgrow3
              have HAT := Lib.hid hat3
              have HN3 := Lib.hid (show ∀ j u, [strV y][j]? = some u → ((w3.alloc (.cells #[strV y] 9)).drew).cell? ((⟨w3.heap.size, 0, none⟩ : Addr).add j) = some u from
                World.news_of_block (w := (w3.alloc (.cells #[strV y] 9)).drew) (heap_alloc_new w3 _))
              clear hC3 hown3 hgrow3 hat3
              go_region_law (first
                | (refine step_append_lies ((w3.alloc (.cells #[strV y] 9)).drew) rfl (.tmp 148) (.tmp 154) 35 rfl w1.heap.size 9 q0 (.string ⟨#[]⟩) 1 16 Tryd.underlying35 hq0 hx0 hx1 hx2 rfl (by decide) (.slice none 0 0) 0 [] (by simp [Act.eval]) (World.ownsRow_nil _ _ _ _) ⟨w3.heap.size, 0, none⟩ 1 1 [strV y] (by simp [Act.eval]) rfl HN3.out (by simp [strV, Value.oneCell']) (by omega) (by decide) (by omega) (by have := HBB.out; simp; omega) (w3.heap.size + 1) (by simp) ?_; intro g4 cap4 w4 hown4 hgrow4 hat4 hlt4; (have hO4 := (hgrow4.block g (by simp; omega) (by simp [Value.ownBlock])).trans ((Below.heap_alloc w3 _ g hlt3).trans HC3.out)); (have fO4 := frozen_of_row w4 g (us.length * 3 + 1) _ _ hO4); (have cO4 := (cell_of_row w4 g (us.length * 3 + 1) _ _ _ hO4).trans ((cell_of_row w3 g (us.length * 3 + 1) _ _ _ HC3.out).symm.trans cL3)))
                | (go_simp; go_at_call 25; refine (HU.out _).mono ?_; rintro e w' ⟨rfl, rfl⟩))
              all_goals go_wp2_with fail
              all_goals
                go_roundw
                case rel =>
                  have hsz4 : w3.heap.size + 1 ≤ w4.heap.size := by have := hgrow4.size; simpa using this
                  have hg4 : g4 = w3.heap.size + 1 := by
                    rcases hat4 with h | h
                    · cases h
                    · exact h
                  have hw5 : ∀ q, q ≠ g → (w4.setCell ⟨g, us.length * 3 + 1, none⟩ (.slice (some ⟨g4, 0, none⟩) 1 cap4)).heap[q]? = w4.heap[q]? := fun q hq => heap_setCell_ne _ _ _ _ hq
                  have hO5 : w4.ownsRow w1.heap.size 41 3 (.slice (some ⟨g, 0, none⟩) (us.length + 1) cap) (us.length + 1) (regVals us ++ [.bool false, .slice none 0 0, .slice none 0 0]) := row_keep HOW.out (fun q hq => by
                    obtain rfl : g = q := by simpa [Value.ownBlock] using hq
                    exact hO4.trans HC3.out.symm)
                  have e0 : regVals us ++ [.bool false, .slice none 0 0, .slice none 0 0] = regVals (us ++ [(false, .slice none 0 0, .slice none 0 0)]) := (regVals_snoc us (false, .slice none 0 0, .slice none 0 0)).symm
                  rw [e0] at hO5
                  have hO6 := row_set hO5 (us.length * 3 + 1) (.slice (some ⟨g4, 0, none⟩) 1 cap4)
                  rw [regVals_set1, regVals_snoc] at hO6
                  have hw3 : ∀ q, q < w3.heap.size → w4.heap[q]? = w3.heap[q]? := fun q hq => (hgrow4.block q (by simp; omega) (by simp [Value.ownBlock])).trans (Below.heap_alloc w3 _ q hq)
                  have hbw := HBB.out
                  refine HNX.out _ _ (lineS s x) false (step_line HIN.out HMK.out) HIN.out (.inl ⟨HIN.out, .inr (first_mode HR.out HL.out HAT.out (by omega) (by simp; omega) hO6 (by rw [← HY.out]; exact row_keep hown4 (fun q hq => hw5 q (fun e => by
                    obtain rfl : g4 = q := by simpa [Value.ownBlock] using hq
                    omega))) (fun q hq => by
                    obtain rfl : g4 = q := by simpa [Value.ownBlock] using hq
                    omega) ?_)⟩) ?_
                  · intro q hq h1
                    refine (hw5 q (fun e => ?_)).trans ((hw3 q (by omega)).trans ((HGR.out.block q (by simp; omega) (fun e => h1 e.symm)).trans (Below.heap_alloc (wr.drewN nq) _ _ hq)))
                    rcases HAT.out with h | h
                    · exact h1 (by rw [e]; exact h)
                    · omega
                  · have hgb := (row_block HOW.out (k := g) rfl).1
                    exact (((((((below_drewN HBEL.out nq).alloc hbw _).grown HGR.out (by simp; omega) (fun q e => (row_block HRW.out e).1)).alloc (by omega) _).drew).grown hgrow4 (by simp; omega) (fun q e => by cases e)).setCell (p := ⟨g, us.length * 3 + 1, none⟩) hgb _)
                case measure => simp [intOf]; omega
            · have hk0 : decide ((us.length : Int) - 1 < 0) = false := decide_eq_false (by omega)
              have hpos : 0 < us.length := by omega
              have hk1 : (0 : Int) ≤ (us.length : Int) - 1 := by omega
              have hk2 : (us.length : Int) - 1 < (us.length : Int) := by omega
              have hk3 : ((us.length : Int) - 1).toNat = us.length - 1 := by omega
              obtain ⟨g7, hg7⟩ : ∃ g7, a7 = some ⟨g7, 0, none⟩ := by
                rcases HRW.out.2 with ⟨h1, h2⟩ | ⟨g7, cap, cur, hv, _⟩
                · exact absurd h2 hz
                · cases hv; exact ⟨g7, rfl⟩
              subst hg7
              have cK : wr.cell? ⟨g7, (us.length - 1) * 3, none⟩ = some (.bool true) := by
                have h1 := (regVals_get us (us.length - 1) (by omega)).1
                have h2 := World.ownsRow.cells HRW.out (g := g7) rfl _ _ h1
                have h3 := (HR.out.regs (us.length - 1) (by omega) (by have := HR.out.ulen; omega)).1
                have h4 := HLT.out (by have := HR.out.ulen; omega)
                have h5 : us[us.length - 1].1 = true := by
                  rw [h3, ← h4]
                  have e := HR.out.ulen
                  simp only [e]
                rw [addr_add, Nat.zero_add, h5] at h2
                exact h2
              clear hz
              go_wp2_with fail
              go_quiet (fail)
              go_wp2_with fail
              refine (marker_any _ _).mono ?_
              rintro e w2 ⟨rfl, rfl⟩
              rw [HMK.out]
              go_wp2_with (at_builtin; refine wpList_append_lies _ rfl (.tmp 136) (.tmp 138) 22 rfl w1.heap.size 41 i0 (.agg #[.bool false, .slice none 0 0, .slice none 0 0]) 3 56 Tryd.underlying22 hi0 hz0 hz1 hz2 rfl (by decide) (.slice (some ⟨g7, 0, none⟩) us.length c7) us.length (regVals us) rfl (World.ownsRow.alloc (w := wr.drewN nq) HRW.out _) ⟨wr.heap.size, 0, none⟩ 1 1 [.bool false, .slice none 0 0, .slice none 0 0] rfl rfl (HNW.out nq) (by simp [Value.oneCell']) (by decide) (by unfold maxLen; omega) (by omega) (by have := HBB.out; simp; omega) (wr.heap.size + 1) (by simp) ?_; intro g cap w3 hown3 hgrow3 hat3 hlt3)
              have hib : (us.length : Int) < (us.length : Int) + 1 := by omega
              have hsz3 : wr.heap.size + 1 ≤ w3.heap.size := by have := hgrow3.size; simpa using this
              have cL3 : w3.cell? ⟨g, us.length * 3 + 1, none⟩ = some (.slice none 0 0) := by
                have h1 : (regVals us ++ [Value.bool false, .slice none 0 0, .slice none 0 0])[us.length * 3 + 1]? = some (.slice none 0 0) := by
                  rw [List.getElem?_append_right (by rw [regVals_length]; omega), regVals_length]
                  rw [show us.length * 3 + 1 - us.length * 3 = 1 by omega]
                  rfl
                have h2 := World.ownsRow.cells hown3 (g := g) rfl _ _ h1
                rw [addr_add, Nat.zero_add] at h2
                exact h2
              have cb3 : w3.cell? ⟨b, off + k, none⟩ = some (.string (B x)) :=
                (hgrow3.cell_far ⟨b, off + k, none⟩ (by simp; omega) (fun e => by have := (row_block HRW.out e.symm).1; simp at this; omega)).trans ((World.cell?_alloc_lt (wr.drewN nq) _ _ hbl).trans hcell)
              obtain ⟨cur3, t3, hC3⟩ := row_cells hown3 (k := g) rfl
              have HC3 := Lib.hid hC3
              have hgne3 : g ≠ w3.heap.size := by omega
              have hbne3 : b ≠ w3.heap.size := by omega
              have hbl3 : b < w3.heap.size := by omega
              have HOW := Lib.hid hown3
              have HGR := Lib.hid hgrow3
              have HAT := Lib.hid hat3
              have HN3 := Lib.hid (show ∀ j u, [strV y][j]? = some u → ((w3.alloc (.cells #[strV y] 9)).drew).cell? ((⟨w3.heap.size, 0, none⟩ : Addr).add j) = some u from
                World.news_of_block (w := (w3.alloc (.cells #[strV y] 9)).drew) (heap_alloc_new w3 _))
              clear hC3 hown3 hgrow3 hat3
              go_region_law (first
                | (refine step_append_lies ((w3.alloc (.cells #[strV y] 9)).drew) rfl (.tmp 148) (.tmp 154) 35 rfl w1.heap.size 9 q0 (.string ⟨#[]⟩) 1 16 Tryd.underlying35 hq0 hx0 hx1 hx2 rfl (by decide) (.slice none 0 0) 0 [] (by simp [Act.eval]) (World.ownsRow_nil _ _ _ _) ⟨w3.heap.size, 0, none⟩ 1 1 [strV y] (by simp [Act.eval]) rfl HN3.out (by simp [strV, Value.oneCell']) (by omega) (by decide) (by omega) (by have := HBB.out; simp; omega) (w3.heap.size + 1) (by simp) ?_; intro g4 cap4 w4 hown4 hgrow4 hat4 hlt4; (have hO4 := (hgrow4.block g (by simp; omega) (by simp [Value.ownBlock])).trans ((Below.heap_alloc w3 _ g hlt3).trans HC3.out)); (have fO4 := frozen_of_row w4 g (us.length * 3 + 1) _ _ hO4); (have cO4 := (cell_of_row w4 g (us.length * 3 + 1) _ _ _ hO4).trans ((cell_of_row w3 g (us.length * 3 + 1) _ _ _ HC3.out).symm.trans cL3)))
                | (go_simp; go_at_call 25; refine (HU.out _).mono ?_; rintro e w' ⟨rfl, rfl⟩))
              all_goals go_wp2_with fail
              all_goals
                go_roundw
                case rel =>
                  have hsz4 : w3.heap.size + 1 ≤ w4.heap.size := by have := hgrow4.size; simpa using this
                  have hg4 : g4 = w3.heap.size + 1 := by
                    rcases hat4 with h | h
                    · cases h
                    · exact h
                  have hw5 : ∀ q, q ≠ g → (w4.setCell ⟨g, us.length * 3 + 1, none⟩ (.slice (some ⟨g4, 0, none⟩) 1 cap4)).heap[q]? = w4.heap[q]? := fun q hq => heap_setCell_ne _ _ _ _ hq
                  have hO5 : w4.ownsRow w1.heap.size 41 3 (.slice (some ⟨g, 0, none⟩) (us.length + 1) cap) (us.length + 1) (regVals us ++ [.bool false, .slice none 0 0, .slice none 0 0]) := row_keep HOW.out (fun q hq => by
                    obtain rfl : g = q := by simpa [Value.ownBlock] using hq
                    exact hO4.trans HC3.out.symm)
                  have e0 : regVals us ++ [.bool false, .slice none 0 0, .slice none 0 0] = regVals (us ++ [(false, .slice none 0 0, .slice none 0 0)]) := (regVals_snoc us (false, .slice none 0 0, .slice none 0 0)).symm
                  rw [e0] at hO5
                  have hO6 := row_set hO5 (us.length * 3 + 1) (.slice (some ⟨g4, 0, none⟩) 1 cap4)
                  rw [regVals_set1, regVals_snoc] at hO6
                  have hw3 : ∀ q, q < w3.heap.size → w4.heap[q]? = w3.heap[q]? := fun q hq => (hgrow4.block q (by simp; omega) (by simp [Value.ownBlock])).trans (Below.heap_alloc w3 _ q hq)
                  have hbw := HBB.out
                  refine HNX.out _ _ (lineS s x) false (step_line HIN.out HMK.out) HIN.out (.inl ⟨HIN.out, .inr (first_mode HR.out HL.out HAT.out (by omega) (by simp; omega) hO6 (by rw [← HY.out]; exact row_keep hown4 (fun q hq => hw5 q (fun e => by
                    obtain rfl : g4 = q := by simpa [Value.ownBlock] using hq
                    omega))) (fun q hq => by
                    obtain rfl : g4 = q := by simpa [Value.ownBlock] using hq
                    omega) ?_)⟩) ?_
                  · intro q hq h1
                    refine (hw5 q (fun e => ?_)).trans ((hw3 q (by omega)).trans ((HGR.out.block q (by simp; omega) (fun e => h1 e.symm)).trans (Below.heap_alloc (wr.drewN nq) _ _ hq)))
                    rcases HAT.out with h | h
                    · exact h1 (by rw [e]; exact h)
                    · omega
                  · have hgb := (row_block HOW.out (k := g) rfl).1
                    exact (((((((below_drewN HBEL.out nq).alloc hbw _).grown HGR.out (by simp; omega) (fun q e => (row_block HRW.out e).1)).alloc (by omega) _).drew).grown hgrow4 (by simp; omega) (fun q e => by cases e)).setCell (p := ⟨g, us.length * 3 + 1, none⟩) hgb _)
                case measure => simp [intOf]; omega
          · have hrow := hR.row
            rw [List.length_append, List.length_singleton] at hrow
            obtain ⟨g, cg, rfl⟩ := ownsRow_succ hrow
            obtain ⟨al, cl, rfl⟩ := ho.strs.slice
            have hus : us.length ≤ 3000 := by
              have h2 := hR.ulen
              have h3 := HSZ.out
              unfold szS at h3
              omega
            have hll : s.lines.length ≤ 3000 := by
              have h3 := HSZ.out
              unfold szS at h3
              omega
            have gA := regVals_get (us ++ [(false, .slice al s.lines.length cl, .slice none 0 0)]) us.length (by simp)
            rw [List.getElem_append_right (Nat.le_refl _)] at gA
            simp only [Nat.sub_self, List.getElem_singleton] at gA
            have cC := World.ownsRow.cells hrow (g := g) rfl _ _ gA.1
            rw [addr_add, Nat.zero_add] at cC
            have cL := World.ownsRow.cells hrow (g := g) rfl _ _ gA.2.1
            rw [addr_add, Nat.zero_add] at cL
            have hgl := row_lt hrow (k := g) rfl
            have hgne : g ≠ wr.heap.size := by omega
            have hbne : b ≠ wr.heap.size := by omega
            have hgg : some g ≠ (Value.slice al s.lines.length cl).ownBlock := fun e => rows_apart hrow ho (by decide) (k := g) rfl e.symm
            obtain ⟨curO, tO, hfO⟩ := row_cells hrow (k := g) rfl
            have hib : (us.length : Int) < (us.length : Int) + 1 := by omega
            have hk0 : decide ((us.length : Int) < 0) = false := decide_eq_false (by omega)
            have HFO := Lib.hid hfO
            have HGG := Lib.hid hgg
            have HR := Lib.hid hR
            have HRW := Lib.hid hrow
            have HOW := Lib.hid ho
            have HA := Lib.hid ha
            have HBB := Lib.hid (show w1.heap.size ≤ wr.heap.size from HBEL.out.size)
            have HNW := Lib.hid (fun (n : Nat) => show ∀ j u, [strV y][j]? = some u → ((wr.drewN n).alloc (.cells #[strV y] 9)).cell? ((⟨wr.heap.size, 0, none⟩ : Addr).add j) = some u from
              World.news_of_block (heap_alloc_new (wr.drewN n) _))
            clear hrow hR ho ha hl hy hm hin gA hgg hfO
            go_wp2_with fail
            go_quiet (fail)
            go_wp2_with fail
            refine (marker_any _ _).mono ?_
            rintro e w2 ⟨rfl, rfl⟩
            rw [HMK.out]
            go_wp2_with fail
            have kL : ((wr.drewN (nq + 1)).alloc (.cells #[.string (B y)] 9)).cell? ⟨g, us.length * 3 + 1, none⟩ = some (.slice al s.lines.length cl) := (World.cell?_alloc_lt (wr.drewN (nq + 1)) _ _ hgl).trans cL
            have kb : ((wr.drewN (nq + 1)).alloc (.cells #[.string (B y)] 9)).cell? ⟨b, off + k, none⟩ = some (.string (B x)) := (World.cell?_alloc_lt (wr.drewN (nq + 1)) _ _ hbl).trans hcell
            go_region_law (first
              | (refine step_append_lies ((wr.drewN (nq + 1)).alloc (.cells #[strV y] 9)) rfl (.tmp 148) (.tmp 154) 35 rfl w1.heap.size 9 q0 (.string ⟨#[]⟩) 1 16 Tryd.underlying35 hq0 hx0 hx1 hx2 rfl (by decide) (.slice al s.lines.length cl) s.lines.length (s.lines.map strV) (by simp [Act.eval]) (World.ownsRow.alloc (w := wr.drewN (nq + 1)) HOW.out _) ⟨wr.heap.size, 0, none⟩ 1 1 [strV y] (by simp [Act.eval]) rfl (HNW.out (nq + 1)) (by simp [strV, Value.oneCell']) (by omega) (by unfold maxLen; omega) (by omega) (by have := HBB.out; simp; omega) (wr.heap.size + 1) (by simp) ?_; intro g3 cap w3 hown3 hgrow3 hat3 hlt3; (have hO3 := (hgrow3.block g (by simp; omega) HGG.out).trans ((Below.heap_alloc (wr.drewN (nq + 1)) _ g hgl).trans HFO.out)); (have fO3 := frozen_of_row w3 g (us.length * 3 + 1) _ _ hO3); (have cO3 := (cell_of_row w3 g (us.length * 3 + 1) _ _ _ hO3).trans ((cell_of_row wr g (us.length * 3 + 1) _ _ _ HFO.out).symm.trans cL)))
              | (go_simp; go_at_call 25; refine (HU.out _).mono ?_; rintro e w' ⟨rfl, rfl⟩))
            all_goals go_wp2_with fail
            all_goals
              go_roundw
              case rel =>
                have hsz3 : wr.heap.size + 1 ≤ w3.heap.size := by have := hgrow3.size; simpa using this
                have hw4 : ∀ q, q ≠ g → (w3.setCell ⟨g, us.length * 3 + 1, none⟩ (.slice (some ⟨g3, 0, none⟩) (s.lines.length + 1) cap)).heap[q]? = w3.heap[q]? := fun q hq => heap_setCell_ne _ _ _ _ hq
                have hg3 : g3 ≠ g := fun e => by
                  rcases hat3 with h | h
                  · exact HGG.out (by rw [← e]; exact h.symm)
                  · omega
                have hO4 : w3.ownsRow w1.heap.size 41 3 (.slice (some ⟨g, 0, none⟩) (us.length + 1) cg) (us.length + 1) (regVals (us ++ [(false, .slice al s.lines.length cl, .slice none 0 0)])) := row_keep HRW.out (fun q hq => by
                  obtain rfl : g = q := by simpa [Value.ownBlock] using hq
                  exact hO3.trans HFO.out.symm)
                have hO5 := row_set hO4 (us.length * 3 + 1) (.slice (some ⟨g3, 0, none⟩) (s.lines.length + 1) cap)
                rw [regVals_set1] at hO5
                have hbw := HBB.out
                refine HNX.out _ _ (lineS s x) false (step_line HIN.out HMK.out) HIN.out (.inl ⟨HIN.out, .inr (more_mode HR.out HA.out hat3 (by omega) (by simp; omega) hO5 (by rw [← HY.out]; exact row_keep hown3 (fun q hq => hw4 q (fun e => hg3 (by
                  obtain rfl : g3 = q := by simpa [Value.ownBlock] using hq
                  exact e)))) ?_)⟩) ?_
                · intro q hq h1 h2
                  exact (hw4 q (fun e => h2 (by rw [e]; rfl))).trans ((hgrow3.block q (by simp; omega) (fun e => h1 e.symm)).trans (Below.heap_alloc (wr.drewN (nq + 1)) _ _ hq))
                · have hgb := (row_block HRW.out (k := g) rfl).1
                  exact ((((below_drewN HBEL.out (nq + 1)).alloc hbw _).grown hgrow3 (by simp; omega) (fun q e => (row_block HOW.out e).1)).setCell (p := ⟨g, us.length * 3 + 1, none⟩) hgb _)
              case measure => simp [intOf]; omega
        · rcases isM_cases hm with rfl | rfl | rfl
          · obtain ⟨φ, us, hR, hl⟩ := flush_mode hmode
            obtain ⟨a7, c7, rfl⟩ := row_slice hR.row
            simp only [List.append_nil] at hR ⊢
            have hus : us.length ≤ 3000 := by
              have h1 := flush_sz s
              have h2 := hR.ulen
              have h3 := HSZ.out
              unfold szS at h1 h3
              omega
            unfold opM at hcell
            have HR := Lib.hid hR
            have HRW := Lib.hid hR.row0
            have HIN := Lib.hid hin
            have HNW := Lib.hid (fun (n : Nat) => show ∀ j u, [Value.bool true, .slice none 0 0, .slice (some ⟨wr.heap.size + 1, 0, none⟩) 1 1][j]? = some u → ((((wr.drewN n).alloc (.cells #[] 9)).alloc (.cells #[.slice (some ⟨wr.heap.size, 0, none⟩) 0 0] 35)).alloc
                (.cells #[.bool true, .slice none 0 0, .slice (some ⟨wr.heap.size + 1, 0, none⟩) 1 1] 41)).cell? ((⟨wr.heap.size + 1 + 1, 0, none⟩ : Addr).add j) = some u from
              World.news_of_block (by
                have := heap_alloc_new (((wr.drewN n).alloc (.cells #[] 9)).alloc (.cells #[.slice (some ⟨wr.heap.size, 0, none⟩) 0 0] 35)) (.cells #[.bool true, .slice none 0 0, .slice (some ⟨wr.heap.size + 1, 0, none⟩) 1 1] 41)
                rw [World.size_alloc, World.size_alloc] at this
                exact this))
            have hun := undef_bool
            clear hR hl hm hin hmode
            go_wp2_with fail
            go_quiet (fail)
            go_wp2_with fail
            refine (marker_any _ _).mono ?_
            rintro e w2 ⟨rfl, rfl⟩
            rw [show isM [60, 60, 60, 60, 60, 60, 60] = true from rfl]
            go_wp2_with (at_builtin; refine wpList_append_lies _ rfl (.tmp 75) (.tmp 79) 22 rfl w1.heap.size 41 i0 (.agg #[.bool false, .slice none 0 0, .slice none 0 0]) 3 56 Tryd.underlying22 hi0 hz0 hz1 hz2 rfl (by decide) (.slice a7 us.length c7) us.length (regVals us) rfl (World.ownsRow.alloc (World.ownsRow.alloc (World.ownsRow.alloc (w := wr.drewN nq) HRW.out _) _) _) ⟨wr.heap.size + 1 + 1, 0, none⟩ 1 1 [.bool true, .slice none 0 0, .slice (some ⟨wr.heap.size + 1, 0, none⟩) 1 1] rfl rfl (HNW.out nq) (by simp [Value.oneCell']) (by decide) (by unfold maxLen; omega) (by omega) (by have := HBEL.out.size; simp; omega) (wr.heap.size + 1 + 1 + 1) (by simp) ?_; intro g cap w3 hown3 hgrow3 hat3 hlt3)
            go_roundw
            case rel =>
              obtain ⟨p1, p2, p3⟩ := alloc3 (wr.drewN nq) (.cells #[] 9) (.cells #[.slice (some ⟨wr.heap.size, 0, none⟩) 0 0] 35) (.cells #[.bool true, .slice none 0 0, .slice (some ⟨wr.heap.size + 1, 0, none⟩) 1 1] 41)
              have hsz3 : wr.heap.size + 1 + 1 + 1 ≤ w3.heap.size := by have := hgrow3.size; simpa using this
              have hrl : ∀ q, wr.heap.size ≤ q → some q ≠ (Value.slice a7 us.length c7).ownBlock := fun q hq e => by have := row_lt HRW.out e.symm; omega
              have hkp : ∀ q, q < wr.heap.size → (Value.slice a7 us.length c7).ownBlock ≠ some q → w3.heap[q]? = wr.heap[q]? := fun q hq hne => (hgrow3.block q (by simp; omega) (fun e => hne e.symm)).trans (p3 q hq)
              refine HNX.out _ w3 (openS s) true (step_open HIN.out) rfl (.inr ⟨rfl, open_mode HR.out hat3 (by omega) (Nat.le_refl wr.heap.size) (by omega) hown3 ?_ ?_ hkp⟩) ?_
              · exact (hgrow3.block _ (by simp; omega) (hrl _ (Nat.le_refl _))).trans p1
              · exact (hgrow3.block _ (by simp) (hrl _ (by omega))).trans p2
              · have hb0 : w1.heap.size ≤ wr.heap.size := HBEL.out.size
                exact ((((below_drewN HBEL.out nq).alloc hb0 _).alloc (by simp; omega) _).alloc (by simp; omega) _).grown hgrow3 (by simp; omega) (fun q e => (row_block HRW.out e).1)
            case measure => simp [intOf]; omega
          · unfold seM at hcell
            have HIN := Lib.hid hin
            clear hin hm hmode
            obtain ⟨a7, n7, c7, rfl⟩ := hv7
            have hun := undef_bool
            go_wp2_with fail
            go_quiet (fail)
            go_wp2_with fail
            refine (marker_any _ _).mono ?_
            rintro e w2 ⟨rfl, rfl⟩
            rw [show isM [61, 61, 61, 61, 61, 61, 61] = true from rfl]
            go_wp2_with fail
            go_ret3
            exact refuse_out (HREF.out (by simp [stepS, HIN.out])) (HB1.out.trans ((below_drewN HBEL.out nq).mono HB1.out.size))
          · unfold clM at hcell
            have HIN := Lib.hid hin
            clear hin hm hmode
            obtain ⟨a7, n7, c7, rfl⟩ := hv7
            have hun := undef_bool
            go_wp2_with fail
            go_quiet (fail)
            go_wp2_with fail
            refine (marker_any _ _).mono ?_
            rintro e w2 ⟨rfl, rfl⟩
            rw [show isM [62, 62, 62, 62, 62, 62, 62] = true from rfl]
            go_wp2_with fail
            go_ret3
            exact refuse_out (HREF.out (by simp [stepS, HIN.out])) (HB1.out.trans ((below_drewN HBEL.out nq).mono HB1.out.size))
      · obtain ⟨φ, us, vs, vd, ss, M⟩ := hmode
        have hrow := M.rs.row
        rw [List.length_append, List.length_singleton] at hrow
        obtain ⟨g, cg, rfl⟩ := ownsRow_succ hrow
        obtain ⟨gs, cs, rfl⟩ := ownsRow_succ M.row
        obtain ⟨ad, cd, rfl⟩ := M.side.strs.slice
        have hus : us.length ≤ 3000 := by
          have h2 := M.rs.ulen
          have h3 := HSZ.out
          unfold szS at h3
          omega
        have hss : ss.length ≤ 3000 := by
          have h2 := M.slen
          have h3 := HSZ.out
          unfold szS at h3
          omega
        have hsd : s.side.length ≤ 3000 := by
          have h3 := HSZ.out
          unfold szS at h3
          omega
        have gO := (regVals_get (us ++ [(true, .slice none 0 0, .slice (some ⟨gs, 0, none⟩) (ss.length + 1) cs)]) us.length (by simp)).2.2
        rw [List.getElem_append_right (Nat.le_refl _)] at gO
        simp only [Nat.sub_self, List.getElem_singleton] at gO
        have cO := World.ownsRow.cells hrow (g := g) rfl _ _ gO
        rw [addr_add, Nat.zero_add] at cO
        have cS := World.ownsRow.cells M.row (g := gs) rfl ss.length (.slice ad s.side.length cd) (by simp)
        rw [addr_add, Nat.zero_add] at cS
        have HROW := Lib.hid hrow
        have HM := Lib.hid M
        have HIN := Lib.hid hin
        clear hrow M gO hin
        rw [HIN.out]
        cases hm : isM x
        · have hm' := not_markers hm
          unfold opM seM clM at hm'
          obtain ⟨m1, m2, m3⟩ := hm'
          have HMK := Lib.hid hm
          have HU := Lib.hid (fun w => ref_unquote_any x w (by omega))
          obtain ⟨y, hy⟩ : ∃ y, y = unquoteL x := ⟨_, rfl⟩
          rw [← hy] at HU
          have HY := Lib.hid hy
          have hgg : some g ≠ (Value.slice ad s.side.length cd).ownBlock := fun e => rows_apart HROW.out HM.out.side (by decide) (k := g) rfl e.symm
          have hggs : some gs ≠ (Value.slice ad s.side.length cd).ownBlock := fun e => rows_apart HM.out.row HM.out.side (by decide) (k := gs) rfl e.symm
          have hne : g ≠ gs := fun e => rows_apart HROW.out HM.out.row (by decide) (k := g) rfl (by rw [e]; rfl)
          have HGL := Lib.hid (row_lt HROW.out (k := g) rfl)
          have HGSL := Lib.hid (row_lt HM.out.row (k := gs) rfl)
          obtain ⟨curO, tO, hfO⟩ := (row_cells HROW.out (k := g) rfl)
          obtain ⟨curS, tS, hfS⟩ := (row_cells HM.out.row (k := gs) rfl)
          have HFO := Lib.hid hfO
          have HFS := Lib.hid hfS
          have HGG := Lib.hid hgg
          have HGGS := Lib.hid hggs
          have HNE := Lib.hid hne
          have HNW := Lib.hid (fun (n : Nat) => show ∀ j u, [strV y][j]? = some u → ((wr.drewN n).alloc (.cells #[strV y] 9)).cell? ((⟨wr.heap.size, 0, none⟩ : Addr).add j) = some u from
            World.news_of_block (heap_alloc_new (wr.drewN n) _))
          have hbne : b ≠ wr.heap.size := by have := World.block_lt_of_cell? wr _ hcell; simp at this; omega
          have hgne : g ≠ wr.heap.size := by have := HGL.out; omega
          have hgsne : gs ≠ wr.heap.size := by have := HGSL.out; omega
          have hb1 : b < w1.heap.size := by
            obtain ⟨b', off', e, hc'⟩ := HST.out.elem hlt0
            cases e
            have := World.block_lt_of_cell? w1 _ hc'
            simpa using this
          have HBNE := Lib.hid (show b ≠ gs from by have := (row_block HM.out.row (k := gs) rfl).1; omega)
          have hbl : b < wr.heap.size := by have := World.block_lt_of_cell? wr _ hcell; simpa using this
          have hgl := HGL.out
          have hgsl := HGSL.out
          have hun := undef_bool
          have hib : (us.length : Int) < (us.length : Int) + 1 := by omega
          have his : (ss.length : Int) < (ss.length : Int) + 1 := by omega
          clear hgg hggs hne hfO hfS hm hy
          go_wp2_with fail
          go_quiet (fail)
          go_wp2_with fail
          refine (marker_any _ _).mono ?_
          rintro e w2 ⟨rfl, rfl⟩
          rw [HMK.out]
          go_wp2_with fail
          have kS : ((wr.drewN (nq + 1)).alloc (.cells #[.string (B y)] 9)).cell? ⟨gs, ss.length, none⟩ = some (.slice ad s.side.length cd) := (World.cell?_alloc_lt (wr.drewN (nq + 1)) _ _ hgsl).trans cS
          have kO : ((wr.drewN (nq + 1)).alloc (.cells #[.string (B y)] 9)).cell? ⟨g, us.length * 3 + 2, none⟩ = some (.slice (some ⟨gs, 0, none⟩) (ss.length + 1) cs) := (World.cell?_alloc_lt (wr.drewN (nq + 1)) _ _ hgl).trans cO
          have kb : ((wr.drewN (nq + 1)).alloc (.cells #[.string (B y)] 9)).cell? ⟨b, off + k, none⟩ = some (.string (B x)) := (World.cell?_alloc_lt (wr.drewN (nq + 1)) _ _ hbl).trans hcell
          refine wp_region_last (S := (fun w' => w'.cell? ⟨g, us.length * 3 + 2, none⟩ = some (.slice (some ⟨gs, 0, none⟩) (ss.length + 1) cs) ∧ w'.cell? ⟨gs, ss.length, none⟩ = some (.slice ad s.side.length cd) ∧ w'.cell? ⟨b, off + k, none⟩ = some (.string (B x)))) (by kernel_rfl) ⟨cO, cS, hcell⟩ (fun hH => ?_)
          rw [show (wr.drewN nq).drew = wr.drewN (nq + 1) from rfl] at hH ⊢
          refine wpAnyL_take (i := 0) (oi := ({ dst := some 105, op := Op.move (Operand.tmp 7), type := 22, pos := "ref.go:169", after := #[], guard := none } : Oper)) (v := ?_) rfl (by kernel_rfl) (by kernel_rfl) (by kernel_rfl) (by kernel_rfl) (fun _ _ _ h => h) hH (Or.inl ⟨by rfl, ?_⟩) (fun hH2 => ?_)
          rotate_left
          · (intro wq hSq; (try dsimp only at hSq); go_simp; try with_reducible rfl)
          clear hH; have hH := hH2; clear hH2
          (try simp only [Act.put, List.setIfInBounds_toArray, List.set_cons_zero, List.set_cons_succ])
          refine wpAnyL_take (i := 1) (oi := ({ dst := some 106, op := Op.move (Operand.tmp 10), type := 3, pos := "ref.go:169", after := #[], guard := none } : Oper)) (v := ?_) rfl (by kernel_rfl) (by kernel_rfl) (by kernel_rfl) (by kernel_rfl) (fun _ _ _ h => h) hH (Or.inl ⟨by rfl, ?_⟩) (fun hH2 => ?_)
          rotate_left
          · (intro wq hSq; (try dsimp only at hSq); go_simp; try with_reducible rfl)
          clear hH; have hH := hH2; clear hH2
          (try simp only [Act.put, List.setIfInBounds_toArray, List.set_cons_zero, List.set_cons_succ])
          refine wpAnyL_take (i := 2) (oi := ({ dst := some 107, op := Op.indexAddr 22 (Operand.tmp 105) (Operand.tmp 106), type := 0, pos := "ref.go:169", after := #[{ on := 0, ground := Ground.data }, { on := 1, ground := Ground.data }], guard := none } : Oper)) (v := ?_) rfl (by kernel_rfl) (by kernel_rfl) (by kernel_rfl) (by kernel_rfl) (fun _ _ _ h => h) hH (Or.inl ⟨by rfl, ?_⟩) (fun hH2 => ?_)
          rotate_left
          · (intro wq hSq; (try dsimp only at hSq); go_simp; try with_reducible rfl)
          clear hH; have hH := hH2; clear hH2
          (try simp only [Act.put, List.setIfInBounds_toArray, List.set_cons_zero, List.set_cons_succ])
          refine wpAnyL_take (i := 3) (oi := ({ dst := some 108, op := Op.fieldAddr 41 (Operand.tmp 107) 2, type := 0, pos := "ref.go:169", after := #[{ on := 2, ground := Ground.data }], guard := none } : Oper)) (v := ?_) rfl (by kernel_rfl) (by kernel_rfl) (by kernel_rfl) (by kernel_rfl) (fun _ _ _ h => h) hH (Or.inl ⟨by rfl, ?_⟩) (fun hH2 => ?_)
          rotate_left
          · (intro wq hSq; (try dsimp only at hSq); go_simp; try with_reducible rfl)
          clear hH; have hH := hH2; clear hH2
          (try simp only [Act.put, List.setIfInBounds_toArray, List.set_cons_zero, List.set_cons_succ])
          refine wpAnyL_take (i := 4) (oi := ({ dst := some 109, op := Op.load 39 (Operand.tmp 108), type := 39, pos := "ref.go:169", after := #[{ on := 3, ground := Ground.data }], guard := none } : Oper)) (v := ?_) rfl (by kernel_rfl) (by kernel_rfl) (by kernel_rfl) (by kernel_rfl) (fun _ _ _ h => h) hH (Or.inl ⟨by rfl, ?_⟩) (fun hH2 => ?_)
          rotate_left
          · (intro wq hSq; (try dsimp only at hSq); go_simp; try with_reducible rfl)
          clear hH; have hH := hH2; clear hH2
          (try simp only [Act.put, List.setIfInBounds_toArray, List.set_cons_zero, List.set_cons_succ])
          refine wpAnyL_take (i := 5) (oi := ({ dst := some 110, op := Op.move (Operand.tmp 12), type := 3, pos := "ref.go:169", after := #[], guard := none } : Oper)) (v := ?_) rfl (by kernel_rfl) (by kernel_rfl) (by kernel_rfl) (by kernel_rfl) (fun _ _ _ h => h) hH (Or.inl ⟨by rfl, ?_⟩) (fun hH2 => ?_)
          rotate_left
          · (intro wq hSq; (try dsimp only at hSq); go_simp; try with_reducible rfl)
          clear hH; have hH := hH2; clear hH2
          (try simp only [Act.put, List.setIfInBounds_toArray, List.set_cons_zero, List.set_cons_succ])
          refine wpAnyL_take (i := 6) (oi := ({ dst := some 111, op := Op.move (Operand.tmp 7), type := 22, pos := "ref.go:169", after := #[], guard := none } : Oper)) (v := ?_) rfl (by kernel_rfl) (by kernel_rfl) (by kernel_rfl) (by kernel_rfl) (fun _ _ _ h => h) hH (Or.inl ⟨by rfl, ?_⟩) (fun hH2 => ?_)
          rotate_left
          · (intro wq hSq; (try dsimp only at hSq); go_simp; try with_reducible rfl)
          clear hH; have hH := hH2; clear hH2
          (try simp only [Act.put, List.setIfInBounds_toArray, List.set_cons_zero, List.set_cons_succ])
          refine wpAnyL_take (i := 7) (oi := ({ dst := some 112, op := Op.move (Operand.tmp 10), type := 3, pos := "ref.go:169", after := #[], guard := none } : Oper)) (v := ?_) rfl (by kernel_rfl) (by kernel_rfl) (by kernel_rfl) (by kernel_rfl) (fun _ _ _ h => h) hH (Or.inl ⟨by rfl, ?_⟩) (fun hH2 => ?_)
          rotate_left
          · (intro wq hSq; (try dsimp only at hSq); go_simp; try with_reducible rfl)
          clear hH; have hH := hH2; clear hH2
          (try simp only [Act.put, List.setIfInBounds_toArray, List.set_cons_zero, List.set_cons_succ])
          refine wpAnyL_take (i := 8) (oi := ({ dst := some 113, op := Op.indexAddr 22 (Operand.tmp 111) (Operand.tmp 112), type := 0, pos := "ref.go:169", after := #[{ on := 6, ground := Ground.data }, { on := 7, ground := Ground.data }], guard := none } : Oper)) (v := ?_) rfl (by kernel_rfl) (by kernel_rfl) (by kernel_rfl) (by kernel_rfl) (fun _ _ _ h => h) hH (Or.inl ⟨by rfl, ?_⟩) (fun hH2 => ?_)
          rotate_left
          · (intro wq hSq; (try dsimp only at hSq); go_simp; try with_reducible rfl)
          clear hH; have hH := hH2; clear hH2
          (try simp only [Act.put, List.setIfInBounds_toArray, List.set_cons_zero, List.set_cons_succ])
          refine wpAnyL_take (i := 9) (oi := ({ dst := some 114, op := Op.fieldAddr 41 (Operand.tmp 113) 2, type := 0, pos := "ref.go:169", after := #[{ on := 8, ground := Ground.data }], guard := none } : Oper)) (v := ?_) rfl (by kernel_rfl) (by kernel_rfl) (by kernel_rfl) (by kernel_rfl) (fun _ _ _ h => h) hH (Or.inl ⟨by rfl, ?_⟩) (fun hH2 => ?_)
          rotate_left
          · (intro wq hSq; (try dsimp only at hSq); go_simp; try with_reducible rfl)
          clear hH; have hH := hH2; clear hH2
          (try simp only [Act.put, List.setIfInBounds_toArray, List.set_cons_zero, List.set_cons_succ])
          refine wpAnyL_take (i := 10) (oi := ({ dst := some 115, op := Op.load 39 (Operand.tmp 114), type := 39, pos := "ref.go:169", after := #[{ on := 9, ground := Ground.data }], guard := none } : Oper)) (v := ?_) rfl (by kernel_rfl) (by kernel_rfl) (by kernel_rfl) (by kernel_rfl) (fun _ _ _ h => h) hH (Or.inl ⟨by rfl, ?_⟩) (fun hH2 => ?_)
          rotate_left
          · (intro wq hSq; (try dsimp only at hSq); go_simp; try with_reducible rfl)
          clear hH; have hH := hH2; clear hH2
          (try simp only [Act.put, List.setIfInBounds_toArray, List.set_cons_zero, List.set_cons_succ])
          refine wpAnyL_take (i := 11) (oi := ({ dst := some 116, op := Op.move (Operand.tmp 12), type := 3, pos := "ref.go:169", after := #[], guard := none } : Oper)) (v := ?_) rfl (by kernel_rfl) (by kernel_rfl) (by kernel_rfl) (by kernel_rfl) (fun _ _ _ h => h) hH (Or.inl ⟨by rfl, ?_⟩) (fun hH2 => ?_)
          rotate_left
          · (intro wq hSq; (try dsimp only at hSq); go_simp; try with_reducible rfl)
          clear hH; have hH := hH2; clear hH2
          (try simp only [Act.put, List.setIfInBounds_toArray, List.set_cons_zero, List.set_cons_succ])
          refine wpAnyL_take (i := 12) (oi := ({ dst := some 117, op := Op.indexAddr 39 (Operand.tmp 115) (Operand.tmp 116), type := 0, pos := "ref.go:169", after := #[{ on := 10, ground := Ground.data }, { on := 11, ground := Ground.data }], guard := none } : Oper)) (v := ?_) rfl (by kernel_rfl) (by kernel_rfl) (by kernel_rfl) (by kernel_rfl) (fun _ _ _ h => h) hH (Or.inl ⟨by rfl, ?_⟩) (fun hH2 => ?_)
          rotate_left
          · (intro wq hSq; (try dsimp only at hSq); go_simp; try with_reducible rfl)
          clear hH; have hH := hH2; clear hH2
          (try simp only [Act.put, List.setIfInBounds_toArray, List.set_cons_zero, List.set_cons_succ])
          refine wpAnyL_take (i := 13) (oi := ({ dst := some 118, op := Op.load 35 (Operand.tmp 117), type := 35, pos := "ref.go:169", after := #[{ on := 12, ground := Ground.data }], guard := none } : Oper)) (v := ?_) rfl (by kernel_rfl) (by kernel_rfl) (by kernel_rfl) (by kernel_rfl) (fun _ _ _ h => h) hH (Or.inl ⟨by rfl, ?_⟩) (fun hH2 => ?_)
          rotate_left
          · (intro wq hSq; (try dsimp only at hSq); go_simp; try with_reducible rfl)
          clear hH; have hH := hH2; clear hH2
          (try simp only [Act.put, List.setIfInBounds_toArray, List.set_cons_zero, List.set_cons_succ])
          refine wpAnyL_take (i := 14) (oi := ({ dst := some 119, op := Op.move (Operand.tmp 5), type := 35, pos := "ref.go:169", after := #[], guard := none } : Oper)) (v := ?_) rfl (by kernel_rfl) (by kernel_rfl) (by kernel_rfl) (by kernel_rfl) (fun _ _ _ h => h) hH (Or.inl ⟨by rfl, ?_⟩) (fun hH2 => ?_)
          rotate_left
          · (intro wq hSq; (try dsimp only at hSq); go_simp; try with_reducible rfl)
          clear hH; have hH := hH2; clear hH2
          (try simp only [Act.put, List.setIfInBounds_toArray, List.set_cons_zero, List.set_cons_succ])
          refine wpAnyL_take (i := 15) (oi := ({ dst := some 120, op := Op.move (Operand.tmp 9), type := 3, pos := "ref.go:169", after := #[], guard := none } : Oper)) (v := ?_) rfl (by kernel_rfl) (by kernel_rfl) (by kernel_rfl) (by kernel_rfl) (fun _ _ _ h => h) hH (Or.inl ⟨by rfl, ?_⟩) (fun hH2 => ?_)
          rotate_left
          · (intro wq hSq; (try dsimp only at hSq); go_simp; try with_reducible rfl)
          clear hH; have hH := hH2; clear hH2
          (try simp only [Act.put, List.setIfInBounds_toArray, List.set_cons_zero, List.set_cons_succ])
          refine wpAnyL_take (i := 16) (oi := ({ dst := some 121, op := Op.indexAddr 35 (Operand.tmp 119) (Operand.tmp 120), type := 0, pos := "ref.go:169", after := #[{ on := 14, ground := Ground.data }, { on := 15, ground := Ground.data }], guard := none } : Oper)) (v := ?_) rfl (by kernel_rfl) (by kernel_rfl) (by kernel_rfl) (by kernel_rfl) (fun _ _ _ h => h) hH (Or.inl ⟨by rfl, ?_⟩) (fun hH2 => ?_)
          rotate_left
          · (intro wq hSq; (try dsimp only at hSq); go_simp; try with_reducible rfl)
          clear hH; have hH := hH2; clear hH2
          (try simp only [Act.put, List.setIfInBounds_toArray, List.set_cons_zero, List.set_cons_succ])
          refine wpAnyL_take (i := 17) (oi := ({ dst := some 122, op := Op.load 9 (Operand.tmp 121), type := 9, pos := "ref.go:169", after := #[{ on := 16, ground := Ground.data }], guard := none } : Oper)) (v := ?_) rfl (by kernel_rfl) (by kernel_rfl) (by kernel_rfl) (by kernel_rfl) (fun _ _ _ h => h) hH (Or.inl ⟨by rfl, ?_⟩) (fun hH2 => ?_)
          rotate_left
          · (intro wq hSq; (try dsimp only at hSq); go_simp; try with_reducible rfl)
          clear hH; have hH := hH2; clear hH2
          (try simp only [Act.put, List.setIfInBounds_toArray, List.set_cons_zero, List.set_cons_succ])
          refine wpAnyL_mid (i := 18) (oi := ({ dst := some 123, op := Op.call { callee := Callee.value (Operand.func 25), args := #[Operand.tmp 122], argTypes := #[9] }, type := 9, pos := "ref.go:169", after := #[{ on := 17, ground := Ground.data }], guard := none } : Oper)) rfl (by kernel_rfl) rfl hH (fun K hK => ?_)
          go_simp
          go_at_call 25
          refine (HU.out _).mono ?_
          rintro e w' ⟨rfl, rfl⟩
          try dsimp only
          refine hK _ _ hH.1 (fun hH2 => ?_)
          clear hH hK K; have hH := hH2; clear hH2
          (try simp only [Act.put, List.setIfInBounds_toArray, List.set_cons_zero, List.set_cons_succ])
          refine wpAnyL_mid (i := 19) (oi := ({ dst := some 124, op := Op.buildSlice 35 1 #[(0, Operand.tmp 123)], type := 35, pos := "ref.go:169", after := #[{ on := 18, ground := Ground.data }], guard := none } : Oper)) rfl (by kernel_rfl) rfl hH (fun K hK => ?_)
          go_simp
          refine hK _ _ ⟨kO, kS, kb⟩ (fun hH2 => ?_)
          clear hH hK K; have hH := hH2; clear hH2
          (try simp only [Act.put, List.setIfInBounds_toArray, List.set_cons_zero, List.set_cons_succ])
          refine wpAnyL_mid (i := 20) (oi := ({ dst := some 125, op := Op.call { callee := Callee.builtin Builtin.append, args := #[Operand.tmp 118, Operand.tmp 124], argTypes := #[35, 35] }, type := 35, pos := "ref.go:169", after := #[{ on := 13, ground := Ground.data }, { on := 19, ground := Ground.data }, { on := 18, ground := Ground.chain }], guard := none } : Oper)) rfl (by kernel_rfl) rfl hH (fun K hK => ?_)
          refine wp_append_lies ((wr.drewN (nq + 1)).alloc (.cells #[strV y] 9)) (.tmp 118) (.tmp 124) 35 rfl w1.heap.size 9 q0 (.string ⟨#[]⟩) 1 16 Tryd.underlying35 hq0 hx0 hx1 hx2 rfl (by decide) (.slice ad s.side.length cd) s.side.length (s.side.map strV) (by simp [Act.eval]) (World.ownsRow.alloc (w := wr.drewN (nq + 1)) HM.out.side _) ⟨wr.heap.size, 0, none⟩ 1 1 [strV y] (by simp [Act.eval]) rfl (HNW.out (nq + 1)) (by simp [strV, Value.oneCell']) (by omega) (by unfold maxLen; omega) (by omega) (by have := HBEL.out.size; simp; omega) (wr.heap.size + 1) (by simp) ?_
          intro g3 cap w3 hown3 hgrow3 hat3 hlt3
          have hO3 := (hgrow3.block g (by have := HGL.out; simp; omega) HGG.out).trans ((Below.heap_alloc (wr.drewN (nq + 1)) _ g HGL.out).trans HFO.out)
          have hS3 := (hgrow3.block gs (by have := HGSL.out; simp; omega) HGGS.out).trans ((Below.heap_alloc (wr.drewN (nq + 1)) _ gs HGSL.out).trans HFS.out)
          have fS3 := frozen_of_row w3 gs ss.length _ _ hS3
          have cO3 := (cell_of_row w3 g (us.length * 3 + 2) _ _ _ hO3).trans ((cell_of_row wr g (us.length * 3 + 2) _ _ _ HFO.out).symm.trans cO)
          have cS3 := (cell_of_row w3 gs ss.length _ _ _ hS3).trans ((cell_of_row wr gs ss.length _ _ _ HFS.out).symm.trans cS)
          have cb3 : w3.cell? ⟨b, off + k, none⟩ = some (.string (B x)) := (hgrow3.cell_far ⟨b, off + k, none⟩ (by simp; omega) (fun e => by have := (row_block HM.out.side e.symm).1; simp at this; omega)).trans kb
          refine hK _ _ ⟨cO3, cS3, cb3⟩ (fun hH2 => ?_)
          clear hH hK K; have hH := hH2; clear hH2
          (try simp only [Act.put, List.setIfInBounds_toArray, List.set_cons_zero, List.set_cons_succ])
          refine wpAnyL_take (i := 21) (oi := ({ dst := some 126, op := Op.indexAddr 39 (Operand.tmp 109) (Operand.tmp 110), type := 0, pos := "ref.go:169", after := #[{ on := 4, ground := Ground.data }, { on := 5, ground := Ground.data }, { on := 0, ground := Ground.phase }, { on := 1, ground := Ground.phase }, { on := 2, ground := Ground.phase }, { on := 3, ground := Ground.phase }, { on := 4, ground := Ground.phase }, { on := 5, ground := Ground.phase }, { on := 6, ground := Ground.phase }, { on := 7, ground := Ground.phase }, { on := 8, ground := Ground.phase }, { on := 9, ground := Ground.phase }, { on := 10, ground := Ground.phase }, { on := 11, ground := Ground.phase }, { on := 12, ground := Ground.phase }, { on := 13, ground := Ground.phase }, { on := 14, ground := Ground.phase }, { on := 15, ground := Ground.phase }, { on := 16, ground := Ground.phase }, { on := 17, ground := Ground.phase }, { on := 18, ground := Ground.phase }, { on := 19, ground := Ground.phase }, { on := 20, ground := Ground.phase }], guard := none } : Oper)) (v := ?_) rfl (by kernel_rfl) (by kernel_rfl) (by kernel_rfl) (by kernel_rfl) (fun _ _ _ h => h) hH (Or.inl ⟨by rfl, ?_⟩) (fun hH2 => ?_)
          rotate_left
          · (intro wq hSq; (try dsimp only at hSq); go_simp; try with_reducible rfl)
          clear hH; have hH := hH2; clear hH2
          (try simp only [Act.put, List.setIfInBounds_toArray, List.set_cons_zero, List.set_cons_succ])
          refine wpAnyL_end (i := 22) (oi := ({ dst := none, op := Op.store 35 (Operand.tmp 126) (Operand.tmp 125), type := 0, pos := "ref.go:169", after := #[{ on := 21, ground := Ground.data }, { on := 20, ground := Ground.data }, { on := 20, ground := Ground.chain }, { on := 0, ground := Ground.phase }, { on := 1, ground := Ground.phase }, { on := 2, ground := Ground.phase }, { on := 3, ground := Ground.phase }, { on := 4, ground := Ground.phase }, { on := 5, ground := Ground.phase }, { on := 6, ground := Ground.phase }, { on := 7, ground := Ground.phase }, { on := 8, ground := Ground.phase }, { on := 9, ground := Ground.phase }, { on := 10, ground := Ground.phase }, { on := 11, ground := Ground.phase }, { on := 12, ground := Ground.phase }, { on := 13, ground := Ground.phase }, { on := 14, ground := Ground.phase }, { on := 15, ground := Ground.phase }, { on := 16, ground := Ground.phase }, { on := 17, ground := Ground.phase }, { on := 18, ground := Ground.phase }, { on := 19, ground := Ground.phase }, { on := 20, ground := Ground.phase }], guard := none } : Oper)) rfl (by kernel_rfl) rfl rfl (by kernel_rfl) ?_
          clear hH
          go_simp
          all_goals go_wp2_with fail
          all_goals
            go_roundw
            case rel =>
              have hsz3 : wr.heap.size + 1 ≤ w3.heap.size := by have := hgrow3.size; simpa using this
              have hw4 : ∀ q, q ≠ gs → (w3.setCell ⟨gs, ss.length, none⟩ (.slice (some ⟨g3, 0, none⟩) (s.side.length + 1) cap)).heap[q]? = w3.heap[q]? := fun q hq => heap_setCell_ne _ _ _ _ hq
              have hg3 : g3 ≠ gs := fun e => by
                rcases hat3 with h | h
                · exact HGGS.out (by rw [← e]; exact h.symm)
                · have := HGSL.out; omega
              have hS4 : w3.ownsRow w1.heap.size 35 1 (.slice (some ⟨gs, 0, none⟩) (ss.length + 1) cs) (ss.length + 1) (ss ++ [.slice ad s.side.length cd]) := row_keep HM.out.row (fun q hq => by
                obtain rfl : gs = q := by simpa [Value.ownBlock] using hq
                exact hS3.trans HFS.out.symm)
              have hS5 := row_set hS4 ss.length (.slice (some ⟨g3, 0, none⟩) (s.side.length + 1) cap)
              rw [List.set_append_right _ _ (Nat.le_refl _), Nat.sub_self] at hS5
              have hb0 : w1.heap.size ≤ wr.heap.size := HBEL.out.size
              refine HNX.out _ _ (sideS s x) true (step_side HIN.out HMK.out) HIN.out (.inr ⟨HIN.out, side_mode HM.out hat3 (by omega) (by simp; omega) (row_keep HROW.out (fun q hq => ?_)) hS5 (by rw [← HY.out]; exact row_keep hown3 (fun q hq => hw4 q (fun e => hg3 (by
                obtain rfl : g3 = q := by simpa [Value.ownBlock] using hq
                exact e)))) ?_⟩) ?_
              · obtain rfl : g = q := by simpa [Value.ownBlock] using hq
                exact (hw4 _ HNE.out).trans (hO3.trans HFO.out.symm)
              · intro q hq h1 h2
                exact (hw4 q (fun e => h2 (by rw [e]; rfl))).trans ((hgrow3.block q (by simp; omega) (fun e => h1 e.symm)).trans (Below.heap_alloc (wr.drewN (nq + 1)) _ _ hq))
              · have hgb := (row_block HM.out.row (k := gs) rfl).1
                exact ((((below_drewN HBEL.out (nq + 1)).alloc hb0 _).grown hgrow3 (by simp; omega) (fun q e => (row_block HM.out.side e).1)).setCell (p := ⟨gs, ss.length, none⟩) hgb _)
            case measure => simp [intOf]; omega
        · rcases isM_cases hm with rfl | rfl | rfl
          · unfold opM at hcell
            clear hm
            have hun := undef_bool
            go_wp2_with fail
            go_quiet (fail)
            go_wp2_with fail
            refine (marker_any _ _).mono ?_
            rintro e w2 ⟨rfl, rfl⟩
            rw [show isM [60, 60, 60, 60, 60, 60, 60] = true from rfl]
            go_wp2_with fail
            go_ret3
            exact refuse_out (HREF.out (by simp [stepS, HIN.out])) (HB1.out.trans ((below_drewN HBEL.out nq).mono HB1.out.size))
          · cases he : s.side.isEmpty
            · have hz : ((s.side.length : Int) == 0) = false := by rw [zero_dec]; exact he
              have hpos := len_pos he
              have HE := Lib.hid he
              clear he
              have hgg : some g ≠ (Value.slice (some ⟨gs, 0, none⟩) (ss.length + 1) cs).ownBlock := fun e => rows_apart HROW.out HM.out.row (by decide) (k := g) rfl e.symm
              have hgl := row_lt HROW.out (k := g) rfl
              have hfO := (row_cells HROW.out (k := g) rfl)
              obtain ⟨curO, tO, hfO⟩ := hfO
              have HFO := Lib.hid hfO
              have HGG := Lib.hid hgg
              have HNW := Lib.hid (fun (n : Nat) => show ∀ j u, [Value.slice (some ⟨wr.heap.size, 0, none⟩) 0 0][j]? = some u → (((wr.drewN n).alloc (.cells #[] 9)).alloc (.cells #[.slice (some ⟨wr.heap.size, 0, none⟩) 0 0] 35)).cell? ((⟨wr.heap.size + 1, 0, none⟩ : Addr).add j) = some u from
                World.news_of_block (by
                  have := heap_alloc_new ((wr.drewN n).alloc (.cells #[] 9)) (.cells #[.slice (some ⟨wr.heap.size, 0, none⟩) 0 0] 35)
                  rw [World.size_alloc] at this
                  exact this))
              clear hgg hfO
              unfold seM at hcell
              clear hm
              have hun := undef_bool
              go_wp2_with fail
              go_quiet (fail)
              go_wp2_with fail
              refine (marker_any _ _).mono ?_
              rintro e w2 ⟨rfl, rfl⟩
              rw [show isM [61, 61, 61, 61, 61, 61, 61] = true from rfl]
              go_wp2_with (at_builtin; refine wpList_append_lies _ rfl (.tmp 89) (.tmp 91) 39 rfl w1.heap.size 35 j0 (.slice none 0 0) 1 24 Tryd.underlying39 hj0 hy0 hy1 hy2 rfl (by decide) (.slice (some ⟨gs, 0, none⟩) (ss.length + 1) cs) (ss.length + 1) (ss ++ [.slice ad s.side.length cd]) rfl (World.ownsRow.alloc (World.ownsRow.alloc (w := wr.drewN nq) HM.out.row _) _) ⟨wr.heap.size + 1, 0, none⟩ 1 1 [.slice (some ⟨wr.heap.size, 0, none⟩) 0 0] rfl rfl (HNW.out nq) (by simp [Value.oneCell']) (by decide) (by unfold maxLen; omega) (by omega) (by have := HBEL.out.size; simp; omega) (wr.heap.size + 1 + 1) (by simp) ?_; intro g3 cap w3 hown3 hgrow3 hat3 hlt3; (have hO3 := (hgrow3.block g (by simp; omega) HGG.out).trans ((Below.heap_alloc _ _ g (by simp; omega)).trans ((Below.heap_alloc (wr.drewN nq) _ g hgl).trans HFO.out))); (have fO3 := frozen_of_row w3 g (us.length * 3 + 2) _ _ hO3); (have cO3 := (cell_of_row w3 g (us.length * 3 + 2) _ _ _ hO3).trans ((cell_of_row wr g (us.length * 3 + 2) _ _ _ HFO.out).symm.trans cO)))
              go_roundw
              case rel =>
                have p1 : (((wr.drewN nq).alloc (.cells #[] 9)).alloc (.cells #[.slice (some ⟨wr.heap.size, 0, none⟩) 0 0] 35)).heap[wr.heap.size]? = some (.cells #[] 9 (0, 0)) := (Below.heap_alloc _ _ _ (by simp)).trans (heap_alloc_new (wr.drewN nq) _)
                have p3 : ∀ q, q < wr.heap.size → (((wr.drewN nq).alloc (.cells #[] 9)).alloc (.cells #[.slice (some ⟨wr.heap.size, 0, none⟩) 0 0] 35)).heap[q]? = wr.heap[q]? := fun q hq => (Below.heap_alloc _ _ _ (by simp; omega)).trans (Below.heap_alloc (wr.drewN nq) _ _ hq)
                have hsz3 : wr.heap.size + 1 + 1 ≤ w3.heap.size := by have := hgrow3.size; simpa using this
                have hgsl := row_lt HM.out.row (k := gs) rfl
                have hrl : ∀ q, wr.heap.size ≤ q → some q ≠ (Value.slice (some ⟨gs, 0, none⟩) (ss.length + 1) cs).ownBlock := fun q hq e => by have := row_lt HM.out.row e.symm; omega
                have hne : ∀ q, q ≠ g → (w3.setCell ⟨g, us.length * 3 + 2, none⟩ (.slice (some ⟨g3, 0, none⟩) (ss.length + 1 + 1) cap)).heap[q]? = w3.heap[q]? := fun q hq => heap_setCell_ne _ _ _ _ hq
                have hg3 : g3 ≠ g := fun e => by
                  rcases hat3 with h | h
                  · exact HGG.out (by rw [← e]; exact h.symm)
                  · omega
                have hO4 : w3.ownsRow w1.heap.size 41 3 (.slice (some ⟨g, 0, none⟩) (us.length + 1) cg) (us.length + 1) (regVals (us ++ [(true, .slice none 0 0, .slice (some ⟨gs, 0, none⟩) (ss.length + 1) cs)])) := row_keep HROW.out (fun q hq => by
                  obtain rfl : g = q := by simpa [Value.ownBlock] using hq
                  exact hO3.trans HFO.out.symm)
                have hO5 := row_set hO4 (us.length * 3 + 2) (.slice (some ⟨g3, 0, none⟩) (ss.length + 1 + 1) cap)
                rw [regVals_set2] at hO5
                have hb0 : w1.heap.size ≤ wr.heap.size := HBEL.out.size
                refine HNX.out _ _ (sepS s) true (step_sep HIN.out HE.out) HIN.out (.inr ⟨HIN.out, next_mode HM.out hat3 (by omega) (Nat.le_refl wr.heap.size) (by simp; omega) hO5 (row_keep hown3 (fun q hq => hne q (fun e => hg3 (by
                  obtain rfl : g3 = q := by simpa [Value.ownBlock] using hq
                  exact e)))) ?_ ?_⟩) ?_
                · exact (hne _ (by omega)).trans ((hgrow3.block _ (by simp; omega) (hrl _ (Nat.le_refl _))).trans p1)
                · intro q hq h1 h2
                  exact (hne q (fun e => h2 (by rw [e]; rfl))).trans ((hgrow3.block q (by simp; omega) (fun e => h1 e.symm)).trans (p3 q hq))
                · have hgb := (row_block HROW.out (k := g) rfl).1
                  exact (((((below_drewN HBEL.out nq).alloc hb0 _).alloc (by simp; omega) _).grown hgrow3 (by simp; omega) (fun q e => (row_block HM.out.row e).1)).setCell (p := ⟨g, us.length * 3 + 2, none⟩) hgb _)
              case measure => simp [intOf]; omega
            · have hz := len_zero he
              rw [hz] at cS
              have HE := Lib.hid he
              clear hz he
              unfold seM at hcell
              clear hm
              have hun := undef_bool
              go_wp2_with fail
              go_quiet (fail)
              go_wp2_with fail
              refine (marker_any _ _).mono ?_
              rintro e w2 ⟨rfl, rfl⟩
              rw [show isM [61, 61, 61, 61, 61, 61, 61] = true from rfl]
              go_wp2_with fail
              go_ret3
              exact refuse_out (HREF.out (by simp [stepS, HIN.out, HE.out, show (seM == opM) = false from by decide])) (HB1.out.trans ((below_drewN HBEL.out nq).mono HB1.out.size))
          · cases he : s.side.isEmpty
            · have hz : ((s.side.length : Int) == 0) = false := by rw [zero_dec]; exact he
              have hpos := len_pos he
              have HE := Lib.hid he
              clear he
              unfold clM at hcell
              clear hm
              have hun := undef_bool
              go_wp2_with fail
              go_quiet (fail)
              go_wp2_with fail
              refine (marker_any _ _).mono ?_
              rintro e w2 ⟨rfl, rfl⟩
              rw [show isM [62, 62, 62, 62, 62, 62, 62] = true from rfl]
              go_wp2_with fail
              go_roundw
              case rel => exact HNX.out _ _ (closeS (sepS s)) false (step_close HIN.out HE.out) rfl (.inl ⟨rfl, .inl (modeA_drew (close_mode ⟨_, _, _, _, _, HM.out⟩) nq)⟩) (below_drewN HBEL.out nq)
              case measure => simp [intOf]; omega
            · have hz := len_zero he
              rw [hz] at cS
              have HE := Lib.hid he
              clear hz he
              unfold clM at hcell
              clear hm
              have hun := undef_bool
              go_wp2_with fail
              go_quiet (fail)
              go_wp2_with fail
              refine (marker_any _ _).mono ?_
              rintro e w2 ⟨rfl, rfl⟩
              rw [show isM [62, 62, 62, 62, 62, 62, 62] = true from rfl]
              go_wp2_with fail
              go_ret3
              exact refuse_out (HREF.out (by simp [stepS, HIN.out, HE.out, show (clM == opM) = false from by decide, show (clM == seM) = false from by decide])) (HB1.out.trans ((below_drewN HBEL.out nq).mono HB1.out.size))
    · have hke : (splitL l).1.take k = (splitL l).1 := List.take_of_length_le (by omega)
      have HPL := Lib.hid (show parseL l = endL (splitL l).1.length (runL s0 0 (splitL l).1).1 from by
        have h1 := HRUN.out
        rw [hke] at h1
        unfold parseL
        rw [if_pos HS.out, if_pos h1])
      have HBW := Lib.hid (HB1.out.trans (HBEL.out.mono HB1.out.size))
      rw [hke] at hinv ⊢
      generalize (runL s0 0 (splitL l).1).1 = s at hinv HPL ⊢
      rcases hinv with ⟨hin, hmode⟩ | ⟨hin, hmode⟩
      · have HM := Lib.hid (flush_mode hmode)
        have HPP := Lib.hid (show parseL l = ((flushS s).out, 0, 0) from by rw [HPL.out]; unfold endL; rw [hin]; rfl)
        rw [hin]
        clear hin hmode
        go_wp2_with fail
        go_ret3
        obtain ⟨φ, us, hR, _⟩ := HM.out
        unfold ParseOut
        rw [HPP.out]
        exact ⟨_, rfl, mode_regs hR, HBW.out⟩
      · have HPP := Lib.hid (show parseL l = ([], (splitL l).1.length + 1, 3) from by rw [HPL.out]; unfold endL; rw [hin]; rfl)
        rw [hin]
        clear hin hmode
        go_wp2_with fail
        go_ret3
        unfold ParseOut
        rw [HPP.out]
        exact ⟨_, by simp, regs_nil _ _, HBW.out⟩
end Go.Proofs.YtbdekdhdkdjejaaDoor
