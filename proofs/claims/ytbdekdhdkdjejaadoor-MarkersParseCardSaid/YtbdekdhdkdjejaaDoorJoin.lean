/- lines.Join and its reference. -/
import Derived.Test.YtbdekdhdkdjejaaDoorText
import Derived.Test.YtbdekdhdkdjejaaDoorGreat
import Derived.Test.YtbdekdhdkdjejaaDoorBuild
namespace Go.Proofs.YtbdekdhdkdjejaaDoor
open Go.RowKit Go.Shelf

theorem writeStr (N b : Nat) (l s : List UInt8) (w : World) (h : Lib.IsBuilder 62 5 N b (Lib.byteCells l) w) (hn : l.length + s.length ≤ 1000000) (hN : N ≤ w.heap.size) :
    Calls Tryd.prog 52 #[.pointer (some ⟨b, 0, none⟩), .string (B s)] w fun e w' => e = .returned (.tuple #[.int .i64 (s.length : Nat), .nilIface]) ∧ Lib.IsBuilder 62 5 N b (Lib.byteCells (l ++ s)) w' ∧ Below N w w' := by
  refine (Tryd.Builder_WriteString N b _ (B s) w h (by rw [Lib.byteCells_length, B_size]; omega) hN).mono ?_
  rintro e w' ⟨rfl, h1, h2⟩
  refine ⟨by rw [B_size], .inr ?_, h2⟩
  rw [Lib.byteCells_append]
  exact h1
theorem writeLF (N b : Nat) (l : List UInt8) (w : World) (h : Lib.IsBuilder 62 5 N b (Lib.byteCells l) w) (hn : l.length ≤ 1000000) (hN : N ≤ w.heap.size) :
    Calls Tryd.prog 53 #[.pointer (some ⟨b, 0, none⟩), .int .u8 10] w fun e w' => e = .returned .nilIface ∧ Lib.IsBuilder 62 5 N b (Lib.byteCells (l ++ [10])) w' ∧ Below N w w' := by
  refine (Tryd.Builder_WriteByte N b _ 10 w h (by rw [Lib.byteCells_length]; omega) hN).mono ?_
  rintro e w' ⟨rfl, h1, h2⟩
  refine ⟨rfl, .inr ?_, h2⟩
  rw [Lib.byteCells_append]
  exact h1
theorem readOut (N b : Nat) (l : List UInt8) (w : World) (h : Lib.IsBuilder 62 5 N b (Lib.byteCells l) w) (hN : N ≤ w.heap.size) :
    Calls Tryd.prog 54 #[.pointer (some ⟨b, 0, none⟩)] w fun e w' => e = .returned (.string (B l)) ∧ Below N w w' :=
  Tryd.Builder_String_any N b l w h hN

/-- The error of the first string that is no line. -/
def joinErr : List (List UInt8) → Nat
  | [] => 0
  | x :: r => if 1000 < x.length then 4 else if cleanL 10 0 x then joinErr r else 3
def textOf (xs : List (List UInt8)) : List UInt8 := xs.flatMap fun x => x ++ [10]
def joinL (xs : List (List UInt8)) : List UInt8 × Nat :=
  if 2000 < xs.length then ([], 4) else if joinErr xs ≠ 0 then ([], joinErr xs) else if 65536 < total xs + xs.length then ([], 4) else (textOf xs, 0)

def goodLine (x : List UInt8) : Prop := x.length ≤ 1000 ∧ cleanL 10 0 x = true
theorem joinErr_drop {xs : List (List UInt8)} {k : Nat} (h : ∀ j (hj : j < xs.length), j < k → goodLine xs[j]) : joinErr xs = joinErr (xs.drop k) := by
  induction xs generalizing k with
  | nil => simp
  | cons x r ih =>
    cases k with
    | zero => rfl
    | succ k =>
      have h0 := h 0 (by simp) (by omega)
      simp at h0
      rw [joinErr, if_neg (by have := h0.1; omega), if_pos h0.2, List.drop_succ_cons]
      exact ih fun j hj hjk => by have := h (j + 1) (by simpa using hj) (by omega); simpa using this
theorem joinErr_none {xs : List (List UInt8)} (h : ∀ j (hj : j < xs.length), goodLine xs[j]) : joinErr xs = 0 := by
  rw [joinErr_drop (k := xs.length) (fun j hj _ => h j hj), List.drop_length]; rfl
theorem joinErr_long {xs : List (List UInt8)} {k : Nat} (hk : k < xs.length) (h : ∀ j (hj : j < xs.length), j < k → goodLine xs[j]) (hl : 1000 < xs[k].length) : joinErr xs = 4 := by
  rw [joinErr_drop h, List.drop_eq_getElem_cons hk, joinErr, if_pos hl]
theorem joinErr_bad {xs : List (List UInt8)} {k : Nat} (hk : k < xs.length) (h : ∀ j (hj : j < xs.length), j < k → goodLine xs[j]) (hl : xs[k].length ≤ 1000) (hc : cleanL 10 0 xs[k] = false) : joinErr xs = 3 := by
  rw [joinErr_drop h, List.drop_eq_getElem_cons hk, joinErr, if_neg (by omega), hc]; rfl
theorem textOf_succ {xs : List (List UInt8)} {k : Nat} (h : k < xs.length) : textOf (xs.take (k + 1)) = (textOf (xs.take k) ++ xs[k]) ++ [10] := by
  unfold textOf
  rw [List.take_succ_eq_append_getElem h, List.flatMap_append]
  simp
theorem textOf_length (xs : List (List UInt8)) : (textOf xs).length = total xs + xs.length := by
  induction xs with
  | nil => rfl
  | cons x r ih =>
    unfold textOf total at *
    simp only [List.flatMap_cons, List.length_append, List.map_cons, List.sum_cons, List.length_cons, ih, List.length_nil]
    omega
theorem textOf_take_le (xs : List (List UInt8)) (k : Nat) : (textOf (xs.take k)).length ≤ (textOf xs).length := by
  rw [textOf_length, textOf_length]
  have := total_take_le xs k
  have := List.length_take_le k xs
  have : (xs.take k).length ≤ xs.length := by rw [List.length_take]; omega
  omega
theorem total_good {xs : List (List UInt8)} {k : Nat} (hk : k ≤ xs.length) (h : ∀ j (hj : j < xs.length), j < k → goodLine xs[j]) : total (xs.take k) ≤ k * 1000 := by
  have := total_le (xs.take k) 1000 (fun x hx => by
    obtain ⟨j, hj, rfl⟩ := List.getElem_of_mem hx
    rw [List.length_take] at hj
    rw [List.getElem_take]
    exact (h j (by omega) (by omega)).1)
  rw [List.length_take, Nat.min_eq_left hk] at this
  exact this
theorem good_valid (x : List UInt8) : validL x = true ↔ goodLine x := by
  unfold validL goodLine
  simp

def JoinOut (xs : List (List UInt8)) (w : World) (e : Ending) (w' : World) : Prop :=
  e = .returned (.tuple #[.string (B (joinL xs).1), .int .i64 ((joinL xs).2 : Nat)]) ∧ Below w.heap.size w w'
theorem joinOut {xs : List (List UInt8)} {w w' : World} {s : List UInt8} {n : Nat} (h : joinL xs = (s, n)) (hb : Below w.heap.size w w') : JoinOut xs w (.returned (.tuple #[.string (B s), .int .i64 (n : Nat)])) w' := by
  unfold JoinOut
  rw [h]
  exact ⟨rfl, hb⟩

set_option maxHeartbeats 2000000 in
theorem join_any (a : Option Addr) (c : Nat) (xs : List (List UInt8)) (w : World) (hx : Strs w (.slice a xs.length c) xs) : Calls Tryd.prog 31 #[.slice a xs.length c] w (JoinOut xs w) := by
  by_cases h : 2000 < xs.length
  · have hd : decide ((2000 : Int) < (xs.length : Int)) = true := by simp; omega
    go_enter Tryd.func31, Tryd.ntmps31
    go_wp2
    go_ret2
    exact joinOut (n := 4) (by unfold joinL; rw [if_pos h]) (Below.refl _ _)
  · have hd : decide ((2000 : Int) < (xs.length : Int)) = false := by simp; omega
    go_enter Tryd.func31, Tryd.ntmps31
    go_wp2
    go_loopw [4, 15] (fun s i wr => ∃ k q T : Nat, i = .int .i64 k ∧ s = .int .i64 T ∧ T = total (xs.take k) + k ∧ k ≤ xs.length ∧ wr = w.drewN q ∧ ∀ j (hj : j < xs.length), j < k → goodLine xs[j]) (fun _ i _ => xs.length - (intOf i).toNat)
    case atStart => exact ⟨0, 0, 0, rfl, rfl, rfl, by omega, rfl, by omega⟩
    case round =>
      obtain ⟨k, q, T, rfl, rfl, hT, hk, rfl, hp⟩ := hrel
      have HP := Lib.hid hp
      have htot := total_good hk hp
      have hTle : T ≤ 2002000 := by omega
      have HTT := Lib.hid hT
      clear hT htot
      clear hp
      by_cases hlt : k < xs.length
      · obtain ⟨b, off, rfl, hcell⟩ := hx.elem hlt
        by_cases hlong : 1000 < xs[k].length
        · have hld : decide ((1000 : Int) < (xs[k].length : Int)) = true := by simp; omega
          have HE := Lib.hid (show joinL xs = ([], 4) from by unfold joinL; rw [if_neg h, joinErr_long hlt HP.out hlong]; rfl)
          clear hlong
          go_wp2
          go_ret2
          exact joinOut (n := 4) HE.out (below_drewN (Below.refl _ _) _)
        · have hld : decide ((1000 : Int) < (xs[k].length : Int)) = false := by simp; omega
          have hml : xs[k].length ≤ maxLen := by unfold maxLen; omega
          cases hv : validL xs[k]
          · have HV := Lib.hid hv
            have hc : cleanL 10 0 xs[k] = false := by
              unfold validL at hv
              simpa [show xs[k].length ≤ 1000 from by omega] using hv
            have HE := Lib.hid (show joinL xs = ([], 3) from by unfold joinL; rw [if_neg h, joinErr_bad hlt HP.out (by omega) hc]; rfl)
            clear hv hc
            go_wp2_with (go_at_call 51; refine (valid_any _ _ hml).mono ?_; rintro e w' ⟨rfl, q2, rfl⟩; rw [HV.out])
            go_ret2
            exact joinOut (n := 3) HE.out (below_drewN (Below.refl _ _) _)
          · have HV := Lib.hid hv
            have HG := Lib.hid ((good_valid _).1 hv)
            have HT := Lib.hid (total_succ xs k hlt)
            clear hv
            go_wp2_with (go_at_call 51; refine (valid_any _ _ hml).mono ?_; rintro e w' ⟨rfl, q2, rfl⟩; rw [HV.out])
            go_roundw
            case rel =>
              refine ⟨k + 1, _, T + (xs[k].length + 1), by go_num, by go_num, ?_, by omega, rfl, fun j hj hjk => ?_⟩
              · rw [HT.out, HTT.out]; omega
              · by_cases e : j = k
                · subst e; exact HG.out
                · exact HP.out j hj (by omega)
            case measure => simp [intOf]; omega
      · have hkl : k = xs.length := by omega
        have htk : xs.take k = xs := List.take_of_length_le (by omega)
        have hgood : ∀ j (hj : j < xs.length), goodLine xs[j] := fun j hj => HP.out j hj (by omega)
        have HJ := Lib.hid (joinErr_none hgood)
        have hT2 : T = total xs + xs.length := by rw [HTT.out, htk, hkl]
        have hlen := textOf_length xs
        clear hgood htk
        by_cases hbig : 65536 < total xs + xs.length
        · have hbd : decide ((65536 : Int) < (T : Int)) = true := by simp; omega
          have HE := Lib.hid (show joinL xs = ([], 4) from by unfold joinL; rw [if_neg h, HJ.out, if_neg (by simp), if_pos hbig])
          clear hlen hkl hbig hT2
          go_wp2
          go_ret2
          exact joinOut (n := 4) HE.out (below_drewN (Below.refl _ _) _)
        · have hbd : decide ((65536 : Int) < (T : Int)) = false := by simp; omega
          have HE := Lib.hid (show joinL xs = (textOf xs, 0) from by unfold joinL; rw [if_neg h, HJ.out, if_neg (by simp), if_neg hbig])
          have hbig2 : (textOf xs).length ≤ 65536 := by omega
          clear hlen hkl hbig hT2
          go_wp2
          go_loopw [35] (fun i wr => ∃ k : Nat, i = .int .i64 k ∧ k ≤ xs.length ∧ Lib.IsBuilder 62 5 w.heap.size w.heap.size (Lib.byteCells (textOf (xs.take k))) wr ∧ Below w.heap.size w wr) (fun i _ => xs.length - (intOf i).toNat)
          case atStart => exact ⟨0, rfl, by omega, Lib.fresh_isBuilder 62 5 (w.drewN q), (below_drewN (Below.refl _ _) _).alloc (Nat.le_refl _) _⟩
          case round =>
            obtain ⟨k2, rfl, hk2, hbuild, hbel⟩ := hrel
            have hsz := hbel.size
            by_cases hlt2 : k2 < xs.length
            · obtain ⟨b, off, rfl, hcell⟩ := hx.elem hlt2
              have hcell2 : wr.cell? ⟨b, off + k2, none⟩ = some (.string (B xs[k2])) := by
                rw [hbel.cell (p := ⟨b, off + k2, none⟩) (World.block_lt_of_cell? w _ hcell)]; exact hcell
              have HS := Lib.hid (textOf_succ hlt2)
              have hle1 := textOf_take_le xs (k2 + 1)
              have hle2 : (textOf (xs.take k2)).length + xs[k2].length ≤ 1000000 := by
                rw [textOf_succ hlt2] at hle1
                simp only [List.length_append] at hle1
                omega
              have hle3 : (textOf (xs.take k2) ++ xs[k2]).length ≤ 1000000 := by rw [List.length_append]; exact hle2
              clear hle1 hcell
              go_wp2_with fail
              refine (writeStr _ _ _ xs[k2] _ hbuild hle2 hsz).mono ?_
              rintro e w1 ⟨rfl, hb1, hbel1⟩
              have hsz1 := hbel1.size
              go_wp2_with fail
              refine (writeLF _ _ _ _ hb1 hle3 (by omega)).mono ?_
              rintro e w2 ⟨rfl, hb2, hbel2⟩
              go_wp2_with fail
              go_roundw
              case rel => exact ⟨k2 + 1, by go_num, by omega, by rw [HS.out]; exact hb2, hbel.trans (hbel1.trans hbel2)⟩
              case measure => simp [intOf]; omega
            · have htk : xs.take k2 = xs := List.take_of_length_le (by omega)
              rw [htk] at hbuild
              clear htk
              go_wp2_with fail
              refine (readOut _ _ _ _ hbuild hsz).mono ?_
              rintro e w1 ⟨rfl, hbel1⟩
              go_wp2_with fail
              go_ret2
              exact joinOut (n := 0) HE.out (hbel.trans hbel1)
end Go.Proofs.YtbdekdhdkdjejaaDoor
