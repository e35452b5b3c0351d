import Derived.Test.YtbdekdhdkdjejaaDoorIter
import Derived.Test.YtbdekdhdkdjejaaDoorParts
import Derived.Test.YtbdekdhdkdjejaaDoorShelf
import Derived.Lib.IndexLaws
import Derived.Shelf.Abstract
namespace Go.Proofs.YtbdekdhdkdjejaaDoor
open Go.RowKit Go.Shelf
attribute [local go_sem] Oper.semAt_some

/-- Where the first line feed stands, or -1. -/
def lfAt (l : List UInt8) : Int := Lib.indexByte l 10
def nulAt (l : List UInt8) : Int := Lib.indexByte l 0
theorem index_lf (l : List UInt8) (w : World) : Calls Tryd.prog 48 #[.string (B l), .int .u8 10] w fun e w' => e = .returned (.int .i64 (lfAt l)) ∧ w = w' :=
  (Tryd.strings_IndexByte (B l) 10 w).mono fun _ _ h => ⟨h.1, h.2.symm⟩
theorem index_nul (l : List UInt8) (w : World) : Calls Tryd.prog 48 #[.string (B l), .int .u8 0] w fun e w' => e = .returned (.int .i64 (nulAt l)) ∧ w = w' :=
  (Tryd.strings_IndexByte (B l) 0 w).mono fun _ _ h => ⟨h.1, h.2.symm⟩
theorem lf_iff (c : UInt8) : c.toNat = 10 ↔ c = 10 := by
  constructor
  · intro h; apply UInt8.toNat_inj.1; exact h
  · rintro rfl; rfl
theorem lfAt_none {l : List UInt8} (h : lfAt l = -1) : ∀ c ∈ l, c.toNat ≠ 10 := by
  intro c hc h10
  obtain ⟨k, hk⟩ := List.getElem?_of_mem hc
  exact Lib.indexByte_none h k (by rw [hk, (lf_iff c).1 h10])
theorem lfAt_some {l : List UInt8} {k : Nat} (h : lfAt l = k) : ∃ hk : k < l.length, l[k].toNat = 10 ∧ ∀ j (hj : j < l.length), j < k → l[j].toNat ≠ 10 := by
  obtain ⟨h1, h2⟩ := Lib.indexByte_some (o := k) h
  obtain ⟨hk, h3⟩ := List.getElem?_eq_some_iff.1 h1
  refine ⟨hk, (lf_iff _).2 h3, fun j hj hjk hc => h2 j hjk ?_⟩
  rw [List.getElem?_eq_getElem hj, (lf_iff _).1 hc]
theorem lfAt_cases (l : List UInt8) : lfAt l = -1 ∨ ∃ k : Nat, lfAt l = k := by
  have := Lib.indexByte_ge l 10
  rcases (show lfAt l = -1 ∨ 0 ≤ lfAt l from by unfold lfAt; omega) with h | h
  · exact .inl h
  · exact .inr ⟨(lfAt l).toNat, by omega⟩
theorem linesOf_none {l : List UInt8} (cur : List UInt8) (h : ∀ c ∈ l, c.toNat ≠ 10) : linesOf cur l = [] := by
  induction l generalizing cur with
  | nil => exact linesOf_nil cur
  | cons c r ih =>
    rw [linesOf, if_neg (h c (by simp))]
    exact ih _ (fun d hd => h d (by simp [hd]))
theorem linesOf_first {l : List UInt8} {k : Nat} (cur : List UInt8) (hk : k < l.length) (h10 : l[k].toNat = 10) (h : ∀ j (hj : j < l.length), j < k → l[j].toNat ≠ 10) :
    linesOf cur l = (cur ++ l.take k) :: linesOf [] (l.drop (k + 1)) := by
  induction l generalizing cur k with
  | nil => simp at hk
  | cons c r ih =>
    cases k with
    | zero =>
      simp at h10
      simp [linesOf, h10]
    | succ k =>
      have h0 := h 0 (by simp) (by omega)
      simp at h0
      rw [linesOf, if_neg h0]
      rw [ih (cur ++ [c]) (by simpa using hk) (by simpa using h10) (fun j hj hjk => by have := h (j + 1) (by simpa using hj) (by omega); simpa using this)]
      simp

def strEnc (x : List UInt8) : Array Value := #[.string (B x)]
def keepBox (Bs : Nat) (A Z : World) : Prop := Z.heap[Bs]? = A.heap[Bs]?

set_option maxRecDepth 100000 in
set_option maxHeartbeats 1000000 in
/-- lines.each's iterator: the parts of the string in its box. -/
theorem each1_iter (n Bs : Nat) (l : List UInt8) (w : World) (hl : l.length ≤ maxLen) (hbox : Boxed w Bs 9 (.string (B l))) :
    Iter Fence.wide n Tryd.prog 69 #[.pointer (some ⟨Bs, 0, none⟩)] strEnc (· = Bs) (keepBox Bs) (fun xs => xs = linesOf [] l) (fun pre => pre <+: linesOf [] l) w := by
  intro l0 J Jx W hW hJ hJx hY h0
  unfold maxLen at hl
  have hbW : Boxed W Bs 9 (.string (B l)) := (hW.block Bs hbox.lt).trans hbox
  refine callsIn_of_wp Tryd.func69 rfl trivial ?_ rfl
  simp only [Tryd.ntmps69, List.size_toArray, List.length_cons, List.length_nil, Nat.reduceAdd, Nat.reduceSub, Array.replicate_succ, Array.replicate_zero, List.push_toArray, List.append_toArray, List.nil_append, List.cons_append]
  gi_wp2
  gi_loopw [] (fun wr => ∃ (pre : List (List UInt8)) (r : List UInt8), linesOf [] l = pre ++ linesOf [] r ∧ r.length ≤ l.length ∧ Boxed wr Bs 9 (.string (B r)) ∧ J pre wr)
    (fun wr => match wr.cell? ⟨Bs, 0, none⟩ with | some (.string s) => s.size | _ => 0)
  case atStart => exact ⟨[], l, rfl, Nat.le_refl _, hbW, h0⟩
  case round =>
    obtain ⟨pre, r, hsplit, hrl, hb, hJs⟩ := hrel
    have HS := Lib.hid hsplit
    clear hsplit
    have hc := hb.cell
    have hf := hb.frozen
    rcases lfAt_cases r with hx | ⟨k, hx⟩
    · have HX := Lib.hid hx
      clear hx
      gi_wp2_with (refine ⟨trivial, fun h => absurd h (by decide), ?_⟩; gi_at_call 48; refine (callsIn_wide.2 (index_lf _ _)).mono ?_; rintro e w' ⟨rfl, rfl⟩; rw [HX.out])
      refine ⟨fun _ h => (by cases h), ?_⟩
      gi_wp2
      refine bodyPost_ret (results_none rfl _ _ _) rfl ?_
      refine ⟨⟨_, rfl⟩, .inl ⟨_, rfl, ?_⟩⟩
      rw [HS.out, linesOf_none [] (lfAt_none HX.out), List.append_nil]
      exact hJs
    · obtain ⟨hk, h10, hno⟩ := lfAt_some hx
      have hk0 : decide ((k : Int) < 0) = false := by simp
      have HX := Lib.hid hx
      have HL := Lib.hid (linesOf_first [] hk h10 hno)
      clear hx h10 hno
      have hpart : pre ++ [r.take k] <+: linesOf [] l := by
        rw [HS.out, HL.out]
        exact ⟨linesOf [] (r.drop (k + 1)), by simp⟩
      obtain ⟨fn, tmps, assign, body, hy, hR⟩ := hY pre (r.take k) wr hJs hpart
      dsimp only [strEnc] at hy
      gi_wp2_with (refine ⟨trivial, fun h => absurd h (by decide), ?_⟩; gi_at_call 48; refine (callsIn_wide.2 (index_lf _ _)).mono ?_; rintro e w' ⟨rfl, rfl⟩; rw [HX.out])
      refine ⟨fun h => absurd h (by decide), hR.mono ?_⟩
      rintro e V' (⟨rfl, hJ', hk'⟩ | ⟨rfl, hJx'⟩)
      · have hb' : Boxed V' Bs 9 (.string (B r)) := Eq.trans hk' hb
        have hc' := hb'.cell
        have hf' := hb'.frozen
        gi_wp2
        have hb2 := hb'.set (.string (B (r.drop (k + 1))))
        go_roundw
        case rel =>
          refine ⟨pre ++ [r.take k], r.drop (k + 1), ?_, ?_, hb2, ?_⟩
          · rw [HS.out, HL.out]; simp
          · rw [List.length_drop]; omega
          · exact hJ _ _ _ (some Bs) hJ' (grownBy_setCell' _ _ _) (fun q e => by cases e; rfl)
        case measure =>
          rw [hb2.cell, hc]
          simp only [B_size, List.length_drop]
          omega
      · gi_wp2
        refine bodyPost_ret (results_none rfl _ _ _) rfl ?_
        exact ⟨⟨_, rfl⟩, .inr ⟨_, hpart, hJx'⟩⟩
end Go.Proofs.YtbdekdhdkdjejaaDoor
