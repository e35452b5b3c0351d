/- The parser's state. The parser's state behind an append of a region. -/
import Derived.Deep.AppendLies
import Derived.Deep.RegionLaw
import Derived.Test.YtbdekdhdkdjejaaDoorCheck
namespace Go.Proofs.YtbdekdhdkdjejaaDoor
open Go.RowKit

structure PS where
  out : List Reg
  lines : List (List UInt8)
  sides : List (List (List UInt8))
  side : List (List UInt8)
  ins : Bool
def regVals (us : List (Bool × Value × Value)) : List Value := us.flatMap fun u => [.bool u.1, u.2.1, u.2.2]
def stateV (pb : Nat) (ins : Bool) : Value := .func (.func (if ins then 63 else 41)) #[.pointer (some ⟨pb, 0, none⟩)] #[]
structure Apart (φ : Nat → Prop) (w : World) (pb : Nat) (vo vl vs vd : Value) : Prop where
  cells : ∀ b, φ b → ∃ cs t, w.heap[b]? = some (.cells cs t (0, 0))
  gt : ∀ b, φ b → pb < b
  out : ∀ b, φ b → vo.ownBlock ≠ some b
  lines : ∀ b, φ b → vl.ownBlock ≠ some b
  sides : ∀ b, φ b → vs.ownBlock ≠ some b
  side : ∀ b, φ b → vd.ownBlock ≠ some b
theorem Apart.old {φ : Nat → Prop} {w : World} {pb : Nat} {vo vl vs vd : Value} (h : Apart φ w pb vo vl vs vd) : ∀ b, φ b → b < w.heap.size := fun b hb => by
  obtain ⟨cs, t, hc⟩ := h.cells b hb
  exact (Array.getElem?_eq_some_iff.1 hc).1
theorem Apart.pb {φ : Nat → Prop} {w : World} {pb : Nat} {vo vl vs vd : Value} (h : Apart φ w pb vo vl vs vd) : ¬ φ pb := fun hb => Nat.lt_irrefl _ (h.gt pb hb)
theorem cells_kept {ψ : Nat → Prop} {w w2 : World} (K : Keeps ψ w w2) {b : Nat} (hb : ψ b) (hc : ∃ cs t, w.heap[b]? = some (.cells cs t (0, 0))) : ∃ cs t, w2.heap[b]? = some (.cells cs t (0, 0)) := by
  obtain ⟨cs, t, hc⟩ := hc
  exact ⟨cs, t, (K.same b (Array.getElem?_eq_some_iff.1 hc).1 hb).trans hc⟩
structure PState (base pb : Nat) (s : PS) (w : World) (φ : Nat → Prop) (vo vl vs vd : Value) (us : List (Bool × Value × Value)) (ss : List Value) : Prop where
  lt : pb < base
  le : base ≤ w.heap.size
  row : w.heap[pb]? = some (.cells #[vo, vl, vs, vd, stateV pb s.ins] 51)
  out : w.ownsRow base 41 3 vo us.length (regVals us)
  ulen : us.length = s.out.length
  regs : ∀ i (hi : i < us.length) (hj : i < s.out.length), us[i].1 = s.out[i].conf ∧ StrsIn φ w us[i].2.1 s.out[i].lines ∧ Strss φ w us[i].2.2 s.out[i].sides
  lines : Owns w base vl s.lines
  sides : w.ownsRow base 35 1 vs ss.length ss
  slen : ss.length = s.sides.length
  strs : ∀ i (hi : i < ss.length) (hj : i < s.sides.length), StrsIn φ w ss[i] s.sides[i]
  side : Owns w base vd s.side
  apart : Apart φ w pb vo vl vs vd
  nil1 : s.ins = true → vl = .slice none 0 0
  nil2 : s.ins = false → vs = .slice none 0 0 ∧ vd = .slice none 0 0
def PInv (base pb : Nat) (s : PS) (w : World) : Prop := ∃ φ vo vl vs vd us ss, PState base pb s w φ vo vl vs vd us ss
/-- The same, and no lines have been begun. -/
def PInvN (base pb : Nat) (s : PS) (w : World) : Prop := ∃ φ vo vs vd us ss, PState base pb s w φ vo (.slice none 0 0) vs vd us ss
/-- What is no cells has not turned. -/
def Others (w w2 : World) : Prop := ∀ (k : Nat) (o : Obj), w.heap[k]? = some o → o.isCells = false → w2.heap[k]? = some o
theorem others_set {w w2 : World} {pb : Nat} {cs : Array Value} {t : TypeId} {f : Nat × Nat} (hrow : w.heap[pb]? = some (.cells cs t f)) (hp : ∀ k, k ≠ pb → w2.heap[k]? = w.heap[k]?) : Others w w2 := by
  intro k o ho hc
  by_cases e : k = pb
  · subst e; rw [hrow] at ho; cases ho; cases hc
  · exact (hp k e).trans ho
theorem others_grown {w w1 w2 : World} {pb : Nat} {cs : Array Value} {t : TypeId} {f : Nat × Nat} {x : Obj} {row : Option Nat} (hrow : w.heap[pb]? = some (.cells cs t f)) (hr : ∀ k, row = some k → ∃ cs t, w.heap[k]? = some (.cells cs t (0, 0)))
    (hg : ((w.alloc x).drew).grownBy w1 row) (hp : ∀ k, k ≠ pb → w2.heap[k]? = w1.heap[k]?) : Others w w2 := by
  intro k o ho hc
  have hlt := (Array.getElem?_eq_some_iff.1 ho).1
  by_cases e : k = pb
  · subst e; rw [hrow] at ho; cases ho; cases hc
  · rw [hp k e, hg.block k (by simp; omega) (fun e2 => by
      obtain ⟨cs, t, h2⟩ := hr k e2.symm
      rw [h2] at ho; cases ho; cases hc)]
    exact (Below.heap_alloc _ _ _ (by omega)).trans ho
/-- What lies below base, but for the parser, is as it was. -/
structure FB (base pb : Nat) (w w' : World) : Prop where
  os : w'.os = w.os
  tape : w'.tape = w.tape
  output : w'.output = w.output
  size : w.heap.size ≤ w'.heap.size
  block : ∀ k, k < base → k ≠ pb → w'.heap[k]? = w.heap[k]?
  others : Others w w'
theorem FB.refl (base pb : Nat) (w : World) : FB base pb w w := ⟨rfl, rfl, rfl, Nat.le_refl _, fun _ _ _ => rfl, fun _ _ h _ => h⟩
theorem FB.trans {base pb : Nat} {a b c : World} (h : FB base pb a b) (k : FB base pb b c) : FB base pb a c :=
  ⟨k.os.trans h.os, k.tape.trans h.tape, k.output.trans h.output, Nat.le_trans h.size k.size, fun i hi hp => (k.block i hi hp).trans (h.block i hi hp), fun i o ho hc => k.others i o (h.others i o ho hc) hc⟩

def flushS (s : PS) : PS := if s.lines.isEmpty then s else { s with out := s.out ++ [⟨false, s.lines, []⟩], lines := [] }
theorem frozen_of_row (w : World) (g j : Nat) (cs : Array Value) (t : TypeId) (hg : w.heap[g]? = some (.cells cs t)) : w.frozen? ⟨g, j, none⟩ = false := by
  simp [World.frozen?, hg]
theorem Tryd.info41 : (Tryd.prog.info? 41).map (fun i => (i.zero, i.size, i.bytes)) = some (some (.agg #[.bool false, .slice none 0 0, .slice none 0 0]), 3, 56) := by kernel_rfl

end Go.Proofs.YtbdekdhdkdjejaaDoor
namespace Go.Proofs.YtbdekdhdkdjejaaDoor
open Go.RowKit

theorem row_block {w : World} {base : Nat} {e : TypeId} {size : Nat} {v : Value} {n : Nat} {xs : List Value} (h : w.ownsRow base e size v n xs) {k : Nat} (a : v.ownBlock = some k) :
    base ≤ k ∧ k < w.heap.size ∧ ∃ cur, w.heap[k]? = some (.cells cur e (0, 0)) := by
  rcases h.2 with ⟨rfl, _⟩ | ⟨g, cap, cur, rfl, hb, hg, _⟩
  · cases a
  · obtain rfl : g = k := by simpa [Value.ownBlock] using a
    exact ⟨hb, (Array.getElem?_eq_some_iff.1 hg).1, cur, hg⟩
theorem row_cells {w : World} {base : Nat} {e : TypeId} {size : Nat} {v : Value} {n : Nat} {xs : List Value} (h : w.ownsRow base e size v n xs) {k : Nat} (a : v.ownBlock = some k) :
    ∃ cs t, w.heap[k]? = some (.cells cs t (0, 0)) := by
  obtain ⟨_, _, cur, hc⟩ := row_block h a
  exact ⟨cur, e, hc⟩
theorem rows_apart {w : World} {base : Nat} {e e' : TypeId} {size size' : Nat} {v v' : Value} {n n' : Nat} {xs xs' : List Value} (h : w.ownsRow base e size v n xs) (h' : w.ownsRow base e' size' v' n' xs') (hne : e ≠ e') {k : Nat}
    (a : v.ownBlock = some k) : v'.ownBlock ≠ some k := by
  intro a'
  obtain ⟨_, _, c, h1⟩ := row_block h a
  obtain ⟨_, _, c', h2⟩ := row_block h' a'
  rw [h1] at h2
  injection h2 with h3
  injection h3 with _ h4
  exact hne h4
/-- A row reads the same where its block does. -/
theorem row_keep {w w' : World} {base : Nat} {e : TypeId} {size : Nat} {v : Value} {n : Nat} {xs : List Value} (h : w.ownsRow base e size v n xs) (hk : ∀ k, v.ownBlock = some k → w'.heap[k]? = w.heap[k]?) : w'.ownsRow base e size v n xs := by
  obtain ⟨h1, h2⟩ := h
  refine ⟨h1, ?_⟩
  rcases h2 with h2 | ⟨g, cap, cur, rfl, hb, hg, hr⟩
  · exact .inl h2
  · exact .inr ⟨g, cap, cur, rfl, hb, (hk g rfl).trans hg, hr⟩
theorem heap_setCell_ne (w : World) (a : Addr) (u : Value) (k : Nat) (h : k ≠ a.block) : (w.setCell a u).heap[k]? = w.heap[k]? := Below.heap_setCell w a u k h

/-- A region of plain lines is put behind the regions; the lines are empty again. -/
theorem flush_state {base pb : Nat} {s : PS} {w w2 : World} {φ : Nat → Prop} {vo vl vs vd : Value} {us : List (Bool × Value × Value)} {ss : List Value} (h : PState base pb s w φ vo vl vs vd us ss) (hne : s.lines.isEmpty = false)
    {g cap H : Nat} (hat : vo.ownBlock = some g ∨ g = H) (hH : w.heap.size ≤ H) (hsz : w.heap.size ≤ w2.heap.size)
    (hrow : w2.heap[pb]? = some (.cells #[.slice (some ⟨g, 0, none⟩) (us.length + 1) cap, .slice none 0 0, vs, vd, stateV pb s.ins] 51))
    (hown : w2.ownsRow base 41 3 (.slice (some ⟨g, 0, none⟩) (us.length + 1) cap) (us.length + 1) (regVals us ++ [.bool false, vl, .slice none 0 0]))
    (hkeep : ∀ k, k < w.heap.size → k ≠ pb → vo.ownBlock ≠ some k → w2.heap[k]? = w.heap[k]?) : PInvN base pb (flushS s) w2 := by
  have hnil : s.ins = false := by
    cases e : s.ins
    · rfl
    · have := h.nil1 e
      subst this
      have := h.lines.1
      rcases h.lines.2 with ⟨_, h2⟩ | ⟨_, _, _, h2, _⟩
      · have := len_pos hne; omega
      · cases h2
  obtain ⟨rfl, rfl⟩ := h.nil2 hnil
  have hne_pb : ∀ k, base ≤ k → k ≠ pb := fun k hk e => by have := h.lt; omega
  have kl : ∀ k, vl.ownBlock = some k → w2.heap[k]? = w.heap[k]? := fun k hk => hkeep k (row_block h.lines hk).2.1 (hne_pb k (row_block h.lines hk).1) (rows_apart h.lines h.out (by decide) hk)
  have K : Keeps (fun b => φ b ∨ vl.ownBlock = some b) w w2 := ⟨hsz, fun k hk hφ => by
    rcases hφ with hφ | hφ
    · exact hkeep k hk (fun e => h.apart.pb (e ▸ hφ)) (h.apart.out k hφ)
    · exact kl k hφ⟩
  have e : flushS s = { s with out := s.out ++ [⟨false, s.lines, []⟩], lines := [] } := by unfold flushS; rw [hne]; rfl
  rw [e]
  refine ⟨fun b => φ b ∨ vl.ownBlock = some b, .slice (some ⟨g, 0, none⟩) (us.length + 1) cap, .slice none 0 0, .slice none 0 0, us ++ [(false, vl, .slice none 0 0)], ss, ?_⟩
  refine { lt := h.lt, le := Nat.le_trans h.le hsz, row := hrow, out := ?_, ulen := ?_, regs := ?_, lines := Owns.nil _ _, sides := row_keep h.sides (fun k hk => by cases hk), slen := h.slen, strs := ?_, side := row_keep h.side (fun k hk => by cases hk), apart := ?_, nil1 := fun _ => rfl, nil2 := fun _ => ⟨rfl, rfl⟩ }
  · rw [List.length_append]
    have e2 : regVals (us ++ [(false, vl, .slice none 0 0)]) = regVals us ++ [.bool false, vl, .slice none 0 0] := by unfold regVals; rw [List.flatMap_append]; rfl
    rw [e2]
    exact hown
  · rw [List.length_append, List.length_append, h.ulen]; rfl
  · intro i hi hj
    rw [List.length_append, List.length_singleton] at hi hj
    rw [List.getElem_append, List.getElem_append]
    by_cases hlt : i < us.length
    · have hlt2 : i < s.out.length := by have := h.ulen; omega
      rw [dif_pos hlt, dif_pos hlt2]
      obtain ⟨h1, h2, h3⟩ := h.regs i hlt hlt2
      exact ⟨h1, (h2.mono (fun b hb => .inl hb)).keeps K, (h3.mono (fun b hb => .inl hb)).keeps K⟩
    · have hlt2 : ¬ i < s.out.length := by have := h.ulen; omega
      rw [dif_neg hlt, dif_neg hlt2, List.getElem_singleton, List.getElem_singleton]
      refine ⟨rfl, ⟨?_, fun b hb => .inr hb⟩, ?_⟩
      · exact Owns.strs (base := base) (row_keep h.lines kl)
      · exact ⟨none, 0, rfl, Nat.le_refl _, Nat.zero_le _, fun b hb => (by cases hb), fun _ => rfl, fun i hi => absurd hi (Nat.not_lt_zero _)⟩
  · intro i hi hj
    exact ((h.strs i hi hj).mono (fun b hb => .inl hb)).keeps K
  · refine ⟨fun b hb => ?_, fun b hb => ?_, fun b hb => ?_, fun b _ e => (by cases e), fun b _ e => (by cases e), fun b _ e => (by cases e)⟩
    · refine cells_kept K hb ?_
      rcases hb with hb | hb
      · exact h.apart.cells b hb
      · exact row_cells h.lines hb
    · rcases hb with hb | hb
      · exact h.apart.gt b hb
      · have := (row_block h.lines hb).1; have := h.lt; omega
    · intro e3
      obtain rfl : g = b := by simpa [Value.ownBlock] using e3
      have hb1 : g < w.heap.size ∧ vo.ownBlock ≠ some g := by
        rcases hb with hb | hb
        · exact ⟨h.apart.old _ hb, h.apart.out _ hb⟩
        · exact ⟨(row_block h.lines hb).2.1, rows_apart h.lines h.out (by decide) hb⟩
      rcases hat with hat | hat
      · exact hb1.2 hat
      · omega
end Go.Proofs.YtbdekdhdkdjejaaDoor
