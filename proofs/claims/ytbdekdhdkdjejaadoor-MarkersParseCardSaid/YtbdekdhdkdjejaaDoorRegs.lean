/- Readings of slices of slices of strings, and of regions. -/
import Derived.Test.YtbdekdhdkdjejaaDoorOwn
namespace Go.Proofs.YtbdekdhdkdjejaaDoor
open Go.RowKit

/-- What lies in a block that φ names has not turned. -/
structure Keeps (φ : Nat → Prop) (A Z : World) : Prop where
  size : A.heap.size ≤ Z.heap.size
  same : ∀ k, k < A.heap.size → φ k → Z.heap[k]? = A.heap[k]?
theorem Keeps.refl (φ : Nat → Prop) (A : World) : Keeps φ A A := ⟨Nat.le_refl _, fun _ _ _ => rfl⟩
theorem Keeps.trans {φ : Nat → Prop} {A Y Z : World} (h : Keeps φ A Y) (k : Keeps φ Y Z) : Keeps φ A Z :=
  ⟨Nat.le_trans h.size k.size, fun i hi hφ => (k.same i (Nat.lt_of_lt_of_le hi h.size) hφ).trans (h.same i hi hφ)⟩
theorem Keeps.of_below {φ : Nat → Prop} {A Z : World} (h : Below A.heap.size A Z) : Keeps φ A Z := ⟨h.size, fun k hk _ => h.block k hk⟩
theorem Keeps.of_grown {φ : Nat → Prop} {A Z : World} {row : Option Nat} (h : A.grownBy Z row) (hr : ∀ k, row = some k → ¬ φ k) : Keeps φ A Z :=
  ⟨h.size, fun k hk hφ => h.block k hk (fun e => hr k e.symm hφ)⟩
theorem Keeps.cell {φ : Nat → Prop} {A Z : World} (h : Keeps φ A Z) {b o : Nat} {v : Value} (hb : φ b) (hc : A.cell? ⟨b, o, none⟩ = some v) : Z.cell? ⟨b, o, none⟩ = some v :=
  (World.cell?_of_block (h.same b (World.block_lt_of_cell? A _ hc) hb)).trans hc

/-- Where a slice's cells lie, φ says so. -/
def At (φ : Nat → Prop) (v : Value) : Prop := ∀ b, v.ownBlock = some b → φ b
theorem At.mono {φ ψ : Nat → Prop} {v : Value} (h : At φ v) (hi : ∀ b, φ b → ψ b) : At ψ v := fun b hb => hi b (h b hb)
theorem At.none (φ : Nat → Prop) (n c : Nat) : At φ (.slice none n c) := fun b hb => by cases hb

def StrsIn (φ : Nat → Prop) (w : World) (v : Value) (xs : List (List UInt8)) : Prop := Strs w v xs ∧ At φ v
theorem StrsIn.keeps {φ : Nat → Prop} {A Z : World} {v : Value} {xs : List (List UInt8)} (h : StrsIn φ A v xs) (hk : Keeps φ A Z) : StrsIn φ Z v xs := by
  refine ⟨?_, h.2⟩
  rcases h.1 with h1 | ⟨b, off, cap, rfl, h2, h3, h4, h5, h6⟩
  · exact .inl h1
  · exact .inr ⟨b, off, cap, rfl, h2, h3, h4, Nat.lt_of_lt_of_le h5 hk.size, fun i hi => hk.cell (h.2 b rfl) (h6 i hi)⟩
theorem StrsIn.mono {φ ψ : Nat → Prop} {w : World} {v : Value} {xs : List (List UInt8)} (h : StrsIn φ w v xs) (hi : ∀ b, φ b → ψ b) : StrsIn ψ w v xs := ⟨h.1, h.2.mono hi⟩

/-- A slice of slices of strings. -/
def Strss (φ : Nat → Prop) (w : World) (v : Value) (xss : List (List (List UInt8))) : Prop :=
  ∃ a cap, v = .slice a xss.length cap ∧ xss.length ≤ cap ∧ cap ≤ maxLen ∧ At φ v ∧ (a = none → cap = 0) ∧
    ∀ i (hi : i < xss.length), ∃ b off u, a = some ⟨b, off, none⟩ ∧ b < w.heap.size ∧ w.cell? ⟨b, off + i, none⟩ = some u ∧ StrsIn φ w u xss[i]
theorem Strss.keeps {φ : Nat → Prop} {A Z : World} {v : Value} {xss : List (List (List UInt8))} (h : Strss φ A v xss) (hk : Keeps φ A Z) : Strss φ Z v xss := by
  obtain ⟨a, cap, rfl, h1, h2, h3, h4, h5⟩ := h
  refine ⟨a, cap, rfl, h1, h2, h3, h4, fun i hi => ?_⟩
  obtain ⟨b, off, u, rfl, g1, g2, g3⟩ := h5 i hi
  exact ⟨b, off, u, rfl, Nat.lt_of_lt_of_le g1 hk.size, hk.cell (h3 b rfl) g2, g3.keeps hk⟩
theorem Strss.mono {φ ψ : Nat → Prop} {w : World} {v : Value} {xss : List (List (List UInt8))} (h : Strss φ w v xss) (hi : ∀ b, φ b → ψ b) : Strss ψ w v xss := by
  obtain ⟨a, cap, rfl, h1, h2, h3, h4, h5⟩ := h
  refine ⟨a, cap, rfl, h1, h2, h3.mono hi, h4, fun i hi' => ?_⟩
  obtain ⟨b, off, u, g0, g1, g2, g3⟩ := h5 i hi'
  exact ⟨b, off, u, g0, g1, g2, g3.mono hi⟩

/-- A region. -/
structure Reg where
  conf : Bool
  lines : List (List UInt8)
  sides : List (List (List UInt8))
/-- A slice of regions: three cells an element. -/
def Regs (φ : Nat → Prop) (w : World) (v : Value) (rs : List Reg) : Prop :=
  ∃ a cap, v = .slice a rs.length cap ∧ rs.length ≤ cap ∧ cap ≤ maxLen ∧ At φ v ∧ (a = none → cap = 0) ∧
    ∀ i (hi : i < rs.length), ∃ b off u1 u2, a = some ⟨b, off, none⟩ ∧ b < w.heap.size ∧ w.cell? ⟨b, off + i * 3, none⟩ = some (.bool rs[i].conf) ∧
      w.cell? ⟨b, off + i * 3 + 1, none⟩ = some u1 ∧ w.cell? ⟨b, off + i * 3 + 2, none⟩ = some u2 ∧ StrsIn φ w u1 rs[i].lines ∧ Strss φ w u2 rs[i].sides
theorem Regs.keeps {φ : Nat → Prop} {A Z : World} {v : Value} {rs : List Reg} (h : Regs φ A v rs) (hk : Keeps φ A Z) : Regs φ Z v rs := by
  obtain ⟨a, cap, rfl, h1, h2, h3, h4, h5⟩ := h
  refine ⟨a, cap, rfl, h1, h2, h3, h4, fun i hi => ?_⟩
  obtain ⟨b, off, u1, u2, rfl, g1, g2, g3, g4, g5, g6⟩ := h5 i hi
  exact ⟨b, off, u1, u2, rfl, Nat.lt_of_lt_of_le g1 hk.size, hk.cell (h3 b rfl) g2, hk.cell (h3 b rfl) g3, hk.cell (h3 b rfl) g4, g5.keeps hk, g6.keeps hk⟩
theorem Regs.mono {φ ψ : Nat → Prop} {w : World} {v : Value} {rs : List Reg} (h : Regs φ w v rs) (hi : ∀ b, φ b → ψ b) : Regs ψ w v rs := by
  obtain ⟨a, cap, rfl, h1, h2, h3, h4, h5⟩ := h
  refine ⟨a, cap, rfl, h1, h2, h3.mono hi, h4, fun i hi' => ?_⟩
  obtain ⟨b, off, u1, u2, g0, g1, g2, g3, g4, g5, g6⟩ := h5 i hi'
  exact ⟨b, off, u1, u2, g0, g1, g2, g3, g4, g5.mono hi, g6.mono hi⟩
/-- Anywhere. -/
def Any (_ : Nat) : Prop := True
end Go.Proofs.YtbdekdhdkdjejaaDoor
