/- DERIVED. Readings of slices of strings, used by all walks of this seat. -/
import Derived.Test.YtbdekdhdkdjejaaDoorRows
import Derived.WalkKit
import Derived.ProofKit
import Derived.OpenShut
import Derived.Below
import Derived.Lib.Hide
import Derived.Lib.Strings
import Derived.BigQuiet
import Derived.Deep.QuietTactic
import Derived.WalkSpells
import Derived.WalkLawsBesides
import Derived.Outline
namespace Go.Proofs.YtbdekdhdkdjejaaDoor
open Go.RowKit

/-- A string of bytes. -/
def B (l : List UInt8) : ByteArray := ⟨l.toArray⟩
@[go_sem] theorem B_size (l : List UInt8) : (B l).size = l.length := by
  rw [Lib.size_eq]; rfl
@[go_sem] theorem B_toList (l : List UInt8) : (B l).toList = l := ByteArray.toList_mk l
theorem B_extract (l : List UInt8) (a b : Nat) : (B l).extract a b = B ((l.drop a).take (b - a)) := ByteArray.extract_mk l a b
@[go_sem] theorem B_extract_end (l : List UInt8) (a : Nat) : (B l).extract a l.length = B (l.drop a) := by
  rw [B_extract, List.take_of_length_le (by simp)]
@[go_sem] theorem B_extract_zero (l : List UInt8) (b : Nat) : (B l).extract 0 b = B (l.take b) := by
  rw [B_extract]; rfl
attribute [go_sem low] B_extract
@[go_sem high] theorem B_append (k l : List UInt8) : (B k) ++ (B l) = B (k ++ l) := by
  apply ByteArray.ext
  rw [ByteArray.data_append]
  simp [B]
@[go_sem] theorem B_getElem (l : List UInt8) (k : Nat) (h : k < (B l).size) : (B l)[k]'h = l[k]'(by rw [B_size] at h; exact h) := rfl
@[go_sem] theorem mk_B (l : List UInt8) : (ByteArray.mk l.toArray) = B l := rfl
theorem B_data (s : ByteArray) : s = B s.data.toList := (Lib.mk_data s).symm
theorem B_inj {a b : List UInt8} : B a = B b ↔ a = b := by
  constructor
  · intro h
    have := congrArg (fun s : ByteArray => s.data.toList) h
    exact this
  · intro h; rw [h]

/-- The slice value v reads as the list xs of strings in the world w. -/
def Strs (w : World) (v : Value) (xs : List (List UInt8)) : Prop :=
  (xs = [] ∧ ∃ a cap, v = .slice a 0 cap ∧ cap ≤ maxLen ∧ (a = none → cap = 0)) ∨
  ∃ b off cap, v = .slice (some ⟨b, off, none⟩) xs.length cap ∧ 0 < xs.length ∧ xs.length ≤ cap ∧ cap ≤ maxLen ∧ b < w.heap.size ∧
    (∀ i, i < xs.length → w.cell? ⟨b, off + i, none⟩ = some (.string (B (xs[i]?.getD []))))

theorem Strs.below {w w' : World} {v : Value} {xs : List (List UInt8)} (h : Strs w v xs) (hb : Below w.heap.size w w') : Strs w' v xs := by
  rcases h with h | ⟨b, off, cap, h1, h2, h3, h4, h5, h6⟩
  · exact .inl h
  · refine .inr ⟨b, off, cap, h1, h2, h3, h4, Nat.lt_of_lt_of_le h5 hb.size, fun i hi => ?_⟩
    rw [hb.cell (p := ⟨b, off + i, none⟩) h5]
    exact h6 i hi

theorem below_drewN {N : Nat} {a w : World} (h : Below N a w) (n : Nat) : Below N a (w.drewN n) := ⟨h.os, h.tape, h.output, h.size, h.block⟩

/-- Only draws: a call that reads. -/
def Read (w : World) (v : Value) (e : Ending) (w' : World) : Prop := e = .returned v ∧ ∃ q, w' = w.drewN q
theorem Read.below {w w' : World} {v : Value} {e : Ending} (h : Read w v e w') : e = .returned v ∧ Below w.heap.size w w' := by
  obtain ⟨h1, q, rfl⟩ := h
  exact ⟨h1, below_drewN (Below.refl _ _) q⟩
theorem quiet_of_read {P : Program} {f : FuncId} {args : Array Value} {w : World} {n : Nat} {v : Value} (h : Calls P f args (w.drewN n) (Read (w.drewN n) v)) :
    Calls P f args (w.drewN n) fun e w' => e = .returned v ∧ ∃ m, w' = w.drewN m :=
  h.mono fun _ _ ⟨he, q, hq⟩ => ⟨he, n + q, by rw [hq, World.drewN_drewN]⟩
theorem quiet_add_read {P : Program} {f : FuncId} {args : Array Value} {w : World} {a n : Nat} {v : Value} (h : Calls P f args (w.drewN (a + n)) (Read (w.drewN (a + n)) v)) :
    Calls P f args (w.drewN (a + n)) fun e w'' => e = .returned v ∧ ∃ m, w'' = w.drewN (a + m) :=
  h.mono fun _ _ ⟨he, q, hq⟩ => ⟨he, n + q, by rw [hq, World.drewN_drewN, Nat.add_assoc]⟩
theorem ret_bool {a b : Bool} (h : a = b) : Ending.returned (.bool a) = .returned (.bool b) := by rw [h]
theorem ret_int {k : IntKind} {a b : Int} (h : a = b) : Ending.returned (.int k a) = .returned (.int k b) := by rw [h]
end Go.Proofs.YtbdekdhdkdjejaaDoor
