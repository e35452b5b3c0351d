import Derived.Test.YtbdekdhdkdjejaaDoorBase
import Derived.OwnWalk
import Derived.Maps.AppendAt
namespace Go.Proofs.YtbdekdhdkdjejaaDoor
open Go.RowKit

def strV (l : List UInt8) : Value := .string (B l)
/-- The strings xs lie in a row of the call's own. -/
def Owns (w : World) (base : Nat) (v : Value) (xs : List (List UInt8)) : Prop := w.ownsRow base 9 1 v xs.length (xs.map strV)

theorem Owns.nil (w : World) (base : Nat) : Owns w base (.slice none 0 0) [] := World.ownsRow_nil w base 9 1
theorem Owns.strs {w : World} {base : Nat} {v : Value} {xs : List (List UInt8)} (h : Owns w base v xs) : Strs w v xs := by
  obtain ⟨h1, h2⟩ := id h
  rcases h2 with ⟨rfl, h2⟩ | ⟨g, cap, cur, rfl, hb, hg, hc, hm, hs, ht⟩
  · exact .inl ⟨List.eq_nil_of_length_eq_zero h2, none, 0, rfl, Nat.zero_le _, fun _ => rfl⟩
  · cases xs with
    | nil => exact .inl ⟨rfl, _, _, rfl, hm, by simp⟩
    | cons x r =>
      refine .inr ⟨g, 0, cap, rfl, by simp, hc, hm, (Array.getElem?_eq_some_iff.1 hg).1, fun i hi => ?_⟩
      have := World.ownsRow.cells h (g := g) rfl i (strV (((x :: r)[i]?).getD [])) (by
        rw [List.getElem?_map, List.getElem?_eq_getElem hi]; rfl)
      have e : (⟨g, 0, none⟩ : Addr).add i = ⟨g, 0 + i, none⟩ := by
        unfold Addr.add; split <;> simp_all
      rw [e] at this
      exact this

theorem Tryd.info9 : (Tryd.prog.info? 9).map (fun i => (i.zero, i.size, i.bytes)) = some (some (.string ⟨#[]⟩), 1, 16) := by kernel_rfl

/-- The parts of a text that end ahead of a line feed; cur has been read. -/
def linesOf : List UInt8 → List UInt8 → List (List UInt8)
  | _, [] => []
  | cur, c :: r => if c.toNat = 10 then cur :: linesOf [] r else linesOf (cur ++ [c]) r
end Go.Proofs.YtbdekdhdkdjejaaDoor
