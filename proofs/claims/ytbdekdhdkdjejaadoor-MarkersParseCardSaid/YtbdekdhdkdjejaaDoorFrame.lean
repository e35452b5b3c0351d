/- How the arguments of the laws read, and that they read behind the call as before. -/
import Derived.Test.YtbdekdhdkdjejaaDoorBase
import Derived.SizedLaws
import Derived.SliceStrings
import Derived.ShutString
import Derived.ChangeOld
namespace Go.Proofs.YtbdekdhdkdjejaaDoor
open Go.ChangeShapes Go.WideShapes Go.ChangeAt Go.RowKit
open Go.ChangeMaps (open_string shut_string)

theorem own : ownKnob Tryd.prog.godebug = none := by kernel_rfl
theorem laidOut : laidOutB Tryd.prog = true := by kernel_rfl
theorem cells9 : Tryd.prog.cellsOf 9 = 1 := by kernel_rfl

section
variable {H : Type} {enc : TypeId × Value → H} {W : World} {base : Nat} {v : Value} {d : DataW H} {p : List MemPlace}

theorem weights_strs (ss : List ByteArray) (M : Nat) (h : ∀ n ∈ DataW.weightsAll Tryd.prog 9 (strs ss : List (DataW H)), n ≤ M) : ∀ s ∈ ss, s.size ≤ M := by
  induction ss with
  | nil => intro s hs; cases hs
  | cons x r ih =>
    intro s hs
    have e : DataW.weightsAll Tryd.prog 9 (strs (x :: r) : List (DataW H)) = x.data.toList.length :: DataW.weightsAll Tryd.prog 9 (strs r : List (DataW H)) := by
      simp [strs, DataW.weightsAll, DataW.weights]
    rw [e] at h
    rcases List.mem_cons.1 hs with rfl | hs
    · have := h _ (List.mem_cons_self ..)
      rw [Lib.size_eq]; exact this
    · exact ih (fun n hn => h n (List.mem_cons_of_mem _ hn)) s hs

theorem strs_of_trod (hok : Value.okWide Tryd.prog W .any base 35 v) (h : DataW.Trod enc Tryd.prog W 0 (fun _ => true) true 35 v d p) (hw : ∀ n ∈ d.weights Tryd.prog 35, n ≤ reachBytes) :
    ∃ xs : List (List UInt8), Strs W v xs ∧ ∀ x ∈ xs, x.length ≤ 140737488351232 := by
  obtain ⟨a0, len, cap, rfl⟩ := okWide_slice Tryd.underlying35 hok
  obtain ⟨fuel, hf⟩ := h
  rcases open_strings Tryd.underlying35 Tryd.underlying9 cells9 hf with ⟨hcs, _⟩ | ⟨a, len', cap', ss, hcs, _, hl, hm, hz, hx, hcell, hsz⟩
  · simp [Value.cells] at hcs
    obtain ⟨rfl, rfl, rfl⟩ := hcs
    exact ⟨[], .inl ⟨rfl, none, 0, rfl, Nat.zero_le _, fun _ => rfl⟩, fun x hx => by cases hx⟩
  · simp [Value.cells] at hcs
    obtain ⟨rfl, rfl, rfl⟩ := hcs
    simp only [if_true] at hz
    simp only [Prod.mk.injEq] at hx
    obtain ⟨rfl, rfl⟩ := hx
    have hlen : ((ss.take len).map fun s => s.data.toList).length = len := by simp; omega
    refine ⟨(ss.take len).map fun s => s.data.toList, ?_, ?_⟩
    · by_cases h0 : len = 0
      · subst h0
        exact .inl ⟨by simp, _, _, rfl, hm, fun h => by cases h⟩
      · have h1 := hcell 0 (by omega)
        obtain ⟨b, off, spot⟩ := a
        have hspot : spot = none := by simpa [Addr.add] using World.cell?_spot h1
        subst hspot
        refine .inr ⟨b, off, cap, by rw [hlen], by omega, by omega, hm, ?_, fun i hi => ?_⟩
        · have := World.block_lt_of_cell? W _ h1
          simpa [Addr.add] using this
        · rw [hlen] at hi
          have := hcell i (by omega)
          have e : (⟨b, off, none⟩ : Addr).add i = ⟨b, off + i, none⟩ := by unfold Addr.add; split <;> simp_all
          rw [e] at this
          rw [this]
          congr 2
          rw [List.getElem?_map, List.getElem?_take, if_pos hi, List.getD_eq_getElem?_getD]
          have hi' : i < ss.length := by omega
          rw [List.getElem?_eq_getElem hi']
          exact B_data _
    · intro x hx
      obtain ⟨s, hs, rfl⟩ := List.mem_map.1 hx
      have hw1 : ∀ n ∈ DataW.weightsAll Tryd.prog 9 (strs (ss.take len) : List (DataW H)), n ≤ reachBytes := fun n hn =>
        hw n (by simp [DataW.weights, Tryd.underlying35, hn])
      have := weights_strs (ss.take len) reachBytes hw1 s hs
      rw [Lib.size_eq] at this
      exact this
end
end Go.Proofs.YtbdekdhdkdjejaaDoor
