/- numbered's iterator: the lines with their numbers. -/
import Derived.Test.YtbdekdhdkdjejaaDoorSplitRef
import Derived.Test.YtbdekdhdkdjejaaDoorSplitMain
namespace Go.Proofs.YtbdekdhdkdjejaaDoor
open Go.RowKit Go.Shelf

def numEnc (x : List UInt8 × Nat) : Array Value := #[.int .i64 ((x.2 : Int) + 1), .string (B x.1)]
def keepStrs (v : Value) (xs : List (List UInt8)) (A Z : World) : Prop := Strs A v xs → Strs Z v xs

theorem zip_succ {xs : List (List UInt8)} {k : Nat} (h : k < xs.length) : xs.zipIdx.take (k + 1) = xs.zipIdx.take k ++ [(xs[k], k)] := by
  rw [List.take_succ_eq_append_getElem (by simpa using h)]
  simp
theorem zip_part {xs : List (List UInt8)} {k : Nat} (h : k < xs.length) : xs.zipIdx.take k ++ [(xs[k], k)] <+: xs.zipIdx := by
  rw [← zip_succ h]
  exact List.take_prefix _ _

set_option maxRecDepth 100000 in
set_option maxHeartbeats 1000000 in
theorem num_iter (n Bs : Nat) (a : Option Addr) (c : Nat) (xs : List (List UInt8)) (w : World) (hs : Strs w (.slice a xs.length c) xs) (hbox : Boxed w Bs 35 (.slice a xs.length c)) (hbig : xs.length ≤ 100000) :
    Iter Fence.wide n Tryd.prog 64 #[.pointer (some ⟨Bs, 0, none⟩)] numEnc (fun _ => False) (keepStrs (.slice a xs.length c) xs) (fun ys => ys = xs.zipIdx) (fun pre => pre <+: xs.zipIdx) w := by
  intro l0 J Jx W hW hJ hJx hY h0
  have hbW : Boxed W Bs 35 (.slice a xs.length c) := (hW.block Bs hbox.lt).trans hbox
  have hsW := hs.below hW
  have hc := hbW.cell
  have hf := hbW.frozen
  refine callsIn_of_wp Tryd.func64 rfl trivial ?_ rfl
  simp only [Tryd.ntmps64, List.size_toArray, List.length_cons, List.length_nil, Nat.reduceAdd, Nat.reduceSub, Array.replicate_succ, Array.replicate_zero, List.push_toArray, List.append_toArray, List.nil_append, List.cons_append]
  gi_wp2
  gi_loopw [7] (fun i wr => ∃ k : Nat, k ≤ xs.length ∧ i = .int .i64 k ∧ Strs wr (.slice a xs.length c) xs ∧ J (xs.zipIdx.take k) wr)
    (fun i _ => xs.length - (intOf i).toNat)
  case atStart => exact ⟨0, Nat.zero_le _, rfl, hsW, by simpa using h0⟩
  case round =>
    obtain ⟨k, hk, rfl, hst, hJs⟩ := hrel
    by_cases hlt : k < xs.length
    · obtain ⟨b, off, rfl, hcell⟩ := hst.elem hlt
      obtain ⟨fn, tmps, assign, body, hy, hR⟩ := hY _ (xs[k], k) wr hJs (zip_part hlt)
      dsimp only [numEnc] at hy
      gi_wp2_with fail
      refine ⟨fun h => absurd h (by decide), hR.mono ?_⟩
      rintro e V' (⟨rfl, hJ', hk'⟩ | ⟨rfl, hJx'⟩)
      · have hst' := hk' hst
        clear hst hk' hy hcell
        gi_wp2
        go_roundw
        case rel => exact ⟨k + 1, by omega, by go_num, hst', by rw [zip_succ hlt]; exact hJ'⟩
        case measure => simp [intOf]; omega
      · gi_wp2
        refine bodyPost_ret (results_none rfl _ _ _) rfl ?_
        exact ⟨⟨_, rfl⟩, .inr ⟨_, zip_part hlt, hJx'⟩⟩
    · gi_wp2
      go_end0
      refine ⟨⟨_, rfl⟩, .inl ⟨_, rfl, ?_⟩⟩
      rw [List.take_of_length_le (by simp; omega)] at hJs
      exact hJs
end Go.Proofs.YtbdekdhdkdjejaaDoor
