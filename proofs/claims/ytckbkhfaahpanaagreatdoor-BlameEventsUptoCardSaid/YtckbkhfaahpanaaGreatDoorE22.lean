/- Part 22 of the proof that quiltlaw38.BlameEvents returns true: no statement of its own. -/
import Derived.Test.YtckbkhfaahpanaaGreatDoorE20
import Derived.Test.YtckbkhfaahpanaaGreatDoorE15
import Derived.Test.YtckbkhfaahpanaaGreatDoorE21
set_option linter.all false
namespace Go.Proofs.Ev
open Go.Proofs
variable {C : Cfg} {σ : Sorts}
structure SettingS (C : Cfg) (σ : Sorts) : Prop extends SettingR C σ where
 pureS : ∀ f,f ∈ [57,129,77,27,103,159,
  25,58,53,101,102,54,8,28] → C.pure f = true
 plainS : ∀ f,f ∈ [100] → C.pure f = false ∧ C.frz f = false
def idxQ {α : Type} (q : α → Bool) : List α → Nat → Int
 | [],_ => -1
 | x :: l,i => if q x then (i : Int) else idxQ q l (i + 1)
theorem idxQ_find {α : Type} (q : α → Bool) : ∀ (l : List α) (i : Nat),(∀ x,l.find? q = some x → ∃ j,idxQ q l i = ((i + j : Nat) : Int) ∧ l[j]? = some x) ∧ (l.find? q = none → idxQ q l i = -1)
 | [],i => by simp [idxQ]
 | x :: l,i => by
  have ih := idxQ_find q l (i + 1)
  rw [idxQ,List.find?_cons]
  cases hq : q x with
  | true => simp; exact ⟨0,by simp⟩
  | false =>
   simp only [Bool.false_eq_true,if_false]
   refine ⟨fun y hy => ?_,ih.2⟩
   obtain ⟨j,h1,h2⟩ := ih.1 y hy
   exact ⟨j + 1,by rw [h1]; omega,h2⟩
theorem idxQ_ge {α : Type} (q : α → Bool) (l : List α) (i : Nat) : (0 ≤ idxQ q l i) ↔ (l.find? q).isSome = true := by
 cases h : l.find? q with
 | none => rw [(idxQ_find q l i).2 h]; simp
 | some x => obtain ⟨j,h1,_⟩ := (idxQ_find q l i).1 x h; rw [h1]; simp; omega
theorem indexS_eq (S : SettingS C σ) {base : Nat} {H : Heap} {k : SK} {l : List StoredV} {f : AV} {q : StoredV → Bool} (hl : l.length ≤ 2 ^ 40) (hf : ∀ x ∈ l,∀ (base : Nat) (K : AV → Heap → Prop),CallW Tryz.prog C base f [.agg x.cells] H K = K (.bool (q x)) H) (K : AV → Heap → Prop) :
 CallW Tryz.prog C base (.fn 57 []) [slAV k (l.map StoredV.cells),f] H K = K (.int .i64 (idxQ q l 0)) H := by
 refine CallW.eq (pure_rule (S.pureS _ (by decide)) (func_rule Tryz.func57 rfl (S.prim _ (by decide)) (by simp) (by kernel_rfl) ?_)) K
 unfold Tryz.f57
 simp [argS]
 refine loop_count l.length (fun i s H' => s 0 = slAV k (l.map StoredV.cells) ∧ s 1 = f ∧ s 7 = .int .i64 l.length ∧ s 8 = .int .i64 i ∧ H' = H ∧ idxQ q l 0 = idxQ q (l.drop i) i) ?_ ?_
 ·exact ⟨rfl,rfl,rfl,rfl,rfl,rfl⟩
 rintro i s H' ⟨q0,q1,q7,q8,rfl,hc⟩ hi
 by_cases h : i < l.length
 ·rw [List.drop_eq_getElem_cons h,idxQ] at hc
  have ef := hf l[i] (List.getElem_mem h) H'.length
  cases hq : q l[i] with
  | true =>
   rw [hq,if_pos rfl] at hc
   rw [hq] at ef
   simp [q0,q1,q7,q8,h,hc,ef]
  | false =>
   rw [hq,if_neg (by decide)] at hc
   rw [hq] at ef
   simp [q0,q1,q7,q8,h,hc,ef,wrap_succ h (by omega)]
 ·have h' : i = l.length := by omega
  subst h'
  rw [List.drop_length,idxQ] at hc
  simp [q0,q1,q7,q8,hc]
theorem indexD_eq (S : SettingS C σ) {base : Nat} {H : Heap} {k : SK} {l : List DigV} {f : AV} {q : DigV → Bool} (hl : l.length ≤ 2 ^ 40) (hf : ∀ x ∈ l,∀ (base : Nat) (K : AV → Heap → Prop),CallW Tryz.prog C base f [.agg x.cells] H K = K (.bool (q x)) H) (K : AV → Heap → Prop) :
 CallW Tryz.prog C base (.fn 129 []) [slAV k (l.map DigV.cells),f] H K = K (.int .i64 (idxQ q l 0)) H := by
 refine CallW.eq (pure_rule (S.pureS _ (by decide)) (func_rule Tryz.func129 rfl (S.prim _ (by decide)) (by simp) (by kernel_rfl) ?_)) K
 unfold Tryz.f129
 simp [argS]
 refine loop_count l.length (fun i s H' => s 0 = slAV k (l.map DigV.cells) ∧ s 1 = f ∧ s 7 = .int .i64 l.length ∧ s 8 = .int .i64 i ∧ H' = H ∧ idxQ q l 0 = idxQ q (l.drop i) i) ?_ ?_
 ·exact ⟨rfl,rfl,rfl,rfl,rfl,rfl⟩
 rintro i s H' ⟨q0,q1,q7,q8,rfl,hc⟩ hi
 by_cases h : i < l.length
 ·rw [List.drop_eq_getElem_cons h,idxQ] at hc
  have ef := hf l[i] (List.getElem_mem h) H'.length
  cases hq : q l[i] with
  | true =>
   rw [hq,if_pos rfl] at hc
   rw [hq] at ef
   simp [q0,q1,q7,q8,h,hc,ef]
  | false =>
   rw [hq,if_neg (by decide)] at hc
   rw [hq] at ef
   simp [q0,q1,q7,q8,h,hc,ef,wrap_succ h (by omega)]
 ·have h' : i = l.length := by omega
  subst h'
  rw [List.drop_length,idxQ] at hc
  simp [q0,q1,q7,q8,hc]
theorem indexA_eq (S : SettingS C σ) {base : Nat} {H : Heap} {k : SK} {l : List AtV} {f : AV} {q : AtV → Bool} (hl : l.length ≤ 2 ^ 40) (hf : ∀ x ∈ l,∀ (base : Nat) (K : AV → Heap → Prop),CallW Tryz.prog C base f [.agg x.cells] H K = K (.bool (q x)) H) (K : AV → Heap → Prop) :
 CallW Tryz.prog C base (.fn 27 []) [slAV k (l.map AtV.cells),f] H K = K (.int .i64 (idxQ q l 0)) H := by
 refine CallW.eq (pure_rule (S.pureS _ (by decide)) (func_rule Tryz.func27 rfl (S.prim _ (by decide)) (by simp) (by kernel_rfl) ?_)) K
 unfold Tryz.f27
 simp [argS]
 refine loop_count l.length (fun i s H' => s 0 = slAV k (l.map AtV.cells) ∧ s 1 = f ∧ s 7 = .int .i64 l.length ∧ s 8 = .int .i64 i ∧ H' = H ∧ idxQ q l 0 = idxQ q (l.drop i) i) ?_ ?_
 ·exact ⟨rfl,rfl,rfl,rfl,rfl,rfl⟩
 rintro i s H' ⟨q0,q1,q7,q8,rfl,hc⟩ hi
 by_cases h : i < l.length
 ·rw [List.drop_eq_getElem_cons h,idxQ] at hc
  have ef := hf l[i] (List.getElem_mem h) H'.length
  cases hq : q l[i] with
  | true =>
   rw [hq,if_pos rfl] at hc
   rw [hq] at ef
   simp [q0,q1,q7,q8,h,hc,ef]
  | false =>
   rw [hq,if_neg (by decide)] at hc
   rw [hq] at ef
   simp [q0,q1,q7,q8,h,hc,ef,wrap_succ h (by omega)]
 ·have h' : i = l.length := by omega
  subst h'
  rw [List.drop_length,idxQ] at hc
  simp [q0,q1,q7,q8,hc]
theorem blk_app {X : Heap} {b e g : Nat} {row : List AV} (hg : blkRow X b g e 0 = some row) (L : Heap) : blkRow (X ++ L) b g e 0 = some row := by
 have hb : b < X.length := by
  rcases Nat.lt_or_ge b X.length with h | h
  ·exact h
  ·simp [blkRow,List.getElem?_eq_none h] at hg
 simp only [blkRow] at hg ⊢; rw [List.getElem?_append_left hb]; exact hg
theorem get1_eq (S : SettingS C σ) {base b : Nat} {H : Heap} {d : DigV} (hg : blkRow H b 0 32 0 = some d.cells) (x : StoredV) (K : AV → Heap → Prop) :
 CallW Tryz.prog C base (.fn 58 [.ptr b 0 32 0 0]) [.agg x.cells] H K = K (.bool (decide (x.id.d = d.d))) H := by
 refine CallW.eq (pure_rule (S.pureS _ (by decide)) (func_rule Tryz.func58 rfl (S.prim _ (by decide)) (by simp) (by kernel_rfl) ?_)) K
 unfold Tryz.f58
 have e := eq_digV S.toSetting
 simp [argS,blk_app hg,e]
theorem ret_GetP (S : SettingS C σ) (l : List StoredV) (k : SK) (d : DigV) (hl : l.length ≤ 2 ^ 20) : Ret Tryz.prog C 25 [] [slAV k (l.map StoredV.cells),.agg d.cells] (.tup [.agg (getP l d.d).cells,.bool (hasS l d.d)]) := by
 refine ret_pure (S.pureS _ (by decide)) fun H => func_rule Tryz.func25 rfl (S.prim _ (by decide)) (by simp) (by kernel_rfl) ?_
 unfold Tryz.f25
 have e := fun (K : AV → Heap → Prop) => indexS_eq S (base := H.length) (H := H ++ [.rows 32 0 [d.cells],.rows 5 0 [zeroP.cells]]) (k := k) (l := l) (f := .fn 58 [.ptr H.length 0 32 0 0]) (q := fun x => decide (x.id.d = d.d)) (by omega) (fun x _ base K => get1_eq S (by simp) x K) K
 obtain ⟨i1,i2⟩ := idxQ_find (fun x : StoredV => decide (x.id.d = d.d)) l 0
 unfold getP hasS
 cases hf : l.find? (fun x => decide (x.id.d = d.d)) with
 | none =>
  have h0 := i2 hf
  rw [h0] at e
  simp [argS,e,storeA,fillA]
  exact freeze_two (freeze_closed (v := .agg _) (PatchV.closed _)) (by simp)
 | some x =>
  obtain ⟨j,h1,h2⟩ := i1 x hf
  rw [h1] at e
  have hj : j < l.length := (List.getElem?_eq_some_iff.1 h2).1
  have hjx : l[j] = x := by rw [List.getElem?_eq_getElem hj] at h2; exact Option.some.inj h2
  simp only [Nat.zero_add] at e
  simp [argS,e,storeA,fillA,hj,hjx,show ¬ (j : Int) < 0 by omega]
  exact freeze_two (freeze_closed (v := .agg _) (PatchV.closed _)) (by simp)
end Go.Proofs.Ev
namespace Go.Proofs.Ev
open Go.Proofs
variable {C : Cfg} {σ : Sorts}
theorem keyOk_D (S : Setting C) (d : DigV) : keyOk Tryz.prog C 25 (.agg d.cells) = true := by
 have h1 := conf_dig d.d; rw [d.h] at h1
 have hd : d.cells = dig d.d := rfl
 simp only [keyOk,un25,S.kDig,hd]
 exact h1
theorem keyEq_D (S : Setting C) (a b : DigV) : keyEqA Tryz.prog C 25 (.agg a.cells) (.agg b.cells) = some (decide (a.d = b.d)) := by
 have h1 := conf_dig a.d; rw [a.h] at h1
 have h2 := conf_dig b.d; rw [b.h] at h2
 have ha : a.cells = dig a.d := rfl
 have hb : b.cells = dig b.d := rfl
 simp only [keyEqA,eqA,S.kDig,ha,hb,h1,h2,Bool.and_self,if_true,cellsEq_dig a.d b.d (by rw [a.h,b.h])]
def entD (l : List (DigV × AV)) : List (AV × AV) := l.map fun x => (.agg x.1.cells,x.2)
def posE (l : List (DigV × AV)) (d : List Nat) : Option (Nat × AV) :=
 match l with
 | [] => none
 | x :: l => if x.1.d = d then some (0,x.2) else (posE l d).map fun p => (p.1 + 1,p.2)
theorem find_D (S : Setting C) (d : DigV) : ∀ (l : List (DigV × AV)) (i : Nat),findA Tryz.prog C 25 (.agg d.cells) (entD l) i = some ((posE l d.d).map fun p => (p.1 + i,p.2))
 | [],i => rfl
 | x :: l,i => by
  have ih := find_D S d l (i + 1)
  rw [entD,List.map_cons,findA,keyEq_D S,posE]
  by_cases h : x.1.d = d.d
  ·rw [if_pos h,show decide (d.d = x.1.d) = true by simp [h]]; simp
  ·rw [if_neg h,show decide (d.d = x.1.d) = false by simp [Ne.symm h]]
   show findA Tryz.prog C 25 (.agg d.cells) (entD l) (i + 1) = _
   rw [ih]
   cases posE l d.d with
   | none => rfl
   | some p => simp; omega
def doneE (out : List DigV) : List (DigV × AV) := out.map fun d => (d,.bool true)
theorem pos_done : ∀ (out : List DigV) (d : List Nat),(posE (doneE out) d).isSome = hasD out d ∧ ∀ p,posE (doneE out) d = some p → p.2 = .bool true
 | [],d => by simp [doneE,posE,hasD]
 | x :: l,d => by
  have ih := pos_done l d
  have hc : posE (doneE (x :: l)) d = if x.d = d then some (0,.bool true) else (posE (doneE l) d).map fun p => (p.1 + 1,p.2) := rfl
  rw [hc]
  by_cases h : x.d = d
  ·rw [if_pos h]
   exact ⟨by simp [hasD,h],fun p hp => by cases hp; rfl⟩
  ·rw [if_neg h]
   refine ⟨?_,fun p hp => ?_⟩
   ·rw [Option.isSome_map,ih.1]; simp [hasD,h]
   ·cases hq : posE (doneE l) d with
    | none => rw [hq] at hp; cases hp
    | some q => rw [hq] at hp; cases hp; exact ih.2 q hq
theorem look_done (S : Setting C) {X : Heap} {m : Nat} {out : List DigV} (hm : X[m]? = some (.map (entD (doneE out)))) (d : DigV) : lookupA Tryz.prog C X 198 (.map m) (.agg d.cells) false = some (.bool (hasD out d.d)) := by
 have hf := find_D S d (doneE out) 0
 obtain ⟨h1,h2⟩ := pos_done out d.d
 simp only [lookupA,un198,keyOk_D S,entsA,hm,hf,if_true]
 cases hp : posE (doneE out) d.d with
 | none => rw [hp] at h1; simp at h1; simp [← h1]
 | some p => rw [hp] at h1; simp at h1; simp [h2 p hp,← h1]
theorem upd_done (S : Setting C) {base : Nat} {X : Heap} {m : Nat} {out : List DigV} (hb : base ≤ m) (hm : X[m]? = some (.map (entD (doneE out)))) (d : DigV) (hd : hasD out d.d = false) :
 updateA Tryz.prog C base X 198 (.map m) (.agg d.cells) (.bool true) = some (X.set m (.map (entD (doneE (out ++ [d]))))) := by
 have hf := find_D S d (doneE out) 0
 obtain ⟨h1,h2⟩ := pos_done out d.d
 simp only [updateA,un198,keyOk_D S,hm,hf,hb,and_self,if_true]
 cases hp : posE (doneE out) d.d with
 | none => simp [entD,doneE]
 | some p => rw [hp,hd] at h1; simp at h1
def graphE (σ : Sorts) (s : List StoredV) : List (DigV × AV) := s.map fun x => (x.id,slAV (if needL x.patch = [] then .exact else .loose) ((needsP σ x.patch).map DigV.cells))
def SetGood (s : List StoredV) : Prop := (∀ x ∈ s,x.patch.Good) ∧ s.Pairwise (fun x y => x.id.d ≠ y.id.d) ∧ s.length ≤ 2 ^ 20
theorem pos_graph {s : List StoredV} (hu : s.Pairwise (fun x y => x.id.d ≠ y.id.d)) {x : StoredV} (hx : x ∈ s) : ∃ j,posE (graphE σ s) x.id.d = some (j,slAV (if needL x.patch = [] then .exact else .loose) ((needsP σ x.patch).map DigV.cells)) := by
 induction s with
 | nil => cases hx
 | cons y l ih =>
  rw [List.pairwise_cons] at hu
  show ∃ j,posE ((y.id,_) :: graphE σ l) x.id.d = _
  rw [posE]
  rcases List.mem_cons.1 hx with rfl | hx
  ·exact ⟨0,by rw [if_pos rfl]⟩
  ·obtain ⟨j,hj⟩ := ih hu.2 hx
   exact ⟨j + 1,by rw [if_neg (hu.1 x hx),hj]; rfl⟩
theorem pos_graph_none {s : List StoredV} {d : List Nat} (h : ∀ x ∈ s,x.id.d ≠ d) : posE (graphE σ s) d = none := by
 induction s with
 | nil => rfl
 | cons y l ih =>
  show posE ((y.id,_) :: graphE σ l) d = _
  rw [posE,if_neg (h y (by simp)),ih fun x hx => h x (by simp [hx])]; rfl
end Go.Proofs.Ev
namespace Go.Proofs.Ev
open Go.Proofs
variable {C : Cfg} {σ : Sorts}
theorem upd_graph (S : Setting C) {base : Nat} {X : Heap} {m : Nat} {l : List (DigV × AV)} (hb : base ≤ m) (hm : X[m]? = some (.map (entD l))) (d : DigV) (v : AV) (hd : posE l d.d = none) :
 updateA Tryz.prog C base X 196 (.map m) (.agg d.cells) v = some (X.set m (.map (entD (l ++ [(d,v)])))) := by
 have hf := find_D S d l 0
 rw [hd] at hf
 simp only [updateA,un196,keyOk_D S,hm,hf,hb,and_self,if_true]
 simp [entD]
theorem look_graph (S : Setting C) {X : Heap} {m : Nat} {l : List (DigV × AV)} (hm : X[m]? = some (.map (entD l))) (d : DigV) {j : Nat} {v : AV} (hd : posE l d.d = some (j,v)) : lookupA Tryz.prog C X 196 (.map m) (.agg d.cells) false = some v := by
 have hf := find_D S d l 0
 rw [hd] at hf
 simp only [lookupA,un196,keyOk_D S,entsA,hm,hf,if_true]
 simp
set_option maxHeartbeats 2000000 in
theorem graph_ex (S : SettingS C σ) (l : List StoredV) (k : SK) (hl : SetGood l) {base : Nat} {H : Heap} (hb : base ≤ H.length) :
 ∃ J,∀ K : AV → Heap → Prop,CallW Tryz.prog C base (.fn 100 []) [slAV k (l.map StoredV.cells)] H K = K (.map H.length) (H ++ .map (entD (graphE σ l)) :: J) := by
 obtain ⟨hl1,hl2,hl3⟩ := hl
 suffices h : CallW Tryz.prog C base (.fn 100 []) [slAV k (l.map StoredV.cells)] H (fun v' H' => ∃ J,v' = .map H.length ∧ H' = H ++ .map (entD (graphE σ l)) :: J) by
  obtain ⟨n,v1,H1,h1,J,rfl,rfl⟩ := h
  exact ⟨J,fun K => CallW.eq ⟨n,_,_,h1,rfl,rfl⟩ K⟩
 refine call_rule (S.plainS _ (by decide)).1 (S.plainS _ (by decide)).2 (func_rule Tryz.func100 rfl (S.prim _ (by decide)) (by simp) (by kernel_rfl) ?_)
 unfold Tryz.f100
 simp [argS]
 refine loop_count l.length (fun i s H' => s 3 = .map H.length ∧ s 7 = slAV k (l.map StoredV.cells) ∧ s 8 = .int .i64 l.length ∧ s 9 = .int .i64 i ∧ ∃ J,H' = H ++ .map (entD (graphE σ (l.take i))) :: J) ?_ ?_
 ·exact ⟨rfl,rfl,rfl,rfl,[],rfl⟩
 rintro i s H' ⟨q3,q7,q8,q9,J,rfl⟩ hi
 by_cases h : i < l.length
 ·have hm := List.getElem_mem h
  have en := (ret_Needs S.toSettingR l[i].patch (hl1 _ hm)).eq
  have hp : posE (graphE σ (l.take i)) l[i].id.d = none := pos_graph_none fun x hx => by
   obtain ⟨j,hj,rfl⟩ := List.getElem_of_mem hx
   have hjl : j < i := by simp at hj; omega
   rw [List.getElem_take]
   exact List.pairwise_iff_getElem.1 hl2 j i (by omega) h hjl
  have hg : graphE σ (l.take (i + 1)) = graphE σ (l.take i) ++ [(l[i].id,slAV (if needL l[i].patch = [] then .exact else .loose) ((needsP σ l[i].patch).map DigV.cells))] := by
   unfold graphE; rw [List.take_add_one,List.getElem?_eq_getElem h,List.map_append]; rfl
  have eu := upd_graph S.toSetting (base := base) (X := H ++ .map (entD (graphE σ (l.take i))) :: (J ++ [.rows 37 0 [l[i].cells]])) (m := H.length) hb (by simp) l[i].id (slAV (if needL l[i].patch = [] then .exact else .loose) ((needsP σ l[i].patch).map DigV.cells)) hp
  rw [← hg] at eu
  obtain ⟨v,hv⟩ : ∃ v,v = slAV (if needL l[i].patch = [] then .exact else .loose) ((needsP σ l[i].patch).map DigV.cells) := ⟨_,rfl⟩
  rw [← hv] at en eu
  have hd0 : digest0.length = 32 := by decide
  have hdr : List.drop 37 (dig digest0 ++ zeroP.cells) = [] := by decide
  have hb2 : base ≤ H.length + (J.length + 1) := by omega
  simp [q3,q7,q8,q9,h,storeA,fillA,en,eu,hd0,hdr,hb2]
  rw [kOpsU_turn (h := by kernel_rfl)]
  simp [q3,q7,q8,q9,wrap_succ h (by omega)]
  exact h
 ·have h' : i = l.length := by omega
  subst h'
  rw [List.take_length]
  simp [q3,q7,q8,q9]
def GrowS (start sz : Nat) (X : Heap) (v : AV) (rows : List (List AV)) : Prop := start ≤ X.length ∧ GrowX start sz (X.drop start) v rows
theorem GrowS.append {P : Program} {base : Nat} {ts : Array TypeId} {e : TypeId} {xd : TypeDesc} {sz by_ start : Nat} (h0 : (ts[0]?).bind P.underlying = some (.slice e)) (h1 : (ts[1]?).bind P.underlying = some xd) (hs : szOf P e = some sz) (hb : bytesOf P e = some by_)
 (hz : (ofZero P e).map (fun z => z.cells.length) = some sz) (hp : 0 < sz) {X : Heap} (hY : base ≤ start) {v x : AV} {rows ys : List (List AV)} (hg : GrowS start sz X v rows) (hr : ∀ r ∈ rows,r.length = sz)
 (hx : tailRows X xd x = some ys) (hy : ∀ r ∈ ys,r.length = sz) (hbound : (rows.length + ys.length) * (by_ + 1) ≤ 2 ^ 45) :
 ∃ v' X',appendA P base X ts v.denil x = some (v',X') ∧ GrowS start sz X' v' (rows ++ ys) ∧ Stays sz X X' ∧ (ys ≠ [] → ∃ b g l,v' = .sl b g sz 0 l) := by
 obtain ⟨hst,hg⟩ := hg
 have hl : (X.take start).length = start := by simp; omega
 have hX : X.take start ++ X.drop start = X := List.take_append_drop start X
 obtain ⟨v',J',a1,a2,a3⟩ := GrowX.appendP (P := P) (base := base) (Z := X.take start) (J := X.drop start) h0 h1 hs hb hz hp hl.symm (by omega) hg hr (by rw [hX]; exact hx) hy hbound
 rw [hX] at a1
 refine ⟨v',X.take start ++ J',a1,⟨by simp; omega,?_⟩,?_,fun hne => appendA_sl h0 h1 hs hb hx hne a1⟩
 ·rw [List.drop_append_of_le_length (by omega),List.drop_of_length_le (by omega)]; exact a2
 ·have := a3.head (Z := X.take start)
  rw [hX] at this
  exact this
theorem GrowS.app {start sz : Nat} {X : Heap} {v : AV} {rows : List (List AV)} (hg : GrowS start sz X v rows) (L : Heap) : GrowS start sz (X ++ L) v rows := by
 refine ⟨by have := hg.1; simp; omega,?_⟩
 rw [List.drop_append_of_le_length hg.1]; exact hg.2.app L
theorem GrowS.setL {start sz j : Nat} {X : Heap} {v : AV} {rows : List (List AV)} {blk x : Blk} (hg : GrowS start sz X v rows) (hj : X[j]? = some blk) (hb : ∀ g rs,blk ≠ .rows sz g rs) : GrowS start sz (X.set j x) v rows := by
 refine ⟨by simpa using hg.1,?_⟩
 rcases Nat.lt_or_ge j start with h | h
 ·rw [List.drop_set_of_lt h]; exact hg.2
 ·rw [List.drop_set,if_neg (by omega)]
  refine hg.2.setL (blk := blk) ?_ hb
  rw [List.getElem?_drop]; rw [show start + (j - start) = j by omega]; exact hj
theorem order11_eq (S : SettingS C σ) {base b m : Nat} {X : Heap} {out : List DigV} (hb : blkRow X b 0 1 0 = some [.map m]) (hm : X[m]? = some (.map (entD (doneE out)))) (d : DigV) (K : AV → Heap → Prop) :
 CallW Tryz.prog C base (.fn 102 [.ptr b 0 1 0 0]) [.agg d.cells] X K = K (.bool (!hasD out d.d)) X := by
 have hmX : m < X.length := (List.getElem?_eq_some_iff.1 hm).1
 have hlk := fun L => look_done S.toSetting (X := X ++ L) (m := m) (out := out) (by rw [List.getElem?_append_left hmX]; exact hm) d
 refine CallW.eq (pure_rule (S.pureS _ (by decide)) (func_rule Tryz.func102 rfl (S.prim _ (by decide)) (by simp) (by kernel_rfl) ?_)) K
 unfold Tryz.f102
 simp [argS,blk_app hb,hlk]
theorem containsD_eq (S : SettingS C σ) {base : Nat} {H : Heap} {k : SK} {l : List DigV} {f : AV} {q : DigV → Bool} (hl : l.length ≤ 2 ^ 40) (hf : ∀ x ∈ l,∀ (base : Nat) (K : AV → Heap → Prop),CallW Tryz.prog C base f [.agg x.cells] H K = K (.bool (q x)) H) (K : AV → Heap → Prop) :
 CallW Tryz.prog C base (.fn 77 []) [slAV k (l.map DigV.cells),f] H K = K (.bool (l.any q)) H := by
 refine CallW.eq (pure_rule (S.pureS _ (by decide)) (func_rule Tryz.func77 rfl (S.prim _ (by decide)) (by simp) (by kernel_rfl) ?_)) K
 unfold Tryz.f77
 have e := fun K => indexD_eq S (base := H.length) (H := H) (k := k) hl hf K
 have hi := idxQ_ge q l 0
 have ha : l.any q = (l.find? q).isSome := by rw [Bool.eq_iff_iff,List.any_eq_true,List.find?_isSome]
 simp [argS,e]
 rw [ha,Bool.eq_iff_iff,decide_eq_true_eq,hi]
end Go.Proofs.Ev
namespace Go.Proofs.Ev
open Go.Proofs
variable {C : Cfg} {σ : Sorts}
theorem flatten_len {α β : Type} {f : α → List β} {b : Nat} : ∀ {l : List α},(∀ x ∈ l,(f x).length ≤ b) → (l.map f).flatten.length ≤ b * l.length
 | [],_ => by simp
 | x :: l,h => by
  have h1 := h x (by simp)
  have h2 := flatten_len (l := l) fun y hy => h y (by simp [hy])
  simp only [List.map_cons,List.flatten_cons,List.length_append,List.length_cons,Nat.mul_add]
  omega
theorem needsP_len (hd : ∀ l,(σ.d l).Perm l) {p : PatchV} (hp : p.Good) : (needsP σ p).length ≤ 2 ^ 20 := by
 have h1 := (compL_len (σ.d (needL p))).1
 have h2 := (hd (needL p)).length_eq
 have h3 := flatten_len (f := fun c => others (refIds c)) (b := 404) (l := p.changes) fun c hc => Nat.le_trans (others_len _) (refIds_len c (hp.good hc).on)
 obtain ⟨_,_,h4,_,h5⟩ := hp.head
 have h6 : (needL p).length = p.deps.length + ((p.changes.map fun c => others (refIds c)).flatten).length := by unfold needL; simp
 unfold needsP
 omega
def okP (σ : Sorts) (out : List DigV) (x : StoredV) : Bool := !hasD out x.id.d && allD out (needsP σ x.patch)
theorem order1_eq (S : SettingS C σ) {base b3 b4 gm m : Nat} {X : Heap} {s : List StoredV} {out : List DigV} (hs : SetGood s) (h3 : blkRow X b3 0 1 0 = some [.map gm]) (hgm : X[gm]? = some (.map (entD (graphE σ s)))) (h4 : blkRow X b4 0 1 0 = some [.map m]) (hm : X[m]? = some (.map (entD (doneE out))))
 {x : StoredV} (hx : x ∈ s) (K : AV → Heap → Prop) :
 CallW Tryz.prog C base (.fn 101 [.ptr b4 0 1 0 0,.ptr b3 0 1 0 0]) [.agg x.cells] X K = K (.bool (okP σ out x)) X := by
 have hmX : m < X.length := (List.getElem?_eq_some_iff.1 hm).1
 have hgX : gm < X.length := (List.getElem?_eq_some_iff.1 hgm).1
 have hlk := fun L => look_done S.toSetting (X := X ++ L) (m := m) (out := out) (by rw [List.getElem?_append_left hmX]; exact hm) x.id
 obtain ⟨j,hj⟩ := pos_graph (σ := σ) hs.2.1 hx
 have hlg := fun L => look_graph S.toSetting (X := X ++ L) (m := gm) (l := graphE σ s) (by rw [List.getElem?_append_left hgX]; exact hgm) x.id hj
 have hnl := needsP_len S.permD (hs.1 x hx)
 refine CallW.eq (pure_rule (S.pureS _ (by decide)) (func_rule Tryz.func101 rfl (S.prim _ (by decide)) (by simp) (by kernel_rfl) ?_)) K
 unfold Tryz.f101
 have ec := fun K => containsD_eq S (base := X.length) (H := X ++ [.rows 37 0 [x.cells]]) (k := if needL x.patch = [] then .exact else .loose) (l := needsP σ x.patch) (f := .fn 102 [.ptr b4 0 1 0 0]) (q := fun d => !hasD out d.d) (by omega)
  (fun d _ base K => order11_eq S (blk_app h4 _) (by rw [List.getElem?_append_left hmX]; exact hm) d K) K
 have hall : (needsP σ x.patch).any (fun d => !hasD out d.d) = !allD out (needsP σ x.patch) := by
  rw [allD,Bool.eq_iff_iff]; simp
 rw [hall] at ec
 obtain ⟨kk,hkk⟩ : ∃ kk,kk = (if needL x.patch = [] then SK.exact else SK.loose) := ⟨_,rfl⟩
 rw [← hkk] at ec hlg
 unfold okP
 cases hd : hasD out x.id.d with
 | true => simp [argS,guardV,blk_app h3,blk_app h4,hlk,hd]
 | false => simp [argS,guardV,blk_app h3,blk_app h4,hlk,hlg,hd,ec]
def ordP (σ : Sorts) (s : List StoredV) : Nat → List DigV → List DigV
 | 0,out => out
 | n + 1,out => match s.find? (okP σ out) with | some x => ordP σ s n (out ++ [x.id]) | none => out
theorem GrowS.freeze {start sz d : Nat} {X : Heap} {v : AV} {rows : List (List AV)} (hg : GrowS start sz X v rows) (hc : AV.closedss rows = true) (hv : (rows = [] ∧ v = .nils) ∨ (rows ≠ [] ∧ ∃ b g l,v = .sl b g sz 0 l)) : freezeA X start (d + 1) v = some (slAV (nlK rows) rows) := by
 rcases hv with ⟨h0,h1⟩ | ⟨h0,b,g,l,h1⟩
 ·rw [h0,h1]; simp [nlK,slAV]
 ·have hk : nlK rows = .loose := by unfold nlK; cases rows with | nil => exact absurd rfl h0 | cons _ _ => rfl
  rcases hg.2 with ⟨_,h2⟩ | h2 | ⟨b',g',h2,h3⟩
  ·rw [h1] at h2; cases h2
  ·rw [h1] at h2; cases h2
  ·rw [List.getElem?_drop] at h3
   rw [h2,freeze_sl h3 (by omega) hc,hk]
   cases rows <;> rfl
structure OrdSt (σ : Sorts) (s : List StoredV) (st b3 b4 gm m : Nat) (out : List DigV) (v : AV) (X : Heap) : Prop where
 h3 : blkRow X b3 0 1 0 = some [.map gm]
 hg : X[gm]? = some (.map (entD (graphE σ s)))
 h4 : blkRow X b4 0 1 0 = some [.map m]
 hm : X[m]? = some (.map (entD (doneE out)))
 ne : gm ≠ m
 low : st ≤ m
 grow : GrowS st 32 X v (out.map DigV.cells)
 v : (out = [] ∧ v = .nils) ∨ (out ≠ [] ∧ ∃ b g l,v = .sl b g 32 0 l)
theorem blk_stays {X X' : Heap} {b sz : Nat} {r : List AV} (h : blkRow X b 0 1 0 = some r) (hs : Stays sz X X') (hne : sz ≠ 1) : blkRow X' b 0 1 0 = some r := by
 unfold blkRow at h ⊢
 cases hb : X[b]? with
 | none => rw [hb] at h; cases h
 | some blk =>
  rw [hb] at h
  cases blk with
  | rows e g rs =>
   simp only at h
   split at h
   ·rename_i hc
    obtain ⟨rfl,rfl⟩ := hc
    rw [hs b _ hb (by intro g' rs' h'; cases h'; exact hne rfl)]
    simpa using h
   ·cases h
  | _ => cases h
theorem blk_setm {X : Heap} {b m : Nat} {r : List AV} {es : List (AV × AV)} {x : Blk} (h : blkRow X b 0 1 0 = some r) (hm : X[m]? = some (.map es)) : blkRow (X.set m x) b 0 1 0 = some r := by
 unfold blkRow at h ⊢
 rw [List.getElem?_set_ne]
 ·exact h
 ·rintro rfl
  rw [hm] at h; cases h
set_option maxRecDepth 100000 in
set_option maxHeartbeats 4000000 in
theorem ret_Order (S : SettingS C σ) (s0 : List StoredV) (k : SK) (hs : SetGood s0) : Ret Tryz.prog C 53 [] [slAV k (s0.map StoredV.cells)] (slAV (nlK (ordP σ s0 s0.length [])) ((ordP σ s0 s0.length []).map DigV.cells)) := by
 refine ret_pure (S.pureS _ (by decide)) fun H => func_rule Tryz.func53 rfl (S.prim _ (by decide)) (by simp) (by kernel_rfl) ?_
 unfold Tryz.f53
 obtain ⟨J,eg⟩ := graph_ex S s0 k hs (base := H.length) (H := H) (Nat.le_refl _)
 have hlen := hs.2.2
 refine cut (fun s H' => s 0 = slAV k (s0.map StoredV.cells) ∧ H' = H) ?_ ?_
 ·simp [argS]
 rintro s X ⟨q0,rfl⟩
 refine cut (fun s H' => s 0 = slAV k (s0.map StoredV.cells) ∧ s 3 = .ptr (X.length + (J.length + 1)) 0 1 0 0 ∧ H' = X ++ .map (entD (graphE σ s0)) :: (J ++ [.rows 1 0 [[.map X.length]]])) ?_ ?_
 ·simp [q0,eg,storeA]
  exact ⟨rfl,by decide,rfl,rfl⟩
 rintro s H' ⟨q0,q3,rfl⟩
 refine cut (fun s H' => s 0 = slAV k (s0.map StoredV.cells) ∧ s 3 = .ptr (X.length + (J.length + 1)) 0 1 0 0 ∧ s 4 = .ptr (X.length + (J.length + 3)) 0 1 0 0 ∧ H' = X ++ .map (entD (graphE σ s0)) :: (J ++ [.rows 1 0 [[.map X.length]],.map [],.rows 1 0 [[.map (X.length + (J.length + 2))]]])) ?_ ?_
 ·simp [q0,q3,storeA]
  exact ⟨rfl,by decide,rfl,rfl⟩
 rintro s H' ⟨q0,q3,q4,rfl⟩
 obtain ⟨b3,hb3⟩ : ∃ b3,b3 = X.length + (J.length + 1) := ⟨_,rfl⟩
 obtain ⟨b4,hb4⟩ : ∃ b4,b4 = X.length + (J.length + 3) := ⟨_,rfl⟩
 obtain ⟨m,hm⟩ : ∃ m,m = X.length + (J.length + 2) := ⟨_,rfl⟩
 have hst0 : OrdSt σ s0 X.length b3 b4 X.length m [] .nils (X ++ .map (entD (graphE σ s0)) :: (J ++ [.rows 1 0 [[.map X.length]],.map [],.rows 1 0 [[.map (X.length + (J.length + 2))]]])) := by
  refine ⟨?_,by simp,?_,?_,by omega,by omega,⟨by simp,.inl ⟨rfl,rfl⟩⟩,.inl ⟨rfl,rfl⟩⟩
  ·rw [hb3]; simp [blkRow]
  ·rw [hb4,hm]; simp [blkRow]
  ·rw [hm]; simp [entD,doneE]
 rw [← hb3] at q3
 rw [← hb4] at q4
 obtain ⟨st,hst⟩ : ∃ st,st = X.length := ⟨_,rfl⟩
 rw [← hst] at hst0
 obtain ⟨X1,hX1⟩ : ∃ X1,X1 = (X ++ .map (entD (graphE σ s0)) :: (J ++ [.rows 1 0 [[.map st]],.map [],.rows 1 0 [[.map (st + (J.length + 2))]]])) := ⟨_,rfl⟩
 rw [← hst]
 rw [← hX1] at hst0 ⊢
 clear hX1 hm hb3 hb4 eg
 refine cut (fun s X => s 0 = slAV k (s0.map StoredV.cells) ∧ s 3 = .ptr b3 0 1 0 0 ∧ s 4 = .ptr b4 0 1 0 0 ∧ OrdSt σ s0 st b3 b4 st m [] (s 5) X) ?_ ?_
 ·simp [q0,q3,q4,hst0]
 clear hst0 q0 q3 q4
 rintro s X ⟨q0,q3,q4,hO⟩
 refine cut (fun s X => ∃ b3 b4 gm m,OrdSt σ s0 st b3 b4 gm m (ordP σ s0 s0.length []) (s 5) X) ?_ ?_
 rotate_left
 ·rintro s X ⟨b3,b4,gm,m,hO⟩
  simp
  have hf := hO.grow.freeze (d := 2) (closedss_map DigV.closed _) (by simpa using hO.v)
  have hk : nlK ((ordP σ s0 s0.length []).map DigV.cells) = nlK (ordP σ s0 s0.length []) := by unfold nlK; cases ordP σ s0 s0.length [] <;> rfl
  rw [hk] at hf
  exact hf
 simp [q0,q3,q4]
 refine loop_count s0.length (fun i s X => s 0 = slAV k (s0.map StoredV.cells) ∧ s 3 = .ptr b3 0 1 0 0 ∧ s 4 = .ptr b4 0 1 0 0 ∧ s 11 = .int .i64 s0.length ∧ s 12 = .int .i64 i ∧ ∃ out,ordP σ s0 s0.length [] = ordP σ s0 (s0.length - i) out ∧ out.length = i ∧ OrdSt σ s0 st b3 b4 st m out (s 5) X) ?_ ?_
 ·exact ⟨q0,q3,q4,rfl,rfl,[],rfl,rfl,hO⟩
 clear hO q0 q3 q4
 rintro i s X ⟨q0,q3,q4,q11,q12,out,ho,hol,hO⟩ hi
 by_cases h : i < s0.length
 rotate_left
 ·have h' : i = s0.length := by omega
  rw [h',Nat.sub_self,ordP] at ho
  subst h'
  simp [q0,q3,q4,q11,q12]
  exact ⟨b3,b4,st,m,ho ▸ hO⟩
 rw [show s0.length - i = (s0.length - (i + 1)) + 1 by omega,ordP] at ho
 have e := fun (K : AV → Heap → Prop) => indexS_eq S (base := st) (H := X) (k := k) (l := s0) (f := .fn 101 [.ptr b4 0 1 0 0,.ptr b3 0 1 0 0]) (q := okP σ out) (by omega) (fun x hx base K => order1_eq S hs hO.h3 hO.hg hO.h4 hO.hm hx K) K
 obtain ⟨i1,i2⟩ := idxQ_find (okP σ out) s0 0
 cases hf : s0.find? (okP σ out) with
 | none =>
  rw [i2 hf] at e
  rw [hf] at ho
  simp [q0,q3,q4,q11,q12,h,e]
  exact ⟨b3,b4,st,m,ho ▸ hO⟩
 | some x =>
  obtain ⟨j,h1,h2⟩ := i1 x hf
  rw [Nat.zero_add] at h1
  rw [h1] at e
  rw [hf] at ho
  have hj : j < s0.length := (List.getElem?_eq_some_iff.1 h2).1
  have hjx : s0[j] = x := by rw [List.getElem?_eq_getElem hj] at h2; exact Option.some.inj h2
  have hok := List.find?_some hf
  unfold okP at hok
  simp only [Bool.and_eq_true,Bool.not_eq_true'] at hok
  have eu := upd_done S.toSetting (base := st) hO.low hO.hm x.id hok.1
  have hmX : m < X.length := (List.getElem?_eq_some_iff.1 hO.hm).1
  have hgr := hO.grow.setL (x := .map (entD (doneE (out ++ [x.id])))) hO.hm (by intro g rs h; cases h)
  obtain ⟨v',X',ha,hg',hsty,hsl⟩ := hgr.append (P := Tryz.prog) (base := st) (ts := #[60,60]) (e := 25) (xd := .slice 25) (x := .lst [x.id.cells] true) (ys := [x.id.cells])
   (by simp) (by simp) sz25 by25 (by simp [show digest0.length = 32 by decide]) (by decide) (Nat.le_refl _) (fun r hr => by obtain ⟨y,_,rfl⟩ := List.mem_map.1 hr; simp) rfl (by simp) (by simp; omega)
  have hO' : OrdSt σ s0 st b3 b4 st m (out ++ [x.id]) v' X' := by
   refine ⟨blk_stays (blk_setm hO.h3 hO.hm) hsty (by decide),?_,blk_stays (blk_setm hO.h4 hO.hm) hsty (by decide),?_,hO.ne,hO.low,by simpa using hg',.inr ⟨by simp,hsl (by simp)⟩⟩
   ·exact hsty _ _ (by rw [List.getElem?_set_ne (Ne.symm hO.ne)]; exact hO.hg) (by intro g rs h; cases h)
   ·exact hsty _ _ (by rw [List.getElem?_set_self hmX]) (by intro g rs h; cases h)
  have hd0 : digest0.length = 32 := by decide
  have hnj : ¬ (j : Int) < 0 := by omega
  obtain ⟨h4',h3'⟩ := And.intro hO.h4 hO.h3
  simp [q0,q3,q4,q11,q12,h,e,hnj,hj,hjx,h4',eu]
  rw [kOpsU_turn (h := by kernel_rfl)]
  simp [q0,q3,q4,q11,q12,hj,hjx,buildSliceA,fillRows,hd0,ha,wrap_succ h (by omega)]
  exact ⟨h,out ++ [x.id],ho,by simp [hol],hO'⟩
theorem ret_containsDD (S : SettingS C σ) (l : List DigV) (k : SK) (d : DigV) (hl : l.length ≤ 2 ^ 40) : Ret Tryz.prog C 103 [] [slAV k (l.map DigV.cells),.agg d.cells] (.bool (hasD l d.d)) := by
 have key : Ret Tryz.prog C 159 [] [slAV k (l.map DigV.cells),.agg d.cells] (.int .i64 (idxQ (fun x => decide (x.d = d.d)) l 0)) := by
  refine ret_pure (S.pureS _ (by decide)) fun H => func_rule Tryz.func159 rfl (S.prim _ (by decide)) (by simp) (by kernel_rfl) ?_
  unfold Tryz.f159
  have e := eq_digV S.toSetting
  simp [argS]
  refine loop_count l.length (fun i s H' => s 0 = slAV k (l.map DigV.cells) ∧ s 3 = .ptr H.length 0 32 0 0 ∧ s 7 = .int .i64 l.length ∧ s 8 = .int .i64 i ∧ H' = H ++ [.rows 32 0 [d.cells]] ∧ idxQ (fun x => decide (x.d = d.d)) l 0 = idxQ (fun x => decide (x.d = d.d)) (l.drop i) i) ?_ ?_
  ·exact ⟨rfl,rfl,rfl,rfl,rfl,rfl⟩
  rintro i s H' ⟨q0,q3,q7,q8,rfl,hc⟩ hi
  by_cases h : i < l.length
  ·rw [List.drop_eq_getElem_cons h,idxQ] at hc
   by_cases hq : l[i].d = d.d
   ·rw [if_pos (by simpa using hq)] at hc
    simp [q0,q3,q7,q8,h,hc,e,hq]
   ·rw [if_neg (by simpa using hq)] at hc
    have hq' : ¬ d.d = l[i].d := fun h' => hq h'.symm
    simp [q0,q3,q7,q8,h,hc,e,hq',wrap_succ h (by omega)]
  ·have h' : i = l.length := by omega
   subst h'
   rw [List.drop_length,idxQ] at hc
   simp [q0,q3,q7,q8,hc]
 refine ret_pure (S.pureS _ (by decide)) fun H => func_rule Tryz.func103 rfl (S.prim _ (by decide)) (by simp) (by kernel_rfl) ?_
 unfold Tryz.f103
 have hi := idxQ_ge (fun x : DigV => decide (x.d = d.d)) l 0
 have ha : hasD l d.d = (l.find? fun x => decide (x.d = d.d)).isSome := by rw [hasD,Bool.eq_iff_iff,List.any_eq_true,List.find?_isSome]
 have ek := key.eq
 simp [argS,ek]
 rw [ha,Bool.eq_iff_iff,decide_eq_true_eq,hi]
end Go.Proofs.Ev
namespace Go.Proofs.Ev
open Go.Proofs
variable {C : Cfg} {σ : Sorts}
def keepP (l : List StoredV) (ids : List DigV) : List StoredV := l.filter fun x => hasD ids x.id.d
def KpIs (H : Heap) (l : List StoredV) (v : AV) (X : Heap) : Prop := GrowS H.length 37 X v (l.map StoredV.cells) ∧ ((l = [] ∧ v = .nils) ∨ (l ≠ [] ∧ ∃ b g n,v = .sl b g 37 0 n))
theorem ret_Keep (S : SettingS C σ) (l : List StoredV) (ids : List DigV) (k k2 : SK) (hl : l.length ≤ 2 ^ 20) (hi : ids.length ≤ 2 ^ 20) : Ret Tryz.prog C 54 [] [slAV k (l.map StoredV.cells),slAV k2 (ids.map DigV.cells)] (slAV (nlK (keepP l ids)) ((keepP l ids).map StoredV.cells)) := by
 refine ret_pure (S.pureS _ (by decide)) fun H => func_rule Tryz.func54 rfl (S.prim _ (by decide)) (by simp) (by kernel_rfl) ?_
 unfold Tryz.f54
 simp [argS]
 refine loop_count l.length (fun i s X => s 1 = slAV k2 (ids.map DigV.cells) ∧ s 8 = slAV k (l.map StoredV.cells) ∧ s 9 = .int .i64 l.length ∧ s 10 = .int .i64 i ∧ KpIs H (keepP (l.take i) ids) (s 5) X) ?_ ?_
 ·exact ⟨rfl,rfl,rfl,rfl,⟨Nat.le_refl _,.inl ⟨rfl,rfl⟩⟩,.inl ⟨rfl,rfl⟩⟩
 rintro i s X ⟨q1,q8,q9,q10,hg,hv⟩ hi'
 by_cases h : i < l.length
 ·have ec := (ret_containsDD S ids k2 l[i].id (by omega)).eq
  have hs : keepP (l.take (i + 1)) ids = keepP (l.take i) ids ++ (if hasD ids l[i].id.d then [l[i]] else []) := by
   unfold keepP; rw [List.take_add_one,List.getElem?_eq_getElem h,List.filter_append]
   cases hh : hasD ids l[i].id.d <;> simp [hh]
  have hd0 : digest0.length = 32 := by decide
  have hdr : List.drop 37 (dig digest0 ++ zeroP.cells) = [] := by decide
  have hlow := hg.1
  have hkl : (keepP (l.take i) ids).length ≤ 2 ^ 20 := by
   have := List.length_filter_le (fun x : StoredV => hasD ids x.id.d) (l.take i)
   have h2 : (l.take i).length ≤ l.length := by simp; omega
   unfold keepP; omega
  cases hh : hasD ids l[i].id.d with
  | false =>
   rw [hh,if_neg (by decide),List.append_nil] at hs
   simp [q1,q8,q9,q10,h,storeA,fillA,ec,hh,hd0,hdr,hlow,wrap_succ h (by omega)]
   rw [hs]
   exact ⟨hg.app _,hv⟩
  | true =>
   rw [hh,if_pos rfl] at hs
   obtain ⟨v',X',ha,hg',_,hsl⟩ := (hg.app [.rows 37 0 [l[i].cells]]).append (P := Tryz.prog) (base := H.length) (ts := #[23,23]) (e := 104) (xd := .slice 104) (x := .lst [l[i].cells] true) (ys := [l[i].cells])
    (by simp) (by simp) sz104 by104 (by simp [hd0]) (by decide) (Nat.le_refl _) (fun r hr => by obtain ⟨y,_,rfl⟩ := List.mem_map.1 hr; simp) rfl (by simp) (by simp; omega)
   simp [q1,q8,q9,q10,h,storeA,fillA,ec,hh,hd0,hdr,hlow,buildSliceA,fillRows,ha,wrap_succ h (by omega)]
   rw [hs]
   exact ⟨by simpa using hg',.inr ⟨by simp,hsl (by simp)⟩⟩
 ·have h' : i = l.length := by omega
  subst h'
  rw [List.take_length] at hg hv
  have hf := hg.freeze (d := 2) (closedss_map StoredV.closed _) (by simpa using hv)
  have hk : nlK ((keepP l ids).map StoredV.cells) = nlK (keepP l ids) := by unfold nlK; cases keepP l ids <;> rfl
  rw [hk] at hf
  simp [q1,q8,q9,q10]
  exact hf
def findP (σ : Sorts) (s : List StoredV) (id : IdV) : Option AtV := if hasS s id.d then (atomsP σ (getP s id.d)).find? (fun x => sameId x.id id) else none
theorem find1_eq (S : SettingS C σ) {base b : Nat} {H : Heap} {id : IdV} (hg : blkRow H b 0 33 0 = some id.cells) (x : AtV) (K : AV → Heap → Prop) :
 CallW Tryz.prog C base (.fn 28 [.ptr b 0 33 0 0]) [.agg x.cells] H K = K (.bool (sameId x.id id)) H := by
 refine CallW.eq (pure_rule (S.pureS _ (by decide)) (func_rule Tryz.func28 rfl (S.prim _ (by decide)) (by simp) (by kernel_rfl) ?_)) K
 unfold Tryz.f28
 have e := eq_idV S.toSetting
 simp [argS,blk_app hg,e]
theorem getP_good {s : List StoredV} (hs : SetGood s) {d : List Nat} (h : hasS s d = true) : (getP s d).Good ∧ ∃ x ∈ s,x.id.d = d ∧ x.patch = getP s d := by
 unfold hasS at h
 unfold getP
 cases hf : s.find? (fun x => decide (x.id.d = d)) with
 | none => rw [hf] at h; cases h
 | some x =>
  have hm := List.mem_of_find?_eq_some hf
  exact ⟨hs.1 x hm,x,hm,by simpa using List.find?_some hf,rfl⟩
theorem atomsP_len {p : PatchV} (hp : p.Good) : (atomsP σ p).length ≤ 90000 := by rw [atomsP,List.length_map]; exact hp.n
set_option maxHeartbeats 2000000 in
theorem ret_Find (S : SettingS C σ) (l : List StoredV) (k : SK) (id : IdV) (hl : SetGood l) : Ret Tryz.prog C 8 [] [slAV k (l.map StoredV.cells),.agg id.cells] (.tup [.agg ((findP σ l id).getD zeroAt).cells,.bool (findP σ l id).isSome]) := by
 refine ret_pure (S.pureS _ (by decide)) fun H => func_rule Tryz.func8 rfl (S.prim _ (by decide)) (by simp) (by kernel_rfl) ?_
 unfold Tryz.f8
 have eg := (ret_GetP S l k id.dv hl.2.2).eq
 have hdv : id.dv.cells = dig id.d := rfl
 have hdd : id.dv.d = id.d := rfl
 rw [hdv,hdd] at eg
 have hfin : ∀ (X : Heap) (x : AtV) (b : Bool),freezeA X H.length 3 (.tup [.agg x.cells,.bool b]) = some (.tup [.agg x.cells,.bool b]) := fun X x b => freeze_two (freeze_closed (v := .agg _) (AtV.closed _)) (by simp)
 cases hh : hasS l id.d with
 | false =>
  have hf : findP σ l id = none := by unfold findP; rw [hh]; rfl
  rw [hh] at eg
  simp [argS,eg,storeA,fillA,hf]
  exact hfin _ _ _
 | true =>
  obtain ⟨hpg,_⟩ := getP_good hl hh
  have ea := (ret_Atoms S.toSettingQ (getP l id.d) hpg).eq
  have hal := atomsP_len (σ := σ) hpg
  rw [hh] at eg
  obtain ⟨p,hp⟩ : ∃ p,p = getP l id.d := ⟨_,rfl⟩
  rw [← hp] at eg ea hal
  have hf : findP σ l id = (atomsP σ p).find? (fun x => sameId x.id id) := by unfold findP; rw [hh,if_pos rfl,hp]
  obtain ⟨L,hL⟩ : ∃ L,L = atomsP σ p := ⟨_,rfl⟩
  rw [← hL] at ea hf hal
  obtain ⟨i1,i2⟩ := idxQ_find (fun x : AtV => sameId x.id id) L 0
  have hsl : AV.lst (L.map AtV.cells) false = slAV .loose (L.map AtV.cells) := by cases L <;> rfl
  have ei := fun (K : AV → Heap → Prop) => indexA_eq S (base := H.length) (H := H ++ [.rows 33 0 [id.cells],.rows 172 0 [zeroAt.cells],.rows 5 0 [p.cells]]) (k := .loose) (l := L) (f := .fn 28 [.ptr H.length 0 33 0 0]) (q := fun x => sameId x.id id) (by omega) (fun x _ base K => find1_eq S (by simp) x K) K
  rw [← hsl] at ei
  rw [hf]
  cases hfd : L.find? (fun x => sameId x.id id) with
  | none =>
   rw [i2 hfd] at ei
   simp [argS,eg,ea,ei,storeA,fillA]
   exact hfin _ _ _
  | some x =>
   obtain ⟨j,h1,h2⟩ := i1 x hfd
   rw [Nat.zero_add] at h1
   rw [h1] at ei
   have hj : j < L.length := (List.getElem?_eq_some_iff.1 h2).1
   have hjx : L[j] = x := by rw [List.getElem?_eq_getElem hj] at h2; exact Option.some.inj h2
   simp [argS,eg,ea,ei,storeA,fillA,hj,hjx,show ¬ (j : Int) < 0 by omega]
   exact hfin _ _ _
structure SettingT (C : Cfg) (σ : Sorts) : Prop extends SettingS C σ where
 pureT : ∀ f,f ∈ [22,56,10,7,9] → C.pure f = true
 plainT : ∀ f,f ∈ [60,29,109,110,23,24,55] → C.pure f = false ∧ C.frz f = false
def findE (σ : Sorts) (s : List StoredV) (id : IdV) (k : Int) : Int := match findP σ s id with | none => 7 | some x => if x.kind = k then 0 else 8
theorem ret_bfind (S : SettingT C σ) (l : List StoredV) (k : SK) (id : IdV) (kd : Int) (hl : SetGood l) : Ret Tryz.prog C 22 [] [slAV k (l.map StoredV.cells),.agg id.cells,.int .i64 kd] (.int .i64 (findE σ l id kd)) := by
 refine ret_pure (S.pureT _ (by decide)) fun H => func_rule Tryz.func22 rfl (S.prim _ (by decide)) (by simp) (by kernel_rfl) ?_
 unfold Tryz.f22 findE
 have e := (ret_Find S.toSettingS l k id hl).eq
 cases hf : findP σ l id with
 | none =>
  rw [hf] at e
  simp only [Option.getD_none,Option.isSome_none] at e
  simp [argS,e,storeA,fillA]
 | some x =>
  rw [hf] at e
  simp only [Option.getD_some,Option.isSome_some] at e
  by_cases hk : x.kind = kd
  ·simp [argS,e,storeA,fillA,hk]
  ·simp [argS,e,storeA,fillA,hk]
end Go.Proofs.Ev
namespace Go.Proofs.Ev
open Go.Proofs
noncomputable def primT (p : Nat → List AV → Heap → Option (AV × Heap)) (f : FuncId) : Option (Nat → List AV → Heap → Option (AV × Heap)) :=
 if f = 145 then some pItoa else
 if f = 394 then some pCopy else
 if f = 325 then some pStr else
 if f = 128 then some pCmp else
 if f = 311 then some pIdx else
 if f = 104 then some (pSort idE cmpI 91) else
 if f = 133 then some (pSort digE (fun a b => cmpD a.d b.d) 76) else
 if f = 131 then some pClone else
 if f = 134 then some pCompact else
 if f = 6 then some p else
 none
def pureT : List FuncId := [169,70,34,330,331,120,332,16,184,185,123,336,378,186,376,328,327,262,329,377,395,264,171,170,114,270,335,333,334,268,269,176,177,172,266,267,173,115,65,68,265,181,180,178,116,179,117,66,33,69,37,35,182,38,272,271,183,119,124,118,121,122,71,39,14,13,32,5,64,113,189,125,190,273,188,127,73,76,322,372,323,256,258,107,314,315,319,312,313,316,317,318,320,321,250,165,161,222,150,91,369,310,252,251,162,199,193,194,195,196,197,198,254,130,72,40,106,59,26,78,57,129,77,27,103,159,25,58,53,101,102,54,8,28,22,56,10,7,9]
def frzT : List FuncId := [263,174,67,36,259,163,6]
def kindsT (t : TypeId) : Option (List LK) := if t = 25 then some (List.replicate 32 (.int .u8)) else if t = 27 then some (List.replicate 32 (.int .u8) ++ [.int .i64]) else none
noncomputable def cfgT (p : Nat → List AV → Heap → Option (AV × Heap)) : Cfg := ⟨primT p,fun f => decide (f ∈ pureT),fun f => decide (f ∈ frzT),kindsT⟩
noncomputable def sigT : Sorts := ⟨sortL cmpI,sortL fun a b : DigV => cmpD a.d b.d⟩
variable {p : Nat → List AV → Heap → Option (AV × Heap)} {N : Low}
theorem primT_none {f : FuncId} (h : f ∉ [145,394,325,128,311,104,133,131,134,6]) : primT p f = none := by
 simp only [List.mem_cons,List.not_mem_nil,or_false,not_or] at h
 obtain ⟨h0,h1,h2,h3,h4,h5,h6,h7,h8,h9⟩ := h
 unfold primT
 rw [if_neg h0,if_neg h1,if_neg h2,if_neg h3,if_neg h4,if_neg h5,if_neg h6,if_neg h7,if_neg h8,if_neg h9]
theorem allP {L : List FuncId} (h : (L.all fun f => decide (f ∈ pureT)) = true) : ∀ f,f ∈ L → (cfgT p).pure f = true := fun f hf => List.all_eq_true.1 h f hf
theorem allF {L : List FuncId} (h : (L.all fun f => !decide (f ∈ pureT) && decide (f ∈ frzT)) = true) : ∀ f,f ∈ L → (cfgT p).pure f = false ∧ (cfgT p).frz f = true := fun f hf => by
 have h1 := List.all_eq_true.1 h f hf
 rw [Bool.and_eq_true,Bool.not_eq_true'] at h1
 exact h1
theorem allN {L : List FuncId} (h : (L.all fun f => !decide (f ∈ pureT) && !decide (f ∈ frzT)) = true) : ∀ f,f ∈ L → (cfgT p).pure f = false ∧ (cfgT p).frz f = false := fun f hf => by
 have h1 := List.all_eq_true.1 h f hf
 rw [Bool.and_eq_true,Bool.not_eq_true',Bool.not_eq_true'] at h1
 exact h1
theorem primT_0 : (cfgT p).prim 145 = some pItoa := rfl
theorem primT_1 : (cfgT p).prim 394 = some pCopy := rfl
theorem primT_2 : (cfgT p).prim 325 = some pStr := rfl
theorem primT_3 : (cfgT p).prim 128 = some pCmp := rfl
theorem primT_4 : (cfgT p).prim 311 = some pIdx := rfl
theorem primT_5 : (cfgT p).prim 104 = some (pSort idE cmpI 91) := rfl
theorem primT_6 : (cfgT p).prim 133 = some (pSort digE (fun a b => cmpD a.d b.d) 76) := rfl
theorem primT_7 : (cfgT p).prim 131 = some pClone := rfl
theorem primT_8 : (cfgT p).prim 134 = some pCompact := rfl
theorem primT_9 : (cfgT p).prim 6 = some p := rfl
theorem isSetting : Setting (cfgT p) := {
 pure := allP (by kernel_rfl)
 prim := fun f hf => primT_none (by intro h; apply hf; revert h; simp only [List.mem_cons,List.not_mem_nil,or_false]; grind)
 kDig := rfl
 kId := rfl }
theorem isSetting2 : Setting2 (cfgT p) := {
 toSetting := isSetting
 pure2 := allP (by kernel_rfl)
 frz2 := allF (by kernel_rfl) }
theorem isSetting3 : Setting3 (cfgT p) := {
 toSetting2 := isSetting2
 pure3 := allP (by kernel_rfl) }
theorem isSetting4 : Setting4 (cfgT p) := {
 toSetting3 := isSetting3
 pure4 := allP (by kernel_rfl)
 frz4 := allF (by kernel_rfl)
 plain4 := allN (by kernel_rfl) }
theorem isSetting5 : Setting5 (cfgT p) := {
 toSetting4 := isSetting4
 pure5 := allP (by kernel_rfl) }
theorem isSetting6 : Setting6 (cfgT p) := {
 toSetting5 := isSetting5
 pure6 := allP (by kernel_rfl) }
theorem isSetting7 : Setting7 (cfgT p) := {
 toSetting6 := isSetting6
 frz7 := allF (by kernel_rfl)
 pure7 := allP (by kernel_rfl) }
theorem isSetting8 : Setting8 (cfgT p) := {
 toSetting7 := isSetting7
 pure8 := allP (by kernel_rfl) }
theorem isSettingA : SettingA (cfgT p) := {
 toSetting8 := isSetting8
 pureA := allP (by kernel_rfl)
 plainA := allN (by kernel_rfl) }
theorem isSettingD : SettingD (cfgT p) := {
 toSettingA := isSettingA
 pureD := allP (by kernel_rfl)
 frzD := allF (by kernel_rfl)
 plainD := allN (by kernel_rfl)
 copy := fun hb hg ha K => copy_call primT_1 rfl rfl hb hg ha K
 str := fun hb hg hn hl hv => str_call primT_2 rfl rfl hb hg hn hl hv
 itoa := fun n l1 l2 base H K => itoa_call primT_0 rfl rfl n l1 l2 base H K }
theorem isSettingF : SettingF (cfgT p) := {
 toSettingD := isSettingD
 pureF := allP (by kernel_rfl)
 plainF := allN (by kernel_rfl) }
theorem isSettingG : SettingG (cfgT p) := {
 toSettingF := isSettingF
 pureG := allP (by kernel_rfl) }
theorem isSettingH : SettingH (cfgT p) := {
 toSettingG := isSettingG
 pureH := allP (by kernel_rfl)
 cmpB := fun hl hx hy ha hb K => cmp_call primT_3 rfl rfl hl hx hy ha hb K }
theorem isSettingI : SettingI (cfgT p) := {
 toSettingH := isSettingH
 pureI := allP (by kernel_rfl) }
theorem isSettingJ : SettingJ (cfgT p) := {
 toSettingI := isSettingI
 pureJ := allP (by kernel_rfl)
 plainJ := allN (by kernel_rfl)
 idxB := fun s c => idx_call primT_4 rfl rfl s c }
theorem isSettingK : SettingK (cfgT p) := {
 toSettingJ := isSettingJ
 pureK := allP (by kernel_rfl) }
theorem isSettingL : SettingL (cfgT p) := {
 toSettingK := isSettingK
 pureL := allP (by kernel_rfl)
 plainL := allN (by kernel_rfl) }
theorem isSettingM : SettingM (cfgT p) := {
 toSettingL := isSettingL
 frzM := allF (by kernel_rfl) }
theorem isSettingN : SettingN (cfgT p) := {
 toSettingM := isSettingM
 pureN := allP (by kernel_rfl)
 plainN := allN (by kernel_rfl) }
theorem isSettingO : SettingO (cfgT p) := {
 toSettingN := isSettingN
 plainO := allN (by kernel_rfl) }
theorem isSettingP : SettingP (cfgT p) := {
 toSettingO := isSettingO
 pureP := allP (by kernel_rfl) }
theorem isSettingQ : SettingQ (cfgT p) sigT := {
 toSettingP := isSettingP
 permI := sortL_perm swo_id
 sortI := fun hl hb hg K => prim_call primT_5 rfl rfl (pSort_eq idE IdV.cells_inj cmpI _ hb hl hg) K
 sortI0 := fun K => prim_call primT_5 rfl rfl rfl K }
theorem isSettingR : SettingR (cfgT p) sigT := {
 toSettingQ := isSettingQ
 permD := sortL_perm swo_dig
 sortD := fun hl hb hg K => prim_call primT_6 rfl rfl (pSort_eq digE DigV.cells_inj _ _ hb hl hg) K
 sortD0 := fun K => prim_call primT_6 rfl rfl rfl K
 cloneD := fun hl K => clone_call primT_7 rfl rfl hl K
 compD := fun hl hb hg => ⟨_,fun K => prim_call primT_8 rfl rfl (compact_eq hb hg hl) K⟩
 compD0 := fun K => prim_call primT_8 rfl rfl (compact_eq0 _ _) K }
theorem isSettingS : SettingS (cfgT p) sigT := {
 toSettingR := isSettingR
 pureS := allP (by kernel_rfl)
 plainS := allN (by kernel_rfl) }
theorem isSettingT : SettingT (cfgT p) sigT := {
 toSettingS := isSettingS
 pureT := allP (by kernel_rfl)
 plainT := allN (by kernel_rfl) }
theorem kindsT_ok : ∀ t ks,kindsT t = some ks → flatKinds Tryz.prog 20 t = some ks ∧ Tryz.prog.eqGuardType Tryz.prog.depth t = false ∧ isAggT Tryz.prog t = some true := by
 intro t ks h
 unfold kindsT at h
 split at h
 ·rename_i ht; subst ht; cases h; exact ⟨by kernel_rfl,by kernel_rfl,by kernel_rfl⟩
 ·split at h
  ·rename_i ht; subst ht; cases h; exact ⟨by kernel_rfl,by kernel_rfl,by kernel_rfl⟩
  ·cases h
theorem soundT (hT : TagOK Tryz.prog N) (hG : TagHere N) (hL : LowTab N) (hp : PrimOK Tryz.prog N 6 p) : (cfgT p).Sound Tryz.prog N := {
 fits := ⟨kindsT_ok⟩
 mixed := by kernel_rfl
 tag := hT
 names := names_ok
 prim f q h := by
  change primT p f = some q at h
  unfold primT at h
  split at h
  ·rename_i hf; subst hf; cases h; exact itoa_ok hL
  split at h
  ·rename_i hf; subst hf; cases h; exact copy_ok hG
  split at h
  ·rename_i hf; subst hf; cases h; exact str_ok hG
  split at h
  ·rename_i hf; subst hf; cases h; exact cmp_ok N
  split at h
  ·rename_i hf; subst hf; cases h; exact idx_ok N
  split at h
  ·rename_i hf; subst hf; cases h; exact sortI_ok hT
  split at h
  ·rename_i hf; subst hf; cases h; exact sortD_ok hT
  split at h
  ·rename_i hf; subst hf; cases h; exact clone_ok hT
  split at h
  ·rename_i hf; subst hf; cases h; exact compact_ok hT
  split at h
  ·rename_i hf; subst hf; cases h; exact hp
  cases h }
end Go.Proofs.Ev
