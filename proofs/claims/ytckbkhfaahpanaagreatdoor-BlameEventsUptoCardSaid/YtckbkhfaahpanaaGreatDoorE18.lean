/- Part 18 of the proof that quiltlaw38.BlameEvents returns true: no statement of its own. -/
import Derived.Test.YtckbkhfaahpanaaGreatDoorE17
set_option linter.all false
namespace Go.Proofs.Ev
open Go.Proofs
variable {C : Cfg}
def tidyP (c : ChV) : Bool :=
 (decide (c.kind = 1) || (c.type == 0)) && (decide (c.kind ∈ [2,3,4,5,6]) || sameId c.file zeroId) && (decide (c.kind = 2) || (sameId c.parent zeroId && c.name.isEmpty)) && (decide (c.kind = 3) || (c.mode == 0)) && (decide (c.kind = 4) || c.data.isEmpty)
 && (decide (c.kind ∈ [5,6]) || (sameId c.after zeroId && sameId c.before zeroId)) && (decide (c.kind = 5) || ((c.lines.length : Int) == 0)) && (decide (c.kind ∈ [2,3,4,6,7]) || ((c.over.length : Int) == 0))
set_option maxRecDepth 100000 in
set_option maxHeartbeats 4000000 in
theorem ret_tidy (S : SettingJ C) (c : ChV) (hk1 : 1 ≤ c.kind) (hk7 : c.kind ≤ 7) : Ret Tryz.prog C 251 [] [.agg c.cells] (.bool (tidyP c)) := by
 refine ret_pure (S.pureJ _ (by decide)) fun H => func_rule Tryz.func251 rfl (S.prim _ (by decide)) (by simp) (by kernel_rfl) ?_
 unfold Tryz.f251
 refine cut (fun s H' => s 1 = .ptr H.length 0 139 0 0 ∧ H' = H ++ [.rows 139 0 [c.cells]]) ?_ ?_
 ·simp [argS]
 rintro s H' ⟨q1,rfl⟩
 refine cut (fun s H' => s 1 = .ptr H.length 0 139 0 0 ∧ s 3 = .ptr (H.length + 1) 0 1 0 0 ∧ H' = H ++ [.rows 139 0 [c.cells],.rows 1 0 [[.int .i64 c.kind]]]) ?_ ?_
 ·simp [q1,storeA,fillA]
 rintro s H' ⟨q1,q3,rfl⟩
 refine cut (fun s H' => s 1 = .ptr H.length 0 139 0 0 ∧ s 4 = .fn 309 [.ptr (H.length + 1) 0 1 0 0] ∧ H' = H ++ [.rows 139 0 [c.cells],.rows 1 0 [[.int .i64 c.kind]]]) ?_ ?_
 ·simp [q1,q3]
 rintro s H' ⟨q1,q4,rfl⟩
 refine cut (fun s H' => s 1 = .ptr H.length 0 139 0 0 ∧ s 5 = .ptr (H.length + 2) 0 33 0 0 ∧ s 4 = .fn 309 [.ptr (H.length + 1) 0 1 0 0] ∧ H' = H ++ [.rows 139 0 [c.cells],.rows 1 0 [[.int .i64 c.kind]],.rows 33 0 [zeroId.cells]]) ?_ ?_
 ·simp [q1,q4,storeA,fillA]
 rintro s H' ⟨q1,q5,q4,rfl⟩
 obtain ⟨L,hL⟩ : ∃ L : Heap,L = [.rows 1 0 [[.int .i64 c.kind]],.rows 33 0 [zeroId.cells]] := ⟨_,rfl⟩
 have et := fun (l : List Int) (hl : l.length ≤ 2 ^ 40) => tidy1_eq S (base := H.length) (b := H.length + 1) (g := 0) (H := H ++ .rows 139 0 [c.cells] :: L) (kd := c.kind) (by rw [hL]; simp [blkRow,app_get]) l .exact hl
 have hz : blkRow L 1 0 33 0 = some zeroId.cells := by rw [hL]; rfl
 rw [← hL]
 clear hL
 have t1 := et [1] (by simp)
 have t2 := et [2,3,4,5,6] (by simp)
 have t3 := et [2] (by simp)
 have t4 := et [3] (by simp)
 have t5 := et [4] (by simp)
 have t6 := et [5,6] (by simp)
 have t7 := et [5] (by simp)
 have t8 := et [2,3,4,6,7] (by simp)
 simp only [slAV,List.map_cons,List.map_nil] at t1 t2 t3 t4 t5 t6 t7 t8
 have ei := fun a => eq_idV S.toSetting a zeroId
 unfold tidyP
 generalize hkd : c.kind = kd at *
 have hk : kd = 1 ∨ kd = 2 ∨ kd = 3 ∨ kd = 4 ∨ kd = 5 ∨ kd = 6 ∨ kd = 7 := by omega
 rcases hk with rfl | rfl | rfl | rfl | rfl | rfl | rfl
 ·rcases Bool.eq_false_or_eq_true (sameId c.file zeroId) with f0 | f0
  rotate_left
  ·simp [q1,q5,q4,guardV,buildSliceA,fillRows,t1,t2,t3,t4,t5,t6,t7,t8,ei,hz,f0]
  rcases Bool.eq_false_or_eq_true (sameId c.parent zeroId) with f1 | f1
  rotate_left
  ·simp [q1,q5,q4,guardV,buildSliceA,fillRows,t1,t2,t3,t4,t5,t6,t7,t8,ei,hz,f0,f1]
  rcases Bool.eq_false_or_eq_true (c.name.isEmpty) with f2 | f2
  rotate_left
  ·simp [q1,q5,q4,guardV,buildSliceA,fillRows,t1,t2,t3,t4,t5,t6,t7,t8,ei,hz,f0,f1,f2]
  rcases Bool.eq_false_or_eq_true (c.mode == 0) with f3 | f3
  rotate_left
  ·simp [q1,q5,q4,guardV,buildSliceA,fillRows,t1,t2,t3,t4,t5,t6,t7,t8,ei,hz,f0,f1,f2,f3]
  rcases Bool.eq_false_or_eq_true (c.data.isEmpty) with f4 | f4
  rotate_left
  ·simp [q1,q5,q4,guardV,buildSliceA,fillRows,t1,t2,t3,t4,t5,t6,t7,t8,ei,hz,f0,f1,f2,f3,f4]
  rcases Bool.eq_false_or_eq_true (sameId c.after zeroId) with f5 | f5
  rotate_left
  ·simp [q1,q5,q4,guardV,buildSliceA,fillRows,t1,t2,t3,t4,t5,t6,t7,t8,ei,hz,f0,f1,f2,f3,f4,f5]
  rcases Bool.eq_false_or_eq_true (sameId c.before zeroId) with f6 | f6
  rotate_left
  ·simp [q1,q5,q4,guardV,buildSliceA,fillRows,t1,t2,t3,t4,t5,t6,t7,t8,ei,hz,f0,f1,f2,f3,f4,f5,f6]
  rcases Bool.eq_false_or_eq_true ((c.lines.length : Int) == 0) with f7 | f7
  rotate_left
  ·simp [q1,q5,q4,guardV,buildSliceA,fillRows,t1,t2,t3,t4,t5,t6,t7,t8,ei,hz,f0,f1,f2,f3,f4,f5,f6,f7]
  rcases Bool.eq_false_or_eq_true ((c.over.length : Int) == 0) with f8 | f8
  rotate_left
  ·simp [q1,q5,q4,guardV,buildSliceA,fillRows,t1,t2,t3,t4,t5,t6,t7,t8,ei,hz,f0,f1,f2,f3,f4,f5,f6,f7,f8]
  simp [q1,q5,q4,guardV,buildSliceA,fillRows,t1,t2,t3,t4,t5,t6,t7,t8,ei,hz,f0,f1,f2,f3,f4,f5,f6,f7,f8]
 ·rcases Bool.eq_false_or_eq_true (c.type == 0) with f0 | f0
  rotate_left
  ·simp [q1,q5,q4,guardV,buildSliceA,fillRows,t1,t2,t3,t4,t5,t6,t7,t8,ei,hz,f0]
  rcases Bool.eq_false_or_eq_true (c.mode == 0) with f1 | f1
  rotate_left
  ·simp [q1,q5,q4,guardV,buildSliceA,fillRows,t1,t2,t3,t4,t5,t6,t7,t8,ei,hz,f0,f1]
  rcases Bool.eq_false_or_eq_true (c.data.isEmpty) with f2 | f2
  rotate_left
  ·simp [q1,q5,q4,guardV,buildSliceA,fillRows,t1,t2,t3,t4,t5,t6,t7,t8,ei,hz,f0,f1,f2]
  rcases Bool.eq_false_or_eq_true (sameId c.after zeroId) with f3 | f3
  rotate_left
  ·simp [q1,q5,q4,guardV,buildSliceA,fillRows,t1,t2,t3,t4,t5,t6,t7,t8,ei,hz,f0,f1,f2,f3]
  rcases Bool.eq_false_or_eq_true (sameId c.before zeroId) with f4 | f4
  rotate_left
  ·simp [q1,q5,q4,guardV,buildSliceA,fillRows,t1,t2,t3,t4,t5,t6,t7,t8,ei,hz,f0,f1,f2,f3,f4]
  rcases Bool.eq_false_or_eq_true ((c.lines.length : Int) == 0) with f5 | f5
  rotate_left
  ·simp [q1,q5,q4,guardV,buildSliceA,fillRows,t1,t2,t3,t4,t5,t6,t7,t8,ei,hz,f0,f1,f2,f3,f4,f5]
  simp [q1,q5,q4,guardV,buildSliceA,fillRows,t1,t2,t3,t4,t5,t6,t7,t8,ei,hz,f0,f1,f2,f3,f4,f5]
 ·rcases Bool.eq_false_or_eq_true (c.type == 0) with f0 | f0
  rotate_left
  ·simp [q1,q5,q4,guardV,buildSliceA,fillRows,t1,t2,t3,t4,t5,t6,t7,t8,ei,hz,f0]
  rcases Bool.eq_false_or_eq_true (sameId c.parent zeroId) with f1 | f1
  rotate_left
  ·simp [q1,q5,q4,guardV,buildSliceA,fillRows,t1,t2,t3,t4,t5,t6,t7,t8,ei,hz,f0,f1]
  rcases Bool.eq_false_or_eq_true (c.name.isEmpty) with f2 | f2
  rotate_left
  ·simp [q1,q5,q4,guardV,buildSliceA,fillRows,t1,t2,t3,t4,t5,t6,t7,t8,ei,hz,f0,f1,f2]
  rcases Bool.eq_false_or_eq_true (c.data.isEmpty) with f3 | f3
  rotate_left
  ·simp [q1,q5,q4,guardV,buildSliceA,fillRows,t1,t2,t3,t4,t5,t6,t7,t8,ei,hz,f0,f1,f2,f3]
  rcases Bool.eq_false_or_eq_true (sameId c.after zeroId) with f4 | f4
  rotate_left
  ·simp [q1,q5,q4,guardV,buildSliceA,fillRows,t1,t2,t3,t4,t5,t6,t7,t8,ei,hz,f0,f1,f2,f3,f4]
  rcases Bool.eq_false_or_eq_true (sameId c.before zeroId) with f5 | f5
  rotate_left
  ·simp [q1,q5,q4,guardV,buildSliceA,fillRows,t1,t2,t3,t4,t5,t6,t7,t8,ei,hz,f0,f1,f2,f3,f4,f5]
  rcases Bool.eq_false_or_eq_true ((c.lines.length : Int) == 0) with f6 | f6
  rotate_left
  ·simp [q1,q5,q4,guardV,buildSliceA,fillRows,t1,t2,t3,t4,t5,t6,t7,t8,ei,hz,f0,f1,f2,f3,f4,f5,f6]
  simp [q1,q5,q4,guardV,buildSliceA,fillRows,t1,t2,t3,t4,t5,t6,t7,t8,ei,hz,f0,f1,f2,f3,f4,f5,f6]
 ·rcases Bool.eq_false_or_eq_true (c.type == 0) with f0 | f0
  rotate_left
  ·simp [q1,q5,q4,guardV,buildSliceA,fillRows,t1,t2,t3,t4,t5,t6,t7,t8,ei,hz,f0]
  rcases Bool.eq_false_or_eq_true (sameId c.parent zeroId) with f1 | f1
  rotate_left
  ·simp [q1,q5,q4,guardV,buildSliceA,fillRows,t1,t2,t3,t4,t5,t6,t7,t8,ei,hz,f0,f1]
  rcases Bool.eq_false_or_eq_true (c.name.isEmpty) with f2 | f2
  rotate_left
  ·simp [q1,q5,q4,guardV,buildSliceA,fillRows,t1,t2,t3,t4,t5,t6,t7,t8,ei,hz,f0,f1,f2]
  rcases Bool.eq_false_or_eq_true (c.mode == 0) with f3 | f3
  rotate_left
  ·simp [q1,q5,q4,guardV,buildSliceA,fillRows,t1,t2,t3,t4,t5,t6,t7,t8,ei,hz,f0,f1,f2,f3]
  rcases Bool.eq_false_or_eq_true (sameId c.after zeroId) with f4 | f4
  rotate_left
  ·simp [q1,q5,q4,guardV,buildSliceA,fillRows,t1,t2,t3,t4,t5,t6,t7,t8,ei,hz,f0,f1,f2,f3,f4]
  rcases Bool.eq_false_or_eq_true (sameId c.before zeroId) with f5 | f5
  rotate_left
  ·simp [q1,q5,q4,guardV,buildSliceA,fillRows,t1,t2,t3,t4,t5,t6,t7,t8,ei,hz,f0,f1,f2,f3,f4,f5]
  rcases Bool.eq_false_or_eq_true ((c.lines.length : Int) == 0) with f6 | f6
  rotate_left
  ·simp [q1,q5,q4,guardV,buildSliceA,fillRows,t1,t2,t3,t4,t5,t6,t7,t8,ei,hz,f0,f1,f2,f3,f4,f5,f6]
  simp [q1,q5,q4,guardV,buildSliceA,fillRows,t1,t2,t3,t4,t5,t6,t7,t8,ei,hz,f0,f1,f2,f3,f4,f5,f6]
 ·rcases Bool.eq_false_or_eq_true (c.type == 0) with f0 | f0
  rotate_left
  ·simp [q1,q5,q4,guardV,buildSliceA,fillRows,t1,t2,t3,t4,t5,t6,t7,t8,ei,hz,f0]
  rcases Bool.eq_false_or_eq_true (sameId c.parent zeroId) with f1 | f1
  rotate_left
  ·simp [q1,q5,q4,guardV,buildSliceA,fillRows,t1,t2,t3,t4,t5,t6,t7,t8,ei,hz,f0,f1]
  rcases Bool.eq_false_or_eq_true (c.name.isEmpty) with f2 | f2
  rotate_left
  ·simp [q1,q5,q4,guardV,buildSliceA,fillRows,t1,t2,t3,t4,t5,t6,t7,t8,ei,hz,f0,f1,f2]
  rcases Bool.eq_false_or_eq_true (c.mode == 0) with f3 | f3
  rotate_left
  ·simp [q1,q5,q4,guardV,buildSliceA,fillRows,t1,t2,t3,t4,t5,t6,t7,t8,ei,hz,f0,f1,f2,f3]
  rcases Bool.eq_false_or_eq_true (c.data.isEmpty) with f4 | f4
  rotate_left
  ·simp [q1,q5,q4,guardV,buildSliceA,fillRows,t1,t2,t3,t4,t5,t6,t7,t8,ei,hz,f0,f1,f2,f3,f4]
  rcases Bool.eq_false_or_eq_true ((c.over.length : Int) == 0) with f5 | f5
  rotate_left
  ·simp [q1,q5,q4,guardV,buildSliceA,fillRows,t1,t2,t3,t4,t5,t6,t7,t8,ei,hz,f0,f1,f2,f3,f4,f5]
  simp [q1,q5,q4,guardV,buildSliceA,fillRows,t1,t2,t3,t4,t5,t6,t7,t8,ei,hz,f0,f1,f2,f3,f4,f5]
 ·rcases Bool.eq_false_or_eq_true (c.type == 0) with f0 | f0
  rotate_left
  ·simp [q1,q5,q4,guardV,buildSliceA,fillRows,t1,t2,t3,t4,t5,t6,t7,t8,ei,hz,f0]
  rcases Bool.eq_false_or_eq_true (sameId c.parent zeroId) with f1 | f1
  rotate_left
  ·simp [q1,q5,q4,guardV,buildSliceA,fillRows,t1,t2,t3,t4,t5,t6,t7,t8,ei,hz,f0,f1]
  rcases Bool.eq_false_or_eq_true (c.name.isEmpty) with f2 | f2
  rotate_left
  ·simp [q1,q5,q4,guardV,buildSliceA,fillRows,t1,t2,t3,t4,t5,t6,t7,t8,ei,hz,f0,f1,f2]
  rcases Bool.eq_false_or_eq_true (c.mode == 0) with f3 | f3
  rotate_left
  ·simp [q1,q5,q4,guardV,buildSliceA,fillRows,t1,t2,t3,t4,t5,t6,t7,t8,ei,hz,f0,f1,f2,f3]
  rcases Bool.eq_false_or_eq_true (c.data.isEmpty) with f4 | f4
  rotate_left
  ·simp [q1,q5,q4,guardV,buildSliceA,fillRows,t1,t2,t3,t4,t5,t6,t7,t8,ei,hz,f0,f1,f2,f3,f4]
  rcases Bool.eq_false_or_eq_true ((c.lines.length : Int) == 0) with f5 | f5
  rotate_left
  ·simp [q1,q5,q4,guardV,buildSliceA,fillRows,t1,t2,t3,t4,t5,t6,t7,t8,ei,hz,f0,f1,f2,f3,f4,f5]
  simp [q1,q5,q4,guardV,buildSliceA,fillRows,t1,t2,t3,t4,t5,t6,t7,t8,ei,hz,f0,f1,f2,f3,f4,f5]
 ·rcases Bool.eq_false_or_eq_true (c.type == 0) with f0 | f0
  rotate_left
  ·simp [q1,q5,q4,guardV,buildSliceA,fillRows,t1,t2,t3,t4,t5,t6,t7,t8,ei,hz,f0]
  rcases Bool.eq_false_or_eq_true (sameId c.file zeroId) with f1 | f1
  rotate_left
  ·simp [q1,q5,q4,guardV,buildSliceA,fillRows,t1,t2,t3,t4,t5,t6,t7,t8,ei,hz,f0,f1]
  rcases Bool.eq_false_or_eq_true (sameId c.parent zeroId) with f2 | f2
  rotate_left
  ·simp [q1,q5,q4,guardV,buildSliceA,fillRows,t1,t2,t3,t4,t5,t6,t7,t8,ei,hz,f0,f1,f2]
  rcases Bool.eq_false_or_eq_true (c.name.isEmpty) with f3 | f3
  rotate_left
  ·simp [q1,q5,q4,guardV,buildSliceA,fillRows,t1,t2,t3,t4,t5,t6,t7,t8,ei,hz,f0,f1,f2,f3]
  rcases Bool.eq_false_or_eq_true (c.mode == 0) with f4 | f4
  rotate_left
  ·simp [q1,q5,q4,guardV,buildSliceA,fillRows,t1,t2,t3,t4,t5,t6,t7,t8,ei,hz,f0,f1,f2,f3,f4]
  rcases Bool.eq_false_or_eq_true (c.data.isEmpty) with f5 | f5
  rotate_left
  ·simp [q1,q5,q4,guardV,buildSliceA,fillRows,t1,t2,t3,t4,t5,t6,t7,t8,ei,hz,f0,f1,f2,f3,f4,f5]
  rcases Bool.eq_false_or_eq_true (sameId c.after zeroId) with f6 | f6
  rotate_left
  ·simp [q1,q5,q4,guardV,buildSliceA,fillRows,t1,t2,t3,t4,t5,t6,t7,t8,ei,hz,f0,f1,f2,f3,f4,f5,f6]
  rcases Bool.eq_false_or_eq_true (sameId c.before zeroId) with f7 | f7
  rotate_left
  ·simp [q1,q5,q4,guardV,buildSliceA,fillRows,t1,t2,t3,t4,t5,t6,t7,t8,ei,hz,f0,f1,f2,f3,f4,f5,f6,f7]
  rcases Bool.eq_false_or_eq_true ((c.lines.length : Int) == 0) with f8 | f8
  rotate_left
  ·simp [q1,q5,q4,guardV,buildSliceA,fillRows,t1,t2,t3,t4,t5,t6,t7,t8,ei,hz,f0,f1,f2,f3,f4,f5,f6,f7,f8]
  simp [q1,q5,q4,guardV,buildSliceA,fillRows,t1,t2,t3,t4,t5,t6,t7,t8,ei,hz,f0,f1,f2,f3,f4,f5,f6,f7,f8]
end Go.Proofs.Ev
namespace Go.Proofs.Ev
open Go.Proofs
variable {C : Cfg}
structure SettingK (C : Cfg) : Prop extends SettingJ C where
 pureK : ∀ f,f ∈ [162,199] → C.pure f = true
structure ChV.Good (c : ChV) : Prop where
 k1 : 1 ≤ c.kind
 k7 : c.kind ≤ 7
 tidy : tidyP c = true
 ty : c.kind = 1 → 1 ≤ c.type ∧ c.type ≤ 4
 nm : c.kind = 2 → nameP c.name = true
 md : 0 ≤ c.mode ∧ c.mode ≤ 511
 dt : c.data.length ≤ 65536
 ln : c.kind = 5 → c.lines ≠ []
 lnn : c.lines.length ≤ 2000
 lv : ∀ s ∈ c.lines,lineP s = true
 ov : c.kind = 7 → c.over ≠ []
 on : c.over.length ≤ 400
 asc : ascB c.over = true
theorem charP_eq (c : UInt8) : charP c = nameC c := by
 rw [Bool.eq_iff_iff]
 simp [charP,nameC]
 omega
theorem nameP_eq (s : List UInt8) : nameP s = nameB s := by
 have h : charP = nameC := funext charP_eq
 rw [Bool.eq_iff_iff]
 cases s with
 | nil => simp [nameP,nameB]
 | cons x l =>
  have e : ((l.length + 1 : Nat) : Int) ≤ 40 ↔ l.length + 1 ≤ 40 := by omega
  simp only [nameP,nameB,h,List.isEmpty_cons,Bool.not_false,Bool.and_true,Bool.and_eq_true,List.length_cons,decide_eq_true_eq,e,Bool.and_assoc,bne]
  constructor
  ·rintro ⟨a,b,c,d⟩; exact ⟨a,by omega,b,c,d⟩
  ·rintro ⟨a,_,b,c,d⟩; exact ⟨a,b,c,d⟩
theorem lineP_eq (s : List UInt8) : lineP s = validB s := by
 rw [Bool.eq_iff_iff]
 simp only [lineP,validB,Bool.and_eq_true,decide_eq_true_eq,List.all_eq_true,okC]
 constructor
 ·rintro ⟨⟨h1,h2⟩,h3⟩
  refine ⟨by omega,fun x hx => ?_⟩
  have a1 : x ≠ 10 := fun h => h2 (h ▸ hx)
  have a2 : x ≠ 0 := fun h => h3 (h ▸ hx)
  have b1 : x.toNat ≠ 10 := fun h => a1 (UInt8.toNat_inj.1 h)
  have b2 : x.toNat ≠ 0 := fun h => a2 (UInt8.toNat_inj.1 h)
  simp; omega
 ·rintro ⟨h1,h2⟩
  refine ⟨⟨by omega,fun h => ?_⟩,fun h => ?_⟩
  ·have := h2 _ h; simp at this
  ·have := h2 _ h; simp at this
theorem tidy_of {c : ChV} (h1 : 1 ≤ c.kind) (h7 : c.kind ≤ 7) (h : emptyB (restV c) = true) : tidyP c = true := by
 have hk : c.kind = 1 ∨ c.kind = 2 ∨ c.kind = 3 ∨ c.kind = 4 ∨ c.kind = 5 ∨ c.kind = 6 ∨ c.kind = 7 := by omega
 rcases hk with hk | hk | hk | hk | hk | hk | hk <;>
  simp [emptyB,restV,rest1,rest2,rest3,nullId,hk] at h <;> simp [tidyP,hk,h]
theorem good_of {c : ChV} (h : fieldsE c = 0) : c.Good := by
 have hln := fields_lines h
 unfold fieldsE at h
 split at h
 ·omega
 rename_i h1
 split at h
 ·omega
 rename_i h2
 have a1 : 1 ≤ c.kind ∧ c.kind ≤ 7 := by simp at h1; omega
 have ht := tidy_of a1.1 a1.2 (by simpa using h2)
 split at h
 ·omega
 rename_i h3
 split at h
 ·omega
 rename_i h4
 split at h
 ·omega
 rename_i h5
 split at h
 ·omega
 rename_i h6
 have ht' := ht
 simp only [tidyP,Bool.and_eq_true,Bool.or_eq_true,decide_eq_true_eq,beq_iff_eq] at ht'
 obtain ⟨⟨⟨⟨⟨⟨⟨t1,t2⟩,t3⟩,t4⟩,t5⟩,t6⟩,t7⟩,t8⟩ := ht'
 have hmd : 0 ≤ c.mode ∧ c.mode ≤ 511 := by
  rcases t4 with t4 | t4
  ·simp [t4] at h5; omega
  ·omega
 have hty : c.kind = 1 → 1 ≤ c.type ∧ c.type ≤ 4 := fun hk => by simp [hk] at h3; omega
 have hnm : c.kind = 2 → nameP c.name = true := fun hk => by simp [hk] at h4; rw [nameP_eq]; exact h4
 split at h
 ·rename_i hk
  have hov : c.over = [] := by
   rcases t8 with t8 | t8
   ·simp [hk] at t8
   ·exact List.length_eq_zero_iff.1 (by omega)
  have hl : c.lines.length ≠ 0 ∧ c.lines.all validB = true := by
   unfold linesE at h
   split at h
   ·omega
   split at h
   ·omega
   split at h
   ·rename_i hz _ hv; exact ⟨hz,hv⟩
   ·omega
  refine ⟨a1.1,a1.2,ht,hty,hnm,hmd,by omega,fun _ h0 => hl.1 (by rw [h0]; rfl),hln,fun s hs => ?_,fun hk' => by omega,by rw [hov]; simp,by rw [hov]; rfl⟩
  rw [lineP_eq]; exact List.all_eq_true.1 hl.2 s hs
 ·rename_i hk
  have hlz : c.lines = [] := by
   rcases t7 with t7 | t7
   ·omega
   ·exact List.length_eq_zero_iff.1 (by omega)
  split at h
  ·omega
  rename_i h7
  split at h
  ·omega
  rename_i h8
  split at h
  ·omega
  rename_i h9
  refine ⟨a1.1,a1.2,ht,hty,hnm,hmd,by omega,fun hk' => absurd hk' hk,hln,fun s hs => ?_,fun hk' h0 => ?_,by omega,by simpa using h9⟩
  ·rw [hlz] at hs; cases hs
  ·simp [hk',h0] at h7
theorem asc_at : ∀ {l : List IdV} (_ : ascB l = true) (k : Nat) (hk : k + 1 < l.length),cmpI l[k] l[k + 1] < 0
 | [],_,k,hk => by simp at hk
 | [_],_,k,hk => by simp at hk
 | a :: b :: l,h,0,hk => by
  simp only [ascB,Bool.and_eq_true,decide_eq_true_eq] at h
  exact h.1
 | a :: b :: l,h,k + 1,hk => by
  simp only [ascB,Bool.and_eq_true,decide_eq_true_eq] at h
  exact asc_at (l := b :: l) h.2 k (by simpa using hk)
set_option maxHeartbeats 4000000 in
theorem ret_checkFields (S : SettingK C) (c : ChV) (hg : c.Good) (hn : c.name.length ≤ 2 ^ 40) : Ret Tryz.prog C 162 [] [.agg c.cells] (.int .i64 0) := by
 refine ret_pure (S.pureK _ (by decide)) fun H => func_rule Tryz.func162 rfl (S.prim _ (by decide)) (by simp) (by kernel_rfl) ?_
 unfold Tryz.f162
 have et := (ret_tidy S.toSettingJ c hg.k1 hg.k7).eq
 rw [hg.tidy] at et
 have en := (ret_isName S.toSettingG c.name hn).eq
 have k1 := hg.k1
 have k7 := hg.k7
 have m1 := hg.md
 have hl := hg.lnn
 have hov := hg.on
 have hd := hg.dt
 have hk : c.kind = 1 ∨ c.kind = 2 ∨ c.kind = 3 ∨ c.kind = 4 ∨ c.kind = 5 ∨ c.kind = 6 ∨ c.kind = 7 := by omega
 refine cut (fun s H' => s 1 = .ptr H.length 0 139 0 0 ∧ H' = H ++ [.rows 139 0 [c.cells]]) ?_ ?_
 ·simp [argS]
 rintro s H' ⟨q1,rfl⟩
 refine cut (fun s H' => s 1 = .ptr H.length 0 139 0 0 ∧ H' = H ++ [.rows 139 0 [c.cells]]) ?_ ?_
 ·have f1 : ¬ c.mode < 0 := by omega
  have f2 : ¬ 511 < c.mode := by omega
  have f3 : ¬ (65536 : Int) < c.data.length := by omega
  have f4 : ¬ (2000 : Int) < c.lines.length := by omega
  rcases hk with hk | hk | hk | hk | hk | hk | hk
  ·have := hg.ty hk
   have f5 : ¬ c.type < 1 := by omega
   have f6 : ¬ 4 < c.type := by omega
   simp [q1,et,en,guardV,hk,f1,f2,f3,f4,f5,f6]
  ·have := hg.nm hk
   simp [q1,et,en,guardV,hk,f1,f2,f3,f4,this]
  ·simp [q1,et,en,guardV,hk,f1,f2,f3,f4]
  ·simp [q1,et,en,guardV,hk,f1,f2,f3,f4]
  ·have := hg.ln hk
   simp [q1,et,en,guardV,hk,f1,f2,f3,f4,this]
  ·simp [q1,et,en,guardV,hk,f1,f2,f3,f4]
  ·simp [q1,et,en,guardV,hk,f1,f2,f3,f4]
 rintro s H' ⟨q1,rfl⟩
 refine cut (fun s H' => s 1 = .ptr H.length 0 139 0 0 ∧ H' = H ++ [.rows 139 0 [c.cells]]) ?_ ?_
 ·simp [q1]
  refine loop_count c.lines.length (fun i s H' => s 1 = .ptr H.length 0 139 0 0 ∧ s 73 = slAV c.linesK (c.lines.map strC) ∧ s 74 = .int .i64 c.lines.length ∧ s 75 = .int .i64 i ∧ H' = H ++ [.rows 139 0 [c.cells]]) ?_ ?_
  ·exact ⟨q1,rfl,rfl,rfl,rfl⟩
  rintro i s H' ⟨q1,q73,q74,q75,rfl⟩ hi
  by_cases h : i < c.lines.length
  ·have ev := (ret_validP S.toSettingJ c.lines[i]).eq
   rw [hg.lv _ (List.getElem_mem h)] at ev
   simp [q1,q73,q74,q75,h,strC,ev,wrap_succ h (by omega)]
  ·have h' : i = c.lines.length := by omega
   subst h'
   simp [q1,q73,q74,q75]
 rintro s H' ⟨q1,rfl⟩
 refine cut (fun s H' => s 1 = .ptr H.length 0 139 0 0 ∧ H' = H ++ [.rows 139 0 [c.cells]]) ?_ ?_
 ·have f4 : ¬ (400 : Int) < c.over.length := by omega
  by_cases hk7 : c.kind = 7
  ·have := hg.ov hk7
   simp [q1,guardV,hk7,f4,this]
  ·have b7 : (c.kind == 7) = false := by simpa using hk7
   simp [q1,guardV,b7,hk7,f4]
 rintro s H' ⟨q1,rfl⟩
 refine cut (fun _ _ => True) ?_ ?_
 ·simp [q1]
  refine loop_count c.over.length (fun i s H' => s 1 = .ptr H.length 0 139 0 0 ∧ s 5 = .int .i64 ((i : Int) + 1) ∧ H' = H ++ [.rows 139 0 [c.cells]]) ?_ ?_
  ·exact ⟨q1,rfl,rfl⟩
  rintro i s H' ⟨q1,q5,rfl⟩ hi
  by_cases h : i + 1 < c.over.length
  ·have h0 : i < c.over.length := by omega
   have e := (ret_cmpIP S.toSettingI c.over[i] c.over[i + 1]).eq
   have hc := asc_at hg.asc i h
   have w1 : IntKind.i64.wrap (i : Int) = i := wrap_nat (by omega)
   have w2 : IntKind.i64.wrap ((i : Int) + 1 + 1) = ((i + 1 : Nat) : Int) + 1 := by rw [wrap_in (by omega) (by omega)]; omega
   have t1 : ((i : Int) + 1).toNat = i + 1 := by omega
   have t2 : (0 : Int) ≤ (i : Int) + 1 := by omega
   have t3 : (i : Int) + 1 < c.over.length := by omega
   have t4 : ¬ 0 ≤ cmpI c.over[i] c.over[i + 1] := by omega
   simp [q1,q5,h,h0,e,w1,w2,t1,t2,t3,t4]
  ·have t3 : ¬ (i : Int) + 1 < c.over.length := by omega
   simp [q1,q5,t3]
 rintro s H' -
 simp
end Go.Proofs.Ev
namespace Go.Proofs.Ev
open Go.Proofs
variable {C : Cfg}
structure SettingL (C : Cfg) : Prop extends SettingK C where
 pureL : ∀ f,f ∈ [193,194,195,196,197,198] → C.pure f = true
 plainL : ∀ f,f ∈ [132,192] → C.pure f = false ∧ C.frz f = false
theorem beqF {a b : Int} (h : ¬ a = b) : (a == b) = false := by simpa using h
def overI (k : Int) : Int := if k = 2 ∨ k = 3 ∨ k = 4 ∨ k = 6 then k else 0
theorem ret_overKind (S : SettingK C) (k : Int) : Ret Tryz.prog C 199 [] [.int .i64 k] (.int .i64 (overI k)) := by
 refine ret_pure (S.pureK _ (by decide)) fun H => func_rule Tryz.func199 rfl (S.prim _ (by decide)) (by simp) (by kernel_rfl) ?_
 unfold Tryz.f199
 by_cases h2 : k = 2
 ·subst h2; simp [argS,updateA,lookupA,keyOk,findA,entsA,keyEqA,overI]
 by_cases h3 : k = 3
 ·subst h3; simp [argS,updateA,lookupA,keyOk,findA,entsA,keyEqA,overI]
 by_cases h4 : k = 4
 ·subst h4; simp [argS,updateA,lookupA,keyOk,findA,entsA,keyEqA,overI]
 by_cases h6 : k = 6
 ·subst h6; simp [argS,updateA,lookupA,keyOk,findA,entsA,keyEqA,overI]
 have a2 : (2 : Int) ≠ k := fun h => h2 h.symm
 have a3 : (3 : Int) ≠ k := fun h => h3 h.symm
 have a4 : (4 : Int) ≠ k := fun h => h4 h.symm
 have a6 : (6 : Int) ≠ k := fun h => h6 h.symm
 simp [argS,updateA,lookupA,keyOk,findA,entsA,keyEqA,overI,h2,h3,h4,h6,a2,a3,a4,a6,beqF h2,beqF h3,beqF h4,beqF h6,beqF a2,beqF a3,beqF a4,beqF a6]
theorem ret_fits2 (S : SettingL C) (x : AtV) : Ret Tryz.prog C 193 [] [.agg x.cells] (.bool (x.kind == 1)) := by
 refine ret_pure (S.pureL _ (by decide)) fun H => func_rule Tryz.func193 rfl (S.prim _ (by decide)) (by simp) (by kernel_rfl) ?_
 unfold Tryz.f193
 simp [argS]
theorem ret_fits3 (S : SettingL C) (x : AtV) : Ret Tryz.prog C 194 [] [.agg x.cells] (.bool (x.kind == 1 && (x.type == 2 || x.type == 3))) := by
 refine ret_pure (S.pureL _ (by decide)) fun H => func_rule Tryz.func194 rfl (S.prim _ (by decide)) (by simp) (by kernel_rfl) ?_
 unfold Tryz.f194
 by_cases h1 : x.kind = 1
 ·by_cases h2 : x.type = 2
  ·simp [argS,guardV,h1,h2]
  ·simp [argS,guardV,h1,h2,beqF h2]
 ·simp [argS,guardV,h1,beqF h1]
theorem ret_fits4 (S : SettingL C) (x : AtV) : Ret Tryz.prog C 195 [] [.agg x.cells] (.bool (x.kind == 1 && x.type == 1)) := by
 refine ret_pure (S.pureL _ (by decide)) fun H => func_rule Tryz.func195 rfl (S.prim _ (by decide)) (by simp) (by kernel_rfl) ?_
 unfold Tryz.f195
 by_cases h1 : x.kind = 1
 ·simp [argS,guardV,h1]
 ·simp [argS,guardV,h1,beqF h1]
theorem ret_fits5 (S : SettingL C) (x : AtV) : Ret Tryz.prog C 196 [] [.agg x.cells] (.bool (x.kind == 1 && x.type == 4)) := by
 refine ret_pure (S.pureL _ (by decide)) fun H => func_rule Tryz.func196 rfl (S.prim _ (by decide)) (by simp) (by kernel_rfl) ?_
 unfold Tryz.f196
 by_cases h1 : x.kind = 1
 ·simp [argS,guardV,h1]
 ·simp [argS,guardV,h1,beqF h1]
theorem fits6_eq (S : SettingL C) {base b : Nat} {H : Heap} {c : ChV} (hg : blkRow H b 0 139 0 = some c.cells) (x : AtV) (K : AV → Heap → Prop) :
 CallW Tryz.prog C base (.fn 197 [.ptr b 0 139 0 0]) [.agg x.cells] H K = K (.bool (sameId x.id c.file || (x.kind == 5 && sameId x.file c.file))) H := by
 have hb : b < H.length := by
  rcases Nat.lt_or_ge b H.length with h | h
  ·exact h
  ·simp [blkRow,List.getElem?_eq_none h] at hg
 have hg2 : ∀ L,blkRow (H ++ L) b 0 139 0 = some c.cells := fun L => by
  simp only [blkRow] at hg ⊢; rw [List.getElem?_append_left hb]; exact hg
 refine CallW.eq (pure_rule (S.pureL _ (by decide)) (func_rule Tryz.func197 rfl (S.prim _ (by decide)) (by simp) (by kernel_rfl) ?_)) K
 unfold Tryz.f197
 have ei := fun a b => eq_idV S.toSetting a b
 cases h1 : sameId x.id c.file with
 | true => simp [argS,guardV,hg2,ei,h1]
 | false =>
  by_cases h2 : x.kind = 5
  ·simp [argS,guardV,hg2,ei,h1,h2]
  ·simp [argS,guardV,hg2,ei,h1,h2,beqF h2]
theorem fits7_eq (S : SettingL C) {base b : Nat} {H : Heap} {c : ChV} (hg : blkRow H b 0 139 0 = some c.cells) (x : AtV) (K : AV → Heap → Prop) :
 CallW Tryz.prog C base (.fn 198 [.ptr b 0 139 0 0]) [.agg x.cells] H K = K (.bool (c.kind == 7 || (x.kind == overI c.kind && sameId x.file c.file))) H := by
 have hb : b < H.length := by
  rcases Nat.lt_or_ge b H.length with h | h
  ·exact h
  ·simp [blkRow,List.getElem?_eq_none h] at hg
 have hg2 : ∀ L,blkRow (H ++ L) b 0 139 0 = some c.cells := fun L => by
  simp only [blkRow] at hg ⊢; rw [List.getElem?_append_left hb]; exact hg
 refine CallW.eq (pure_rule (S.pureL _ (by decide)) (func_rule Tryz.func198 rfl (S.prim _ (by decide)) (by simp) (by kernel_rfl) ?_)) K
 unfold Tryz.f198
 have ei := fun a b => eq_idV S.toSetting a b
 have eo := (ret_overKind S.toSettingK c.kind).eq
 by_cases h0 : c.kind = 7
 ·simp [argS,guardV,hg2,ei,h0]
 ·by_cases h2 : x.kind = overI c.kind
  ·simp [argS,guardV,hg2,ei,h0,beqF h0,eo,h2]
  ·simp [argS,guardV,hg2,ei,h0,beqF h0,eo,h2,beqF h2]
def fileF (k : Int) : FuncId := if k = 2 ∨ k = 3 then 193 else if k = 4 then 194 else 195
def refs1 (c : ChV) : List (IdV × AV) := if 2 ≤ c.kind ∧ c.kind ≤ 6 then [(c.file,.fn (fileF c.kind) [])] else []
def refs2 (c : ChV) : List (IdV × AV) := if c.kind = 2 ∧ sameId c.parent rootId = false then [(c.parent,.fn 196 [])] else []
def refs3 (c : ChV) (b : Nat) : List (IdV × AV) := if c.kind = 5 ∨ c.kind = 6 then [(c.after,.fn 197 [.ptr b 0 139 0 0]),(c.before,.fn 197 [.ptr b 0 139 0 0])] else []
def refs4 (c : ChV) (b i : Nat) : List (IdV × AV) := (c.over.take i).map fun x => (x,AV.fn 198 [.ptr b 0 139 0 0])
def refsA (c : ChV) (b : Nat) : List (IdV × AV) := refs1 c ++ (refs2 c ++ (refs3 c b ++ refs4 c b c.over.length))
@[simp] theorem IdV.dropB (x : IdV) (f : AV) : (x.cells ++ [f]).drop 34 = [] := List.drop_of_length_le (by simp)
@[simp] theorem IdV.takeB (x : IdV) (f : AV) : (x.cells ++ [f]).take 34 = x.cells ++ [f] := List.take_of_length_le (by simp)
def refRow (x : IdV × AV) : List AV := x.1.cells ++ [x.2]
@[simp] theorem refRow_len (x : IdV × AV) : (refRow x).length = 34 := by simp [refRow]
theorem addR_eq (S : SettingL C) {Z J : Heap} {base : Nat} (hZ : base ≤ Z.length) {v : AV} {l : List (IdV × AV)} (hg : GrowX (Z.length + 1) 34 J v (l.map refRow)) (hn : l.length ≤ 2 ^ 20) (x : IdV) (f : FuncId) (cs : List AV) :
 ∃ v' J',GrowX (Z.length + 1) 34 J' v' ((l ++ [(x,AV.fn f cs)]).map refRow) ∧ Stays 34 J J' ∧
  ∀ K : AV → Heap → Prop,CallW Tryz.prog C base (.fn 192 [.ptr Z.length 0 1 0 0]) [.agg x.cells,.fn f cs] (Z ++ .rows 1 0 [[v]] :: J) K = K (.tup []) (Z ++ .rows 1 0 [[v']] :: J') := by
 obtain ⟨v',J',h1,h2,h3⟩ := GrowX.appendP (P := Tryz.prog) (base := base) (Z := Z ++ [.rows 1 0 [[v]]]) (J := J ++ [.rows 33 0 [x.cells]]) (n := Z.length + 1) (ts := #[230,230]) (e := 233) (xd := .slice 233) (rows := l.map refRow) (x := .lst [refRow (x,.fn f cs)] true) (ys := [refRow (x,.fn f cs)]) (by simp) (by simp) sz233 by233 (by simp) (by decide) (by simp) (by simp; omega) (hg.app _) (fun r hr => by obtain ⟨y,_,rfl⟩ := List.mem_map.1 hr; simp) rfl (by simp) (by simp; omega)
 refine ⟨v',J',by simpa using h2,fun k blk hk hb => h3 k blk (by rw [List.getElem?_append_left (List.getElem?_eq_some_iff.1 hk).1]; exact hk) hb,fun K => CallW.eq (call_rule (S.plainL _ (by decide)).1 (S.plainL _ (by decide)).2 (func_rule Tryz.func192 rfl (S.prim _ (by decide)) (by simp) (by kernel_rfl) ?_)) K⟩
 unfold Tryz.f192
 simp only [List.append_assoc,List.cons_append,List.nil_append,refRow] at h1
 simp [argS,buildSliceA,fillRows,fillA,h1,storeA]
 exact ⟨⟨hZ,by rw [h2.cellv]; rfl,by rw [h2.cellv]; simpa using h2.leafv⟩,h2.cellv⟩
def refsM (c : ChV) (H : Heap) (l : List (IdV × AV)) (s : Sl) (H' : Heap) : Prop := s 1 = .ptr H.length 0 139 0 0 ∧ s 3 = .ptr (H.length + 1) 0 1 0 0 ∧ s 4 = .fn 192 [.ptr (H.length + 1) 0 1 0 0] ∧ ∃ v J,GrowX (H.length + 2) 34 J v (l.map refRow) ∧ H' = H ++ .rows 139 0 [c.cells] :: .rows 1 0 [[v]] :: J
set_option maxRecDepth 100000 in
set_option maxHeartbeats 4000000 in
theorem references_ex (S : SettingL C) (c : ChV) (hn : c.over.length ≤ 400) {base : Nat} {H : Heap} (hb : base ≤ H.length) :
 ∃ v J,GrowX (H.length + 2) 34 J v ((refsA c H.length).map refRow) ∧ ∀ K : AV → Heap → Prop,CallW Tryz.prog C base (.fn 132 []) [.agg c.cells] H K = K v (H ++ .rows 139 0 [c.cells] :: .rows 1 0 [[v]] :: J) := by
 suffices h : CallW Tryz.prog C base (.fn 132 []) [.agg c.cells] H (fun v' H' => ∃ v J,GrowX (H.length + 2) 34 J v ((refsA c H.length).map refRow) ∧ v' = v ∧ H' = H ++ .rows 139 0 [c.cells] :: .rows 1 0 [[v]] :: J) by
  obtain ⟨n,v1,H1,h1,v,J,hg,rfl,rfl⟩ := h
  exact ⟨_,J,hg,fun K => CallW.eq ⟨n,_,_,h1,rfl,rfl⟩ K⟩
 refine call_rule (S.plainL _ (by decide)).1 (S.plainL _ (by decide)).2 (func_rule Tryz.func132 rfl (S.prim _ (by decide)) (by simp) (by kernel_rfl) ?_)
 unfold Tryz.f132
 have ad := fun (v : AV) (J : Heap) (l : List (IdV × AV)) (hg : GrowX (H.length + 2) 34 J v (l.map refRow)) (hn : l.length ≤ 2 ^ 20) (x : IdV) (f : FuncId) (cs : List AV) => addR_eq S (Z := H ++ [.rows 139 0 [c.cells]]) (base := base) (J := J) (v := v) (by simp; omega) (l := l) (by simpa using hg) hn x f cs
 simp only [List.append_assoc,List.cons_append,List.nil_append,List.length_append,List.length_cons,List.length_nil,Nat.zero_add] at ad
 refine cut (fun s H' => s 1 = .ptr H.length 0 139 0 0 ∧ H' = H ++ [.rows 139 0 [c.cells]]) ?_ ?_
 ·simp [argS]
 rintro s H' ⟨q1,rfl⟩
 refine cut (fun s H' => s 1 = .ptr H.length 0 139 0 0 ∧ s 3 = .ptr (H.length + 1) 0 1 0 0 ∧ H' = H ++ [.rows 139 0 [c.cells],.rows 1 0 [[.nils]]]) ?_ ?_
 ·simp [q1]
 rintro s H' ⟨q1,q3,rfl⟩
 refine cut (refsM c H []) ?_ ?_
 ·simp [q1,q3,refsM]
  exact .nils
 rintro s H' ⟨q1,q3,q4,v,J,hg,rfl⟩
 refine cut (refsM c H (refs1 c)) ?_ ?_
 ·by_cases k2 : c.kind = 2
  ·obtain ⟨v',J',hg',_,ea⟩ := ad v J [] hg (by simp) c.file 193 []
   simp [q1,q3,q4,k2,ea,refsM,refs1,fileF]
   simpa using hg'
  by_cases k3 : c.kind = 3
  ·obtain ⟨v',J',hg',_,ea⟩ := ad v J [] hg (by simp) c.file 193 []
   simp [q1,q3,q4,k3,ea,refsM,refs1,fileF]
   simpa using hg'
  by_cases k4 : c.kind = 4
  ·obtain ⟨v',J',hg',_,ea⟩ := ad v J [] hg (by simp) c.file 194 []
   simp [q1,q3,q4,k4,ea,refsM,refs1,fileF]
   simpa using hg'
  by_cases k5 : c.kind = 5
  ·obtain ⟨v',J',hg',_,ea⟩ := ad v J [] hg (by simp) c.file 195 []
   simp [q1,q3,q4,k5,ea,refsM,refs1,fileF]
   simpa using hg'
  by_cases k6 : c.kind = 6
  ·obtain ⟨v',J',hg',_,ea⟩ := ad v J [] hg (by simp) c.file 195 []
   simp [q1,q3,q4,k6,ea,refsM,refs1,fileF]
   simpa using hg'
  ·have h0 : refs1 c = [] := by rw [refs1,if_neg (by omega)]
   simp [q1,q3,q4,k2,k3,k4,k5,k6,refsM,h0]
   exact hg
 clear hg q1 q3 q4
 have n1 : (refs1 c).length ≤ 1 := by unfold refs1; split <;> simp
 have n2 : (refs2 c).length ≤ 1 := by unfold refs2; split <;> simp
 have n3 : (refs3 c H.length).length ≤ 2 := by unfold refs3; split <;> simp
 rintro s H' ⟨q1,q3,q4,v,J,hg,rfl⟩
 refine cut (refsM c H (refs1 c ++ refs2 c)) ?_ ?_
 ·have er := (ret_root S.toSetting).eq
  have ei := ne_of_eq (eq_idV S.toSetting c.parent rootId)
  by_cases k2 : c.kind = 2
  ·cases hp : sameId c.parent rootId with
   | true =>
    have h0 : refs2 c = [] := by rw [refs2,if_neg (by simp [hp])]
    simp [q1,q3,q4,guardV,k2,er,ei,hp,refsM,h0]
    simpa using hg
   | false =>
    obtain ⟨v',J',hg',_,ea⟩ := ad v J (refs1 c) hg (by omega) c.parent 196 []
    have h0 : refs2 c = [(c.parent,.fn 196 [])] := by rw [refs2,if_pos ⟨k2,hp⟩]
    simp [q1,q3,q4,guardV,k2,er,ei,hp,ea,refsM,h0]
    simpa using hg'
  ·have h0 : refs2 c = [] := by rw [refs2,if_neg (by simp [k2])]
   simp [q1,q3,q4,guardV,k2,beqF k2,refsM,h0]
   simpa using hg
 clear hg q1 q3 q4
 rintro s H' ⟨q1,q3,q4,v,J,hg,rfl⟩
 refine cut (refsM c H (refs1 c ++ refs2 c ++ refs3 c H.length)) ?_ ?_
 ·by_cases k5 : c.kind = 5 ∨ c.kind = 6
  ·obtain ⟨v',J',hg',_,ea⟩ := ad v J (refs1 c ++ refs2 c) hg (by simp; omega) c.after 197 [.ptr H.length 0 139 0 0]
   obtain ⟨v2,J2,hg2,_,ea2⟩ := ad v' J' _ hg' (by simp; omega) c.before 197 [.ptr H.length 0 139 0 0]
   have h0 : refs3 c H.length = [(c.after,.fn 197 [.ptr H.length 0 139 0 0]),(c.before,.fn 197 [.ptr H.length 0 139 0 0])] := by rw [refs3,if_pos k5]
   rcases k5 with k5 | k5
   ·simp [q1,q3,q4,guardV,k5,ea,ea2,refsM,h0]
    simpa using hg2
   ·simp [q1,q3,q4,guardV,k5,ea,ea2,refsM,h0]
    simpa using hg2
  ·have h0 : refs3 c H.length = [] := by rw [refs3,if_neg k5]
   have k5' : c.kind ≠ 5 ∧ c.kind ≠ 6 := by omega
   simp [q1,q3,q4,guardV,k5'.1,k5'.2,beqF k5'.1,beqF k5'.2,refsM,h0]
   simpa using hg
 clear hg q1 q3 q4
 rintro s H' ⟨q1,q3,q4,v,J,hg,rfl⟩
 refine cut (refsM c H (refs1 c ++ refs2 c ++ refs3 c H.length ++ refs4 c H.length c.over.length)) ?_ ?_
 ·simp [q1]
  refine loop_count c.over.length (fun i s H' => s 64 = slAV c.overK (c.over.map IdV.cells) ∧ s 65 = .int .i64 c.over.length ∧ s 66 = .int .i64 i ∧ refsM c H (refs1 c ++ refs2 c ++ refs3 c H.length ++ refs4 c H.length i) s H') ?_ ?_
  ·exact ⟨rfl,rfl,rfl,q1,q3,q4,v,J,by simpa [refs4] using hg,rfl⟩
  clear hg q1 q3 q4
  rintro i s H' ⟨q64,q65,q66,q1,q3,q4,v,J,hg,rfl⟩ hi
  by_cases h : i < c.over.length
  ·have n4 : (refs4 c H.length i).length ≤ 400 := by simp [refs4]; omega
   obtain ⟨v',J',hg',_,ea⟩ := ad v (J ++ [.rows 33 0 [c.over[i].cells]]) _ (hg.app _) (by simp; omega) c.over[i] 198 [.ptr H.length 0 139 0 0]
   have er : refs4 c H.length (i + 1) = refs4 c H.length i ++ [(c.over[i],AV.fn 198 [.ptr H.length 0 139 0 0])] := by
    unfold refs4; rw [List.take_add_one,List.getElem?_eq_getElem h,List.map_append]; rfl
   simp [q1,q3,q4,q64,q65,q66,h,storeA,fillA,ea,wrap_succ h (by omega),refsM,er]
   exact ⟨by omega,by simpa using hg'⟩
  ·have h' : i = c.over.length := by omega
   subst h'
   simp [q1,q3,q4,q64,q65,q66,refsM]
   simpa using hg
 clear hg q1 q3 q4
 rintro s H' ⟨q1,q3,q4,v,J,hg,rfl⟩
 simp [q3]
 simpa [refsA] using hg
end Go.Proofs.Ev
namespace Go.Proofs.Ev
open Go.Proofs
variable {C : Cfg}
@[simp] theorem agFits : isAggT Tryz.prog 87 = some false := ag_of Tryz.underlying87 rfl
theorem GrowX.at {P : Program} {t e : TypeId} {sz n : Nat} (h : P.underlying t = some (.slice e)) (hs : szOf P e = some sz) {Z J : Heap} (hn : n = Z.length) {v : AV} {rows : List (List AV)} (hg : GrowX n sz J v rows) {i : Nat} (hi : i < rows.length) (hr : rows[i].length = sz) (k : IntKind) :
 ∃ a,indexAddrA P t v (.int k (i : Int)) = some a ∧ ∀ t',loadA P (Z ++ J) t' a = takeVal P t' rows[i] := by
 subst hn
 rcases hg with ⟨rfl,rfl⟩ | rfl | ⟨b,g,rfl,hb⟩
 ·simp at hi
 ·refine ⟨.eptr rows[i],?_,fun t' => by simp⟩
  rw [ia_lst h hs]; simp [hi,hr]
 ·refine ⟨.ptr (Z.length + b) g sz i 0,?_,fun t' => ?_⟩
  ·rw [ia_sl h hs]; simp [hi]
  ·rw [load_ptr,blkRow_app,blkRow_eq hb]; simp [hi]
structure SettingM (C : Cfg) : Prop extends SettingL C where
 frzM : ∀ f,f ∈ [163] → C.pure f = false ∧ C.frz f = true
theorem oneE_ok {x : IdV} {n : Int} {b : Bool} (h : oneE x n b = 0) : 0 ≤ x.n ∧ (zeroD x.d = true → x.n < n ∧ b = true) ∧ (zeroD x.d = false → x.n < 100000) := by
 unfold oneE at h
 split at h
 ·rename_i ha
  unfold allowedB at ha
  cases hz : zeroD x.d with
  | true =>
   rw [hz] at h ha
   simp at h ha
   exact ⟨ha.1,fun _ => ⟨ha.2,h⟩,fun h => by cases h⟩
  | false =>
   rw [hz] at h ha
   simp at ha
   exact ⟨ha.1,fun h => (by cases h),fun _ => ha.2⟩
 ·omega
def RefOk (C : Cfg) (base : Nat) (c : ChV) (b : Nat) (own : List AtV) (x : IdV × AV) : Prop :=
 0 ≤ x.1.n ∧ x.1.n < 100000 ∧ (zeroD x.1.d = true → x.1.n < own.length ∧ ∀ y,own[x.1.n.toNat]? = some y → ∀ (H : Heap) (K : AV → Heap → Prop),blkRow H b 0 139 0 = some c.cells → CallW Tryz.prog C base x.2 [.agg y.cells] H K = K (.bool true) H)
theorem refOk_of {base : Nat} {c : ChV} {b : Nat} {own : List AtV} {x : IdV} {f : AV} {fits : Bool} (h : oneE x own.length fits = 0) (hn : own.length ≤ 100000)
 (hf : zeroD x.d = true → fits = true → ∀ y,own[x.n.toNat]? = some y → getAt own x = y → ∀ (H : Heap) (K : AV → Heap → Prop),blkRow H b 0 139 0 = some c.cells → CallW Tryz.prog C base f [.agg y.cells] H K = K (.bool true) H) : RefOk C base c b own (x,f) := by
 obtain ⟨h1,h2,h3⟩ := oneE_ok h
 cases hz : zeroD x.d with
 | true =>
  have h4 := h2 hz
  refine ⟨h1,by simp only; omega,fun _ => ⟨h4.1,fun y hy => hf hz h4.2 y hy ?_⟩⟩
  unfold getAt
  rw [hz]
  simp only [List.getD_eq_getElem?_getD,hy]
  simp [h1,h4.1]
 | false => exact ⟨h1,h3 hz,fun h => (by rw [hz] at h; cases h)⟩
theorem sameId_iff {a b : IdV} : sameId a b = true ↔ a.d = b.d ∧ a.n = b.n := by simp [sameId]
theorem refs_ok (S : SettingL C) {base : Nat} {c : ChV} (hc : c.Good) {own : List AtV} (h : refE c own = 0) (hid : ∀ (i : Nat) (y : AtV),own[i]? = some y → y.id = ownId i) (hn : own.length ≤ 100000) (b : Nat) : ∀ x ∈ refsA c b,RefOk C base c b own x := by
 unfold refE at h
 split at h
 ·omega
 rename_i h1
 split at h
 ·omega
 rename_i h2
 split at h
 ·omega
 rename_i h3
 split at h
 ·omega
 rename_i h4
 have h1 : ref1 c own = 0 := by omega
 have h2 : ref2 c own = 0 := by omega
 have h3 : ref3 c own = 0 := by omega
 have h4 : refOver c own c.over = 0 := by omega
 intro x hx
 simp only [refsA,List.mem_append] at hx
 rcases hx with hx | hx | hx | hx
 ·unfold refs1 at hx
  split at hx
  ·rename_i hk
   rw [ref1,if_pos hk] at h1
   simp only [List.mem_singleton] at hx
   subst hx
   refine refOk_of h1 hn fun hz hf y hy hg H K hb => ?_
   rw [hg] at hf
   unfold fitsFileB at hf
   split at hf
   ·rename_i hy1
    unfold fileF
    split
    ·rw [(ret_fits2 S y).eq]; simp [hy1]
    ·split
     ·rename_i hk4
      rw [(ret_fits3 S y).eq]
      simp [textB,hk4] at hf
      rcases hf with hf | hf <;> simp [hy1,hf]
     ·rename_i hk23 hk4
      have hk56 : c.kind = 5 ∨ c.kind = 6 := by omega
      have ht : textB c.kind = true := by simp [textB]; exact hk56
      rw [if_pos ht] at hf
      rw [(ret_fits4 S y).eq]
      simp at hf
      simp [hy1,hf]
   ·cases hf
  ·cases hx
 ·unfold refs2 at hx
  split at hx
  ·rename_i hk
   rw [ref2,if_pos hk] at h2
   simp only [List.mem_singleton] at hx
   subst hx
   refine refOk_of h2 hn fun hz hf y hy hg H K hb => ?_
   rw [hg] at hf
   rw [(ret_fits5 S y).eq,hf]
  ·cases hx
 ·unfold refs3 at hx
  split at hx
  ·rename_i hk
   have ht : textB c.kind = true := by simp [textB]; exact hk
   rw [ref3,if_pos ht] at h3
   have ha : refEnd c own c.after = 0 := by split at h3 <;> omega
   rw [if_pos ha] at h3
   have key : ∀ z,refEnd c own z = 0 → RefOk C base c b own (z,.fn 197 [.ptr b 0 139 0 0]) := by
    intro z hz0
    unfold refEnd at hz0
    refine refOk_of hz0 hn fun hz hf y hy hg H K hb => ?_
    rw [hg] at hf
    rw [fits6_eq S hb y K]
    congr 2
    rw [Bool.or_eq_true] at hf ⊢
    rcases hf with hf | hf
    ·left
     rw [sameId_iff] at hf ⊢
     have hyid := hid _ _ hy
     have h0 := (oneE_ok hz0).1
     have hzd : z.d = digest0 := by simpa [zeroD] using hz
     rw [hyid]
     exact ⟨by show digest0 = _; rw [← hzd]; exact hf.1,by rw [← hf.2]; simp [ownId]; omega⟩
    ·right; exact hf
   simp only [List.mem_cons,List.not_mem_nil,or_false] at hx
   rcases hx with rfl | rfl
   ·exact key _ ha
   ·exact key _ h3
  ·cases hx
 ·simp only [refs4,List.mem_map] at hx
  obtain ⟨z,hz,rfl⟩ := hx
  have hz := List.mem_of_mem_take hz
  have ho : ∀ (l : List IdV),refOver c own l = 0 → ∀ z ∈ l,oneE z own.length (fitsOverB c.kind c.file (getAt own z)) = 0 := by
   intro l
   induction l with
   | nil => intro _ z hz; cases hz
   | cons a l ih =>
    intro hl z hz
    simp only [refOver] at hl
    split at hl
    ·rename_i h0
     rcases List.mem_cons.1 hz with rfl | hz
     ·exact h0
     ·exact ih hl z hz
    ·omega
  refine refOk_of (ho _ h4 z hz) hn fun hz0 hf y hy hg H K hb => ?_
  rw [hg] at hf
  rw [fits7_eq S hb y K]
  have hk : c.kind ≠ 1 ∧ c.kind ≠ 5 := by
   have ht := hc.tidy
   simp only [tidyP,Bool.and_eq_true,Bool.or_eq_true,decide_eq_true_eq,beq_iff_eq] at ht
   obtain ⟨_,t8⟩ := ht
   have hne : c.over.length ≠ 0 := fun h0 => by rw [List.length_eq_zero_iff.1 h0] at hz; cases hz
   rcases t8 with t8 | t8
   ·simp at t8; omega
   ·omega
  have k1 := hc.k1
  have k7 := hc.k7
  congr 2
  by_cases h7 : c.kind = 7
  ·simp [h7]
  ·have hw : wantI c.kind = c.kind := by simp [wantI,h7]
   have ho : overI c.kind = c.kind := by rw [overI,if_pos (by omega)]
   simp only [fitsOverB,hw] at hf
   rw [ho]
   simpa [h7,show c.kind ≠ 0 by omega] using hf
theorem refsA_fn {c : ChV} {b : Nat} : ∀ x ∈ refsA c b,∃ f cs,x.2 = AV.fn f cs := by
 intro x hx
 simp only [refsA,List.mem_append] at hx
 rcases hx with hx | hx | hx | hx
 ·unfold refs1 at hx
  split at hx
  ·simp only [List.mem_singleton] at hx; subst hx; exact ⟨_,_,rfl⟩
  ·cases hx
 ·unfold refs2 at hx
  split at hx
  ·simp only [List.mem_singleton] at hx; subst hx; exact ⟨_,_,rfl⟩
  ·cases hx
 ·unfold refs3 at hx
  split at hx
  ·simp only [List.mem_cons,List.not_mem_nil,or_false] at hx
   rcases hx with rfl | rfl <;> exact ⟨_,_,rfl⟩
  ·cases hx
 ·simp only [refs4,List.mem_map] at hx
  obtain ⟨z,_,rfl⟩ := hx
  exact ⟨_,_,rfl⟩
theorem ref5_ok {c : ChV} {own : List AtV} (h : refE c own = 0) : ref5 c = 0 := by
 unfold refE at h
 repeat' split at h
 all_goals first | omega | exact h
set_option maxHeartbeats 4000000 in
theorem ret_checkReferences (S : SettingM C) (c : ChV) (own : List AtV) (k : SK) (hc : c.Good) (hr : refE c own = 0) (hid : ∀ (i : Nat) (y : AtV),own[i]? = some y → y.id = ownId i) (hn : own.length ≤ 100000) :
 Ret0 Tryz.prog C 163 [.agg c.cells,slAV k (own.map AtV.cells)] (.int .i64 0) := by
 refine ret_frzH (S.frzM _ (by decide)).1 (S.frzM _ (by decide)).2 rfl fun H => func_rule Tryz.func163 rfl (S.prim _ (by decide)) (by simp) (by kernel_rfl) ?_
 unfold Tryz.f163
 have hok := refs_ok S.toSettingL (base := H.length) hc hr hid hn (H.length + 1)
 have h5 := ref5_ok hr
 obtain ⟨v,J,hg,er⟩ := references_ex S.toSettingL c hc.on (base := H.length) (H := H ++ [.rows 139 0 [c.cells]]) (by simp)
 simp only [List.append_assoc,List.cons_append,List.nil_append,List.length_append,List.length_cons,List.length_nil,Nat.zero_add] at hg er
 obtain ⟨R,hR⟩ : ∃ R,R = refsA c (H.length + 1) := ⟨_,rfl⟩
 rw [← hR] at hok hg
 have hov := hc.on
 have hRl : R.length ≤ 404 := by
  have n1 : (refs1 c).length ≤ 1 := by unfold refs1; split <;> simp
  have n2 : (refs2 c).length ≤ 1 := by unfold refs2; split <;> simp
  have n3 : (refs3 c (H.length + 1)).length ≤ 2 := by unfold refs3; split <;> simp
  have n4 : (refs4 c (H.length + 1) c.over.length).length ≤ 400 := by simp [refs4]; omega
  rw [hR]; simp [refsA]; omega
 have hlen := fun HH => hg.len (P := Tryz.prog) (t := 230) (e := 233) (H := HH) (by simp)
 rw [List.length_map] at hlen
 refine cut (fun s H' => s 1 = slAV k (own.map AtV.cells) ∧ s 2 = .ptr H.length 0 139 0 0 ∧ H' = H ++ [.rows 139 0 [c.cells]]) ?_ ?_
 ·simp [argS]
 rintro s H' ⟨q1,q2,rfl⟩
 refine cut (fun s H' => s 2 = .ptr H.length 0 139 0 0 ∧ ∃ L,H' = H ++ .rows 139 0 [c.cells] :: L) ?_ ?_
 ·simp [q1,q2,er,hlen]
  refine loop_count R.length (fun i s H' => s 1 = slAV k (own.map AtV.cells) ∧ s 2 = .ptr H.length 0 139 0 0 ∧ s 8 = v ∧ s 9 = .int .i64 R.length ∧ s 10 = .int .i64 i ∧ ∃ L,H' = H ++ .rows 139 0 [c.cells] :: .rows 139 0 [c.cells] :: .rows 1 0 [[v]] :: (J ++ L)) ?_ ?_
  ·exact ⟨q1,q2,rfl,rfl,rfl,[],by simp⟩
  clear q1 q2
  rintro i s H' ⟨q1,q2,q8,q9,q10,L,rfl⟩ hi
  by_cases h : i < R.length
  ·obtain ⟨x,hx⟩ : ∃ x,x = R[i] := ⟨_,rfl⟩
   have hxm : x ∈ R := hx ▸ List.getElem_mem h
   obtain ⟨o1,o2,o3⟩ := hok x hxm
   obtain ⟨a,ha,hl⟩ := (hg.app L).at (P := Tryz.prog) (t := 230) (e := 233) (Z := H ++ [.rows 139 0 [c.cells],.rows 139 0 [c.cells],.rows 1 0 [[v]]]) (by simp) sz233 (by simp) (i := i) (by simpa using h) (by simp) .i64
   simp only [List.append_assoc,List.cons_append,List.nil_append,List.getElem_map,← hx] at hl
   obtain ⟨f,cs,hfn⟩ := refsA_fn x (hR ▸ hxm)
   have r4 : ∀ y ∈ x.1.cells ++ [x.2],y.leaf = true := by
    intro y hy
    rcases List.mem_append.1 hy with hy | hy
    ·exact List.all_eq_true.1 x.1.leafs y hy
    ·rw [List.mem_singleton.1 hy,hfn]; rfl
   have eo := (ret_own S.toSettingF x.1).eq
   have p1 : ¬ x.1.n < 0 := by omega
   have p2 : ¬ 100000 ≤ x.1.n := by omega
   unfold refRow at hl
   cases hz : zeroD x.1.d with
   | false =>
    simp [q1,q2,q8,q9,q10,h,ha,hl,storeA,fillA,r4,eo,hz,p1,p2,guardV,wrap_succ h (by omega)]
    done
   | true =>
    obtain ⟨o4,o5⟩ := o3 hz
    have o6 : x.1.n.toNat < own.length := by omega
    have p3 : ¬ (own.length : Int) ≤ x.1.n := by omega
    have ec := fun L K => o5 own[x.1.n.toNat] (by simp [o6]) (H ++ .rows 139 0 [c.cells] :: .rows 139 0 [c.cells] :: .rows 1 0 [[v]] :: L) K (by rw [show H.length + 1 = H.length + 1 from rfl]; simp)
    simp only [hfn] at ec
    simp [q1,q2,q8,q9,q10,h,ha,hl,storeA,fillA,r4,eo,hz,p1,p2,p3,o1,o4,o6,hfn,ec,guardV,wrap_succ h (by omega)]
    done
  ·have h' : i = R.length := by omega
   subst h'
   simp [q1,q2,q8,q9,q10]
 rintro s H' ⟨q2,L,rfl⟩
 have ei := fun a b => eq_idV S.toSetting a b
 have ein := fun a b => ne_of_eq (eq_idV S.toSetting a b)
 unfold ref5 at h5
 by_cases k2 : c.kind = 2
 ·have f1 : sameId c.parent c.file = false := by
   cases hh : sameId c.parent c.file with
   | false => rfl
   | true => rw [if_pos ⟨k2,hh⟩] at h5; omega
  simp [q2,guardV,k2,ei,f1]
  done
 by_cases k6 : c.kind = 6
 ·have f1 : sameId c.after c.before = false := by
   cases hh : sameId c.after c.before with
   | false => rfl
   | true => rw [if_neg (by simp [k2]),if_pos ⟨by simp [textB,k6],hh,.inl k6⟩] at h5; omega
  simp [q2,guardV,k2,k6,ei,f1]
  done
 by_cases k5 : c.kind = 5
 ·cases hh : sameId c.after c.before with
  | false =>
   simp [q2,guardV,k2,k6,k5,ei,hh]
   done
  | true =>
   have f1 : sameId c.after c.file = true := by
    cases h3 : sameId c.after c.file with
    | true => rfl
    | false => rw [if_neg (by simp [k2]),if_pos ⟨by simp [textB,k5],hh,.inr h3⟩] at h5; omega
   simp [q2,guardV,k2,k6,k5,ei,ein,hh,f1]
   done
 ·simp [q2,guardV,k2,k6,k5,beqF k2,beqF k5,beqF k6]
  done
end Go.Proofs.Ev
