/- Part 17 of the proof that quiltlaw38.BlameTouching returns true: no statement of its own. -/
import Derived.Test.YtbpaeodbnleoaaaGreatDoorT16
set_option linter.all false
namespace Go.Proofs.Ev
open Go.Proofs
variable {C:bG}
def su (c:aW):Bool :=
 (decide (c.kind=1)||(c.type==0))&&(decide (c.kind∈[2,3,4,5,6])||aF c.file aO)&&(decide (c.kind=2)||(aF c.parent aO&&c.name.isEmpty))&&(decide (c.kind=3)||(c.mode==0))&&(decide (c.kind=4)||c.data.isEmpty)
 && (decide (c.kind∈[5,6])||(aF c.after aO&&aF c.before aO))&&(decide (c.kind=5)||((c.lines.length:Int)==0))&&(decide (c.kind∈[2,3,4,6,7])||((c.over.length:Int)==0))
set_option maxRecDepth 100000 in
set_option maxHeartbeats 4000000 in
theorem H7 (S:gP C) (c:aW) (hk1:1≤c.kind) (hk7:c.kind≤7):cE Tryz.prog C 271 [] [.agg c.cells] (.bool (su c)):=by
 refine aB (S.pureJ _ (by decide)) fun H=>am Tryz.func271 rfl (S.prim _ (by decide)) (by simp) (by kernel_rfl) ?_
 unfold Tryz.f271
 refine cut (fun s H'=>s 1=.ptr H.length 0 139 0 0∧H'=H++[.rows 139 0 [c.cells]]) ?_ ?_
 ·simp [aG]
 rintro s H' ⟨q1,rfl⟩
 refine cut (fun s H'=>s 1=.ptr H.length 0 139 0 0∧s 3=.ptr (H.length+1) 0 1 0 0∧H'=H++[.rows 139 0 [c.cells],.rows 1 0 [[.int .i64 c.kind]]]) ?_ ?_
 ·simp [q1,ao,aE]
 rintro s H' ⟨q1,q3,rfl⟩
 refine cut (fun s H'=>s 1=.ptr H.length 0 139 0 0∧s 4=.fn 322 [.ptr (H.length+1) 0 1 0 0]∧H'=H++[.rows 139 0 [c.cells],.rows 1 0 [[.int .i64 c.kind]]]) ?_ ?_
 ·simp [q1,q3]
 rintro s H' ⟨q1,q4,rfl⟩
 refine cut (fun s H'=>s 1=.ptr H.length 0 139 0 0∧s 5=.ptr (H.length+2) 0 33 0 0∧s 4=.fn 322 [.ptr (H.length+1) 0 1 0 0]∧H'=H++[.rows 139 0 [c.cells],.rows 1 0 [[.int .i64 c.kind]],.rows 33 0 [aO.cells]]) ?_ ?_
 ·simp [q1,q4,ao,aE]
 rintro s H' ⟨q1,q5,q4,rfl⟩
 obtain ⟨L,hL⟩:∃L:ag,L=[.rows 1 0 [[.int .i64 c.kind]],.rows 33 0 [aO.cells]]:=⟨_,rfl⟩
 have et:=fun (l:List Int) (hl:l.length≤2^40)=>II S (base:=H.length) (b:=H.length+1) (g:=0) (H:=H++.rows 139 0 [c.cells]::L) (kd:=c.kind) (by rw [hL];simp [ax,bt]) l .exact hl
 have hz:ax L 1 0 33 0=some aO.cells:=by rw [hL];rfl
 rw [←hL]
 clear hL
 have t1:=et [1] (by simp)
 have t2:=et [2,3,4,5,6] (by simp)
 have t3:=et [2] (by simp)
 have t4:=et [3] (by simp)
 have t5:=et [4] (by simp)
 have t6:=et [5,6] (by simp)
 have t7:=et [5] (by simp)
 have t8:=et [2,3,4,6,7] (by simp)
 simp only [aw,List.map_cons,List.map_nil] at t1 t2 t3 t4 t5 t6 t7 t8
 have ei:=fun a=>jk S.toaA a aO
 unfold su
 generalize hkd:c.kind=kd at *
 have hk:kd=1∨kd=2∨kd=3∨kd=4∨kd=5∨kd=6∨kd=7:=by omega
 rcases hk with rfl | rfl | rfl | rfl | rfl | rfl | rfl
 ·rcases Bool.eq_false_or_eq_true (aF c.file aO) with f0 | f0
  rotate_left
  ·simp [q1,q5,q4,an,aj,au,t1,t2,t3,t4,t5,t6,t7,t8,ei,hz,f0]
  rcases Bool.eq_false_or_eq_true (aF c.parent aO) with f1 | f1
  rotate_left
  ·simp [q1,q5,q4,an,aj,au,t1,t2,t3,t4,t5,t6,t7,t8,ei,hz,f0,f1]
  rcases Bool.eq_false_or_eq_true (c.name.isEmpty) with f2 | f2
  rotate_left
  ·simp [q1,q5,q4,an,aj,au,t1,t2,t3,t4,t5,t6,t7,t8,ei,hz,f0,f1,f2]
  rcases Bool.eq_false_or_eq_true (c.mode==0) with f3 | f3
  rotate_left
  ·simp [q1,q5,q4,an,aj,au,t1,t2,t3,t4,t5,t6,t7,t8,ei,hz,f0,f1,f2,f3]
  rcases Bool.eq_false_or_eq_true (c.data.isEmpty) with f4 | f4
  rotate_left
  ·simp [q1,q5,q4,an,aj,au,t1,t2,t3,t4,t5,t6,t7,t8,ei,hz,f0,f1,f2,f3,f4]
  rcases Bool.eq_false_or_eq_true (aF c.after aO) with f5 | f5
  rotate_left
  ·simp [q1,q5,q4,an,aj,au,t1,t2,t3,t4,t5,t6,t7,t8,ei,hz,f0,f1,f2,f3,f4,f5]
  rcases Bool.eq_false_or_eq_true (aF c.before aO) with f6 | f6
  rotate_left
  ·simp [q1,q5,q4,an,aj,au,t1,t2,t3,t4,t5,t6,t7,t8,ei,hz,f0,f1,f2,f3,f4,f5,f6]
  rcases Bool.eq_false_or_eq_true ((c.lines.length:Int)==0) with f7 | f7
  rotate_left
  ·simp [q1,q5,q4,an,aj,au,t1,t2,t3,t4,t5,t6,t7,t8,ei,hz,f0,f1,f2,f3,f4,f5,f6,f7]
  rcases Bool.eq_false_or_eq_true ((c.over.length:Int)==0) with f8 | f8
  rotate_left
  ·simp [q1,q5,q4,an,aj,au,t1,t2,t3,t4,t5,t6,t7,t8,ei,hz,f0,f1,f2,f3,f4,f5,f6,f7,f8]
  simp [q1,q5,q4,an,aj,au,t1,t2,t3,t4,t5,t6,t7,t8,ei,hz,f0,f1,f2,f3,f4,f5,f6,f7,f8]
 ·rcases Bool.eq_false_or_eq_true (c.type==0) with f0 | f0
  rotate_left
  ·simp [q1,q5,q4,an,aj,au,t1,t2,t3,t4,t5,t6,t7,t8,ei,hz,f0]
  rcases Bool.eq_false_or_eq_true (c.mode==0) with f1 | f1
  rotate_left
  ·simp [q1,q5,q4,an,aj,au,t1,t2,t3,t4,t5,t6,t7,t8,ei,hz,f0,f1]
  rcases Bool.eq_false_or_eq_true (c.data.isEmpty) with f2 | f2
  rotate_left
  ·simp [q1,q5,q4,an,aj,au,t1,t2,t3,t4,t5,t6,t7,t8,ei,hz,f0,f1,f2]
  rcases Bool.eq_false_or_eq_true (aF c.after aO) with f3 | f3
  rotate_left
  ·simp [q1,q5,q4,an,aj,au,t1,t2,t3,t4,t5,t6,t7,t8,ei,hz,f0,f1,f2,f3]
  rcases Bool.eq_false_or_eq_true (aF c.before aO) with f4 | f4
  rotate_left
  ·simp [q1,q5,q4,an,aj,au,t1,t2,t3,t4,t5,t6,t7,t8,ei,hz,f0,f1,f2,f3,f4]
  rcases Bool.eq_false_or_eq_true ((c.lines.length:Int)==0) with f5 | f5
  rotate_left
  ·simp [q1,q5,q4,an,aj,au,t1,t2,t3,t4,t5,t6,t7,t8,ei,hz,f0,f1,f2,f3,f4,f5]
  simp [q1,q5,q4,an,aj,au,t1,t2,t3,t4,t5,t6,t7,t8,ei,hz,f0,f1,f2,f3,f4,f5]
 ·rcases Bool.eq_false_or_eq_true (c.type==0) with f0 | f0
  rotate_left
  ·simp [q1,q5,q4,an,aj,au,t1,t2,t3,t4,t5,t6,t7,t8,ei,hz,f0]
  rcases Bool.eq_false_or_eq_true (aF c.parent aO) with f1 | f1
  rotate_left
  ·simp [q1,q5,q4,an,aj,au,t1,t2,t3,t4,t5,t6,t7,t8,ei,hz,f0,f1]
  rcases Bool.eq_false_or_eq_true (c.name.isEmpty) with f2 | f2
  rotate_left
  ·simp [q1,q5,q4,an,aj,au,t1,t2,t3,t4,t5,t6,t7,t8,ei,hz,f0,f1,f2]
  rcases Bool.eq_false_or_eq_true (c.data.isEmpty) with f3 | f3
  rotate_left
  ·simp [q1,q5,q4,an,aj,au,t1,t2,t3,t4,t5,t6,t7,t8,ei,hz,f0,f1,f2,f3]
  rcases Bool.eq_false_or_eq_true (aF c.after aO) with f4 | f4
  rotate_left
  ·simp [q1,q5,q4,an,aj,au,t1,t2,t3,t4,t5,t6,t7,t8,ei,hz,f0,f1,f2,f3,f4]
  rcases Bool.eq_false_or_eq_true (aF c.before aO) with f5 | f5
  rotate_left
  ·simp [q1,q5,q4,an,aj,au,t1,t2,t3,t4,t5,t6,t7,t8,ei,hz,f0,f1,f2,f3,f4,f5]
  rcases Bool.eq_false_or_eq_true ((c.lines.length:Int)==0) with f6 | f6
  rotate_left
  ·simp [q1,q5,q4,an,aj,au,t1,t2,t3,t4,t5,t6,t7,t8,ei,hz,f0,f1,f2,f3,f4,f5,f6]
  simp [q1,q5,q4,an,aj,au,t1,t2,t3,t4,t5,t6,t7,t8,ei,hz,f0,f1,f2,f3,f4,f5,f6]
 ·rcases Bool.eq_false_or_eq_true (c.type==0) with f0 | f0
  rotate_left
  ·simp [q1,q5,q4,an,aj,au,t1,t2,t3,t4,t5,t6,t7,t8,ei,hz,f0]
  rcases Bool.eq_false_or_eq_true (aF c.parent aO) with f1 | f1
  rotate_left
  ·simp [q1,q5,q4,an,aj,au,t1,t2,t3,t4,t5,t6,t7,t8,ei,hz,f0,f1]
  rcases Bool.eq_false_or_eq_true (c.name.isEmpty) with f2 | f2
  rotate_left
  ·simp [q1,q5,q4,an,aj,au,t1,t2,t3,t4,t5,t6,t7,t8,ei,hz,f0,f1,f2]
  rcases Bool.eq_false_or_eq_true (c.mode==0) with f3 | f3
  rotate_left
  ·simp [q1,q5,q4,an,aj,au,t1,t2,t3,t4,t5,t6,t7,t8,ei,hz,f0,f1,f2,f3]
  rcases Bool.eq_false_or_eq_true (aF c.after aO) with f4 | f4
  rotate_left
  ·simp [q1,q5,q4,an,aj,au,t1,t2,t3,t4,t5,t6,t7,t8,ei,hz,f0,f1,f2,f3,f4]
  rcases Bool.eq_false_or_eq_true (aF c.before aO) with f5 | f5
  rotate_left
  ·simp [q1,q5,q4,an,aj,au,t1,t2,t3,t4,t5,t6,t7,t8,ei,hz,f0,f1,f2,f3,f4,f5]
  rcases Bool.eq_false_or_eq_true ((c.lines.length:Int)==0) with f6 | f6
  rotate_left
  ·simp [q1,q5,q4,an,aj,au,t1,t2,t3,t4,t5,t6,t7,t8,ei,hz,f0,f1,f2,f3,f4,f5,f6]
  simp [q1,q5,q4,an,aj,au,t1,t2,t3,t4,t5,t6,t7,t8,ei,hz,f0,f1,f2,f3,f4,f5,f6]
 ·rcases Bool.eq_false_or_eq_true (c.type==0) with f0 | f0
  rotate_left
  ·simp [q1,q5,q4,an,aj,au,t1,t2,t3,t4,t5,t6,t7,t8,ei,hz,f0]
  rcases Bool.eq_false_or_eq_true (aF c.parent aO) with f1 | f1
  rotate_left
  ·simp [q1,q5,q4,an,aj,au,t1,t2,t3,t4,t5,t6,t7,t8,ei,hz,f0,f1]
  rcases Bool.eq_false_or_eq_true (c.name.isEmpty) with f2 | f2
  rotate_left
  ·simp [q1,q5,q4,an,aj,au,t1,t2,t3,t4,t5,t6,t7,t8,ei,hz,f0,f1,f2]
  rcases Bool.eq_false_or_eq_true (c.mode==0) with f3 | f3
  rotate_left
  ·simp [q1,q5,q4,an,aj,au,t1,t2,t3,t4,t5,t6,t7,t8,ei,hz,f0,f1,f2,f3]
  rcases Bool.eq_false_or_eq_true (c.data.isEmpty) with f4 | f4
  rotate_left
  ·simp [q1,q5,q4,an,aj,au,t1,t2,t3,t4,t5,t6,t7,t8,ei,hz,f0,f1,f2,f3,f4]
  rcases Bool.eq_false_or_eq_true ((c.over.length:Int)==0) with f5 | f5
  rotate_left
  ·simp [q1,q5,q4,an,aj,au,t1,t2,t3,t4,t5,t6,t7,t8,ei,hz,f0,f1,f2,f3,f4,f5]
  simp [q1,q5,q4,an,aj,au,t1,t2,t3,t4,t5,t6,t7,t8,ei,hz,f0,f1,f2,f3,f4,f5]
 ·rcases Bool.eq_false_or_eq_true (c.type==0) with f0 | f0
  rotate_left
  ·simp [q1,q5,q4,an,aj,au,t1,t2,t3,t4,t5,t6,t7,t8,ei,hz,f0]
  rcases Bool.eq_false_or_eq_true (aF c.parent aO) with f1 | f1
  rotate_left
  ·simp [q1,q5,q4,an,aj,au,t1,t2,t3,t4,t5,t6,t7,t8,ei,hz,f0,f1]
  rcases Bool.eq_false_or_eq_true (c.name.isEmpty) with f2 | f2
  rotate_left
  ·simp [q1,q5,q4,an,aj,au,t1,t2,t3,t4,t5,t6,t7,t8,ei,hz,f0,f1,f2]
  rcases Bool.eq_false_or_eq_true (c.mode==0) with f3 | f3
  rotate_left
  ·simp [q1,q5,q4,an,aj,au,t1,t2,t3,t4,t5,t6,t7,t8,ei,hz,f0,f1,f2,f3]
  rcases Bool.eq_false_or_eq_true (c.data.isEmpty) with f4 | f4
  rotate_left
  ·simp [q1,q5,q4,an,aj,au,t1,t2,t3,t4,t5,t6,t7,t8,ei,hz,f0,f1,f2,f3,f4]
  rcases Bool.eq_false_or_eq_true ((c.lines.length:Int)==0) with f5 | f5
  rotate_left
  ·simp [q1,q5,q4,an,aj,au,t1,t2,t3,t4,t5,t6,t7,t8,ei,hz,f0,f1,f2,f3,f4,f5]
  simp [q1,q5,q4,an,aj,au,t1,t2,t3,t4,t5,t6,t7,t8,ei,hz,f0,f1,f2,f3,f4,f5]
 ·rcases Bool.eq_false_or_eq_true (c.type==0) with f0 | f0
  rotate_left
  ·simp [q1,q5,q4,an,aj,au,t1,t2,t3,t4,t5,t6,t7,t8,ei,hz,f0]
  rcases Bool.eq_false_or_eq_true (aF c.file aO) with f1 | f1
  rotate_left
  ·simp [q1,q5,q4,an,aj,au,t1,t2,t3,t4,t5,t6,t7,t8,ei,hz,f0,f1]
  rcases Bool.eq_false_or_eq_true (aF c.parent aO) with f2 | f2
  rotate_left
  ·simp [q1,q5,q4,an,aj,au,t1,t2,t3,t4,t5,t6,t7,t8,ei,hz,f0,f1,f2]
  rcases Bool.eq_false_or_eq_true (c.name.isEmpty) with f3 | f3
  rotate_left
  ·simp [q1,q5,q4,an,aj,au,t1,t2,t3,t4,t5,t6,t7,t8,ei,hz,f0,f1,f2,f3]
  rcases Bool.eq_false_or_eq_true (c.mode==0) with f4 | f4
  rotate_left
  ·simp [q1,q5,q4,an,aj,au,t1,t2,t3,t4,t5,t6,t7,t8,ei,hz,f0,f1,f2,f3,f4]
  rcases Bool.eq_false_or_eq_true (c.data.isEmpty) with f5 | f5
  rotate_left
  ·simp [q1,q5,q4,an,aj,au,t1,t2,t3,t4,t5,t6,t7,t8,ei,hz,f0,f1,f2,f3,f4,f5]
  rcases Bool.eq_false_or_eq_true (aF c.after aO) with f6 | f6
  rotate_left
  ·simp [q1,q5,q4,an,aj,au,t1,t2,t3,t4,t5,t6,t7,t8,ei,hz,f0,f1,f2,f3,f4,f5,f6]
  rcases Bool.eq_false_or_eq_true (aF c.before aO) with f7 | f7
  rotate_left
  ·simp [q1,q5,q4,an,aj,au,t1,t2,t3,t4,t5,t6,t7,t8,ei,hz,f0,f1,f2,f3,f4,f5,f6,f7]
  rcases Bool.eq_false_or_eq_true ((c.lines.length:Int)==0) with f8 | f8
  rotate_left
  ·simp [q1,q5,q4,an,aj,au,t1,t2,t3,t4,t5,t6,t7,t8,ei,hz,f0,f1,f2,f3,f4,f5,f6,f7,f8]
  simp [q1,q5,q4,an,aj,au,t1,t2,t3,t4,t5,t6,t7,t8,ei,hz,f0,f1,f2,f3,f4,f5,f6,f7,f8]
end Go.Proofs.Ev
namespace Go.Proofs.Ev
open Go.Proofs
variable {C:bG}
structure iJ (C:bG):Prop extends gP C where
 pureK:∀f,f∈[212,184]→C.pure f=true
structure aW.Good (c:aW):Prop where
 k1:1≤c.kind
 k7:c.kind≤7
 tidy:su c=true
 ty:c.kind=1→1≤c.type∧c.type≤4
 nm:c.kind=2→nw c.name=true
 md:0≤c.mode∧c.mode≤511
 dt:c.data.length≤65536
 ln:c.kind=5→c.lines≠[]
 lnn:c.lines.length≤2000
 lv:∀s∈c.lines,zC s=true
 ov:c.kind=7→c.over≠[]
 on:c.over.length≤400
 asc:pT c.over=true
theorem Gu (c:UInt8):ke c=oC c:=by
 rw [Bool.eq_iff_iff]
 simp [ke,oC]
 omega
theorem zK (s:List UInt8):nw s=qt s:=by
 have h:ke=oC:=funext Gu
 rw [Bool.eq_iff_iff]
 cases s with
 | nil=>simp [nw,qt]
 | cons x l =>
  have e:((l.length+1:Nat):Int)≤40↔l.length+1≤40:=by omega
  simp only [nw,qt,h,List.isEmpty_cons,Bool.not_false,Bool.and_true,Bool.and_eq_true,List.length_cons,decide_eq_true_eq,e,Bool.and_assoc,bne]
  constructor
  ·rintro ⟨a,b,c,d⟩;exact ⟨a,by omega,b,c,d⟩
  ·rintro ⟨a,_,b,c,d⟩;exact ⟨a,b,c,d⟩
theorem Hd (s:List UInt8):zC s=kK s:=by
 rw [Bool.eq_iff_iff]
 simp only [zC,kK,Bool.and_eq_true,decide_eq_true_eq,List.all_eq_true,JY]
 constructor
 ·rintro ⟨⟨h1,h2⟩,h3⟩
  refine ⟨by omega,fun x hx=>?_⟩
  have a1:x≠10:=fun h=>h2 (h▸hx)
  have a2:x≠0:=fun h=>h3 (h▸hx)
  have b1:x.toNat≠10:=fun h=>a1 (UInt8.toNat_inj.1 h)
  have b2:x.toNat≠0:=fun h=>a2 (UInt8.toNat_inj.1 h)
  simp;omega
 ·rintro ⟨h1,h2⟩
  refine ⟨⟨by omega,fun h=>?_⟩,fun h=>?_⟩
  ·have:=h2 _ h;simp at this
  ·have:=h2 _ h;simp at this
theorem KJ {c:aW} (h1:1≤c.kind) (h7:c.kind≤7) (h:pb (kz c)=true):su c=true:=by
 have hk:c.kind=1∨c.kind=2∨c.kind=3∨c.kind=4∨c.kind=5∨c.kind=6∨c.kind=7:=by omega
 rcases hk with hk | hk | hk | hk | hk | hk | hk <;>
  simp [pb,kz,oH,oI,oJ,ru,hk] at h<;>simp [su,hk,h]
theorem JC {c:aW} (h:gW c=0):c.Good:=by
 have hln:=qf h
 unfold gW at h
 split at h
 ·omega
 rename_i h1
 split at h
 ·omega
 rename_i h2
 have a1:1≤c.kind∧c.kind≤7:=by simp at h1;omega
 have ht:=KJ a1.1 a1.2 (by simpa using h2)
 split at h
 ·omega
 rename_i h3
 split at h
 ·omega
 rename_i h4
 split at h
 ·omega
 rename_i h5
 split at h
 ·omega
 rename_i h6
 have ht':=ht
 simp only [su,Bool.and_eq_true,Bool.or_eq_true,decide_eq_true_eq,beq_iff_eq] at ht'
 obtain ⟨⟨⟨⟨⟨⟨⟨t1,t2⟩,t3⟩,t4⟩,t5⟩,t6⟩,t7⟩,t8⟩:=ht'
 have hmd:0≤c.mode∧c.mode≤511:=by
  rcases t4 with t4 | t4
  ·simp [t4] at h5;omega
  ·omega
 have hty:c.kind=1→1≤c.type∧c.type≤4:=fun hk=>by simp [hk] at h3;omega
 have hnm:c.kind=2→nw c.name=true:=fun hk=>by simp [hk] at h4;rw [zK];exact h4
 split at h
 ·rename_i hk
  have hov:c.over=[]:=by
   rcases t8 with t8 | t8
   ·simp [hk] at t8
   ·exact List.length_eq_zero_iff.1 (by omega)
  have hl:c.lines.length≠0∧c.lines.all kK=true:=by
   unfold mr at h
   split at h
   ·omega
   split at h
   ·omega
   split at h
   ·rename_i hz _ hv;exact ⟨hz,hv⟩
   ·omega
  refine ⟨a1.1,a1.2,ht,hty,hnm,hmd,by omega,fun _ h0=>hl.1 (by rw [h0];rfl),hln,fun s hs=>?_,fun hk'=>by omega,by rw [hov];simp,by rw [hov];rfl⟩
  rw [Hd];exact List.all_eq_true.1 hl.2 s hs
 ·rename_i hk
  have hlz:c.lines=[]:=by
   rcases t7 with t7 | t7
   ·omega
   ·exact List.length_eq_zero_iff.1 (by omega)
  split at h
  ·omega
  rename_i h7
  split at h
  ·omega
  rename_i h8
  split at h
  ·omega
  rename_i h9
  refine ⟨a1.1,a1.2,ht,hty,hnm,hmd,by omega,fun hk'=>absurd hk' hk,hln,fun s hs=>?_,fun hk' h0=>?_,by omega,by simpa using h9⟩
  ·rw [hlz] at hs;cases hs
  ·simp [hk',h0] at h7
theorem Gd:∀{l:List aI} (_:pT l=true) (k:Nat) (hk:k+1<l.length),dA l[k] l[k+1]<0
 | [],_,k,hk=>by simp at hk
 | [_],_,k,hk=>by simp at hk
 | a::b::l,h,0,hk=>by
  simp only [pT,Bool.and_eq_true,decide_eq_true_eq] at h
  exact h.1
 | a::b::l,h,k+1,hk=>by
  simp only [pT,Bool.and_eq_true,decide_eq_true_eq] at h
  exact Gd (l:=b::l) h.2 k (by simpa using hk)
set_option maxHeartbeats 4000000 in
theorem sQ (S:iJ C) (c:aW) (hg:c.Good) (hn:c.name.length≤2^40):cE Tryz.prog C 212 [] [.agg c.cells] (.int .i64 0):=by
 refine aB (S.pureK _ (by decide)) fun H=>am Tryz.func212 rfl (S.prim _ (by decide)) (by simp) (by kernel_rfl) ?_
 unfold Tryz.f212
 have et:=(H7 S.togP c hg.k1 hg.k7).eq
 rw [hg.tidy] at et
 have en:=(uL S.togc c.name hn).eq
 have k1:=hg.k1
 have k7:=hg.k7
 have m1:=hg.md
 have hl:=hg.lnn
 have hov:=hg.on
 have hd:=hg.dt
 have hk:c.kind=1∨c.kind=2∨c.kind=3∨c.kind=4∨c.kind=5∨c.kind=6∨c.kind=7:=by omega
 refine cut (fun s H'=>s 1=.ptr H.length 0 139 0 0∧H'=H++[.rows 139 0 [c.cells]]) ?_ ?_
 ·simp [aG]
 rintro s H' ⟨q1,rfl⟩
 refine cut (fun s H'=>s 1=.ptr H.length 0 139 0 0∧H'=H++[.rows 139 0 [c.cells]]) ?_ ?_
 ·have f1:¬c.mode<0:=by omega
  have f2:¬511<c.mode:=by omega
  have f3:¬(65536:Int)<c.data.length:=by omega
  have f4:¬(2000:Int)<c.lines.length:=by omega
  rcases hk with hk | hk | hk | hk | hk | hk | hk
  ·have:=hg.ty hk
   have f5:¬c.type<1:=by omega
   have f6:¬4<c.type:=by omega
   simp [q1,et,en,an,hk,f1,f2,f3,f4,f5,f6]
  ·have:=hg.nm hk
   simp [q1,et,en,an,hk,f1,f2,f3,f4,this]
  ·simp [q1,et,en,an,hk,f1,f2,f3,f4]
  ·simp [q1,et,en,an,hk,f1,f2,f3,f4]
  ·have:=hg.ln hk
   simp [q1,et,en,an,hk,f1,f2,f3,f4,this]
  ·simp [q1,et,en,an,hk,f1,f2,f3,f4]
  ·simp [q1,et,en,an,hk,f1,f2,f3,f4]
 rintro s H' ⟨q1,rfl⟩
 refine cut (fun s H'=>s 1=.ptr H.length 0 139 0 0∧H'=H++[.rows 139 0 [c.cells]]) ?_ ?_
 ·simp [q1]
  refine az c.lines.length (fun i s H'=>s 1=.ptr H.length 0 139 0 0∧s 73=aw c.linesK (c.lines.map fU)∧s 74=.int .i64 c.lines.length∧s 75=.int .i64 i∧H'=H++[.rows 139 0 [c.cells]]) ?_ ?_
  ·exact ⟨q1,rfl,rfl,rfl,rfl⟩
  rintro i s H' ⟨q1,q73,q74,q75,rfl⟩ hi
  by_cases h:i<c.lines.length
  ·have ev:=(CF S.togP c.lines[i]).eq
   rw [hg.lv _ (List.getElem_mem h)] at ev
   simp [q1,q73,q74,q75,h,fU,ev,ay h (by omega)]
  ·have h':i=c.lines.length:=by omega
   subst h'
   simp [q1,q73,q74,q75]
 rintro s H' ⟨q1,rfl⟩
 refine cut (fun s H'=>s 1=.ptr H.length 0 139 0 0∧H'=H++[.rows 139 0 [c.cells]]) ?_ ?_
 ·have f4:¬(400:Int)<c.over.length:=by omega
  by_cases hk7:c.kind=7
  ·have:=hg.ov hk7
   simp [q1,an,hk7,f4,this]
  ·have b7:(c.kind==7)=false:=by simpa using hk7
   simp [q1,an,b7,hk7,f4]
 rintro s H' ⟨q1,rfl⟩
 refine cut (fun _ _=>True) ?_ ?_
 ·simp [q1]
  refine az c.over.length (fun i s H'=>s 1=.ptr H.length 0 139 0 0∧s 5=.int .i64 ((i:Int)+1)∧H'=H++[.rows 139 0 [c.cells]]) ?_ ?_
  ·exact ⟨q1,rfl,rfl⟩
  rintro i s H' ⟨q1,q5,rfl⟩ hi
  by_cases h:i+1<c.over.length
  ·have h0:i<c.over.length:=by omega
   have e:=(wz S.toeQ c.over[i] c.over[i+1]).eq
   have hc:=Gd hg.asc i h
   have w1:IntKind.i64.wrap (i:Int)=i:=gy (by omega)
   have w2:IntKind.i64.wrap ((i:Int)+1+1)=((i+1:Nat):Int)+1:=by rw [aK (by omega) (by omega)];omega
   have t1:((i:Int)+1).toNat=i+1:=by omega
   have t2:(0:Int)≤(i:Int)+1:=by omega
   have t3:(i:Int)+1<c.over.length:=by omega
   have t4:¬0≤dA c.over[i] c.over[i+1]:=by omega
   simp [q1,q5,h,h0,e,w1,w2,t1,t2,t3,t4]
  ·have t3:¬(i:Int)+1<c.over.length:=by omega
   simp [q1,q5,t3]
 rintro s H' -
 simp
end Go.Proofs.Ev
namespace Go.Proofs.Ev
open Go.Proofs
variable {C:bG}
structure dm (C:bG):Prop extends iJ C where
 pureL:∀f,f∈[178,179,180,181,182,183]→C.pure f=true
 plainL:∀f,f∈[123,177]→C.pure f=false∧C.frz f=false
theorem kO {a b:Int} (h:¬a=b):(a==b)=false:=by simpa using h
def oD (k:Int):Int:=if k=2∨k=3∨k=4∨k=6 then k else 0
theorem xZ (S:iJ C) (k:Int):cE Tryz.prog C 184 [] [.int .i64 k] (.int .i64 (oD k)):=by
 refine aB (S.pureK _ (by decide)) fun H=>am Tryz.func184 rfl (S.prim _ (by decide)) (by simp) (by kernel_rfl) ?_
 unfold Tryz.f184
 by_cases h2:k=2
 ·subst h2;simp [aG,dB,cu,i8,eh,iw,fN,oD]
 by_cases h3:k=3
 ·subst h3;simp [aG,dB,cu,i8,eh,iw,fN,oD]
 by_cases h4:k=4
 ·subst h4;simp [aG,dB,cu,i8,eh,iw,fN,oD]
 by_cases h6:k=6
 ·subst h6;simp [aG,dB,cu,i8,eh,iw,fN,oD]
 have a2:(2:Int)≠k:=fun h=>h2 h.symm
 have a3:(3:Int)≠k:=fun h=>h3 h.symm
 have a4:(4:Int)≠k:=fun h=>h4 h.symm
 have a6:(6:Int)≠k:=fun h=>h6 h.symm
 simp [aG,dB,cu,i8,eh,iw,fN,oD,h2,h3,h4,h6,a2,a3,a4,a6,kO h2,kO h3,kO h4,kO h6,kO a2,kO a3,kO a4,kO a6]
theorem Fm (S:dm C) (x:aH):cE Tryz.prog C 178 [] [.agg x.cells] (.bool (x.kind==1)):=by
 refine aB (S.pureL _ (by decide)) fun H=>am Tryz.func178 rfl (S.prim _ (by decide)) (by simp) (by kernel_rfl) ?_
 unfold Tryz.f178
 simp [aG]
theorem Fo (S:dm C) (x:aH):cE Tryz.prog C 179 [] [.agg x.cells] (.bool (x.kind==1&&(x.type==2||x.type==3))):=by
 refine aB (S.pureL _ (by decide)) fun H=>am Tryz.func179 rfl (S.prim _ (by decide)) (by simp) (by kernel_rfl) ?_
 unfold Tryz.f179
 by_cases h1:x.kind=1
 ·by_cases h2:x.type=2
  ·simp [aG,an,h1,h2]
  ·simp [aG,an,h1,h2,kO h2]
 ·simp [aG,an,h1,kO h1]
theorem Fp (S:dm C) (x:aH):cE Tryz.prog C 180 [] [.agg x.cells] (.bool (x.kind==1&&x.type==1)):=by
 refine aB (S.pureL _ (by decide)) fun H=>am Tryz.func180 rfl (S.prim _ (by decide)) (by simp) (by kernel_rfl) ?_
 unfold Tryz.f180
 by_cases h1:x.kind=1
 ·simp [aG,an,h1]
 ·simp [aG,an,h1,kO h1]
theorem Fq (S:dm C) (x:aH):cE Tryz.prog C 181 [] [.agg x.cells] (.bool (x.kind==1&&x.type==4)):=by
 refine aB (S.pureL _ (by decide)) fun H=>am Tryz.func181 rfl (S.prim _ (by decide)) (by simp) (by kernel_rfl) ?_
 unfold Tryz.f181
 by_cases h1:x.kind=1
 ·simp [aG,an,h1]
 ·simp [aG,an,h1,kO h1]
theorem GR (S:dm C) {base b:Nat} {H:ag} {c:aW} (hg:ax H b 0 139 0=some c.cells) (x:aH) (K:AV→ag→Prop) :
 aD Tryz.prog C base (.fn 182 [.ptr b 0 139 0 0]) [.agg x.cells] H K=K (.bool (aF x.id c.file||(x.kind==5&&aF x.file c.file))) H:=by
 have hb:b<H.length:=by
  rcases Nat.lt_or_ge b H.length with h | h
  ·exact h
  ·simp [ax,List.getElem?_eq_none h] at hg
 have hg2:∀L,ax (H++L) b 0 139 0=some c.cells:=fun L=>by
  simp only [ax] at hg ⊢;rw [List.getElem?_append_left hb];exact hg
 refine aD.eq (d5 (S.pureL _ (by decide)) (am Tryz.func182 rfl (S.prim _ (by decide)) (by simp) (by kernel_rfl) ?_)) K
 unfold Tryz.f182
 have ei:=fun a b=>jk S.toaA a b
 cases h1:aF x.id c.file with
 | true=>simp [aG,an,hg2,ei,h1]
 | false =>
  by_cases h2:x.kind=5
  ·simp [aG,an,hg2,ei,h1,h2]
  ·simp [aG,an,hg2,ei,h1,h2,kO h2]
theorem GS (S:dm C) {base b:Nat} {H:ag} {c:aW} (hg:ax H b 0 139 0=some c.cells) (x:aH) (K:AV→ag→Prop) :
 aD Tryz.prog C base (.fn 183 [.ptr b 0 139 0 0]) [.agg x.cells] H K=K (.bool (c.kind==7||(x.kind==oD c.kind&&aF x.file c.file))) H:=by
 have hb:b<H.length:=by
  rcases Nat.lt_or_ge b H.length with h | h
  ·exact h
  ·simp [ax,List.getElem?_eq_none h] at hg
 have hg2:∀L,ax (H++L) b 0 139 0=some c.cells:=fun L=>by
  simp only [ax] at hg ⊢;rw [List.getElem?_append_left hb];exact hg
 refine aD.eq (d5 (S.pureL _ (by decide)) (am Tryz.func183 rfl (S.prim _ (by decide)) (by simp) (by kernel_rfl) ?_)) K
 unfold Tryz.f183
 have ei:=fun a b=>jk S.toaA a b
 have eo:=(xZ S.toiJ c.kind).eq
 by_cases h0:c.kind=7
 ·simp [aG,an,hg2,ei,h0]
 ·by_cases h2:x.kind=oD c.kind
  ·simp [aG,an,hg2,ei,h0,kO h0,eo,h2]
  ·simp [aG,an,hg2,ei,h0,kO h0,eo,h2,kO h2]
def tW (k:Int):FuncId:=if k=2∨k=3 then 178 else if k=4 then 179 else 180
def fD (c:aW):List (aI×AV):=if 2≤c.kind∧c.kind≤6 then [(c.file,.fn (tW c.kind) [])] else []
def gK (c:aW):List (aI×AV):=if c.kind=2∧aF c.parent nI=false then [(c.parent,.fn 181 [])] else []
def iD (c:aW) (b:Nat):List (aI×AV):=if c.kind=5∨c.kind=6 then [(c.after,.fn 182 [.ptr b 0 139 0 0]),(c.before,.fn 182 [.ptr b 0 139 0 0])] else []
def jb (c:aW) (b i:Nat):List (aI×AV):=(c.over.take i).map fun x=>(x,AV.fn 183 [.ptr b 0 139 0 0])
def jJ (c:aW) (b:Nat):List (aI×AV):=fD c++(gK c++(iD c b++jb c b c.over.length))
@[simp] theorem aI.dropB (x:aI) (f:AV):(x.cells++[f]).drop 34=[]:=List.drop_of_length_le (by simp)
@[simp] theorem aI.takeB (x:aI) (f:AV):(x.cells++[f]).take 34=x.cells++[f]:=List.take_of_length_le (by simp)
def im (x:aI×AV):List AV:=x.1.cells++[x.2]
@[simp] theorem MC (x:aI×AV):(im x).length=34:=by simp [im]
theorem I7 (S:dm C) {Z J:ag} {base:Nat} (hZ:base≤Z.length) {v:AV} {l:List (aI×AV)} (hg:aT (Z.length+1) 34 J v (l.map im)) (hn:l.length≤2^20) (x:aI) (f:FuncId) (cs:List AV) :
 ∃v' J',aT (Z.length+1) 34 J' v' ((l++[(x,AV.fn f cs)]).map im)∧fl 34 J J'∧
  ∀K:AV→ag→Prop,aD Tryz.prog C base (.fn 177 [.ptr Z.length 0 1 0 0]) [.agg x.cells,.fn f cs] (Z++.rows 1 0 [[v]]::J) K=K (.tup []) (Z++.rows 1 0 [[v']]::J'):=by
 obtain ⟨v',J',h1,h2,h3⟩:=aT.appendP (P:=Tryz.prog) (base:=base) (Z:=Z++[.rows 1 0 [[v]]]) (J:=J++[.rows 33 0 [x.cells]]) (n:=Z.length+1) (ts:=#[221,221]) (e:=224) (xd:=.slice 224) (rows:=l.map im) (x:=.lst [im (x,.fn f cs)] true) (ys:=[im (x,.fn f cs)]) (by simp) (by simp) IA NX (by simp) (by decide) (by simp) (by simp;omega) (hg.app _) (fun r hr=>by obtain ⟨y,_,rfl⟩:=List.mem_map.1 hr;simp) rfl (by simp) (by simp;omega)
 refine ⟨v',J',by simpa using h2,fun k blk hk hb=>h3 k blk (by rw [List.getElem?_append_left (List.getElem?_eq_some_iff.1 hk).1];exact hk) hb,fun K=>aD.eq (bn (S.plainL _ (by decide)).1 (S.plainL _ (by decide)).2 (am Tryz.func177 rfl (S.prim _ (by decide)) (by simp) (by kernel_rfl) ?_)) K⟩
 unfold Tryz.f177
 simp only [List.append_assoc,List.cons_append,List.nil_append,im] at h1
 simp [aG,aj,au,aE,h1,ao]
 exact ⟨⟨hZ,by rw [h2.cellv];rfl,by rw [h2.cellv];simpa using h2.leafv⟩,h2.cellv⟩
def gT (c:aW) (H:ag) (l:List (aI×AV)) (s:Sl) (H':ag):Prop:=s 1=.ptr H.length 0 139 0 0∧s 3=.ptr (H.length+1) 0 1 0 0∧s 4=.fn 177 [.ptr (H.length+1) 0 1 0 0]∧∃v J,aT (H.length+2) 34 J v (l.map im)∧H'=H++.rows 139 0 [c.cells]::.rows 1 0 [[v]]::J
set_option maxRecDepth 100000 in
set_option maxHeartbeats 4000000 in
theorem oG (S:dm C) (c:aW) (hn:c.over.length≤400) {base:Nat} {H:ag} (hb:base≤H.length) :
 ∃v J,aT (H.length+2) 34 J v ((jJ c H.length).map im)∧∀K:AV→ag→Prop,aD Tryz.prog C base (.fn 123 []) [.agg c.cells] H K=K v (H++.rows 139 0 [c.cells]::.rows 1 0 [[v]]::J):=by
 suffices h:aD Tryz.prog C base (.fn 123 []) [.agg c.cells] H (fun v' H'=>∃v J,aT (H.length+2) 34 J v ((jJ c H.length).map im)∧v'=v∧H'=H++.rows 139 0 [c.cells]::.rows 1 0 [[v]]::J) by
  obtain ⟨n,v1,H1,h1,v,J,hg,rfl,rfl⟩:=h
  exact ⟨_,J,hg,fun K=>aD.eq ⟨n,_,_,h1,rfl,rfl⟩ K⟩
 refine bn (S.plainL _ (by decide)).1 (S.plainL _ (by decide)).2 (am Tryz.func123 rfl (S.prim _ (by decide)) (by simp) (by kernel_rfl) ?_)
 unfold Tryz.f123
 have ad:=fun (v:AV) (J:ag) (l:List (aI×AV)) (hg:aT (H.length+2) 34 J v (l.map im)) (hn:l.length≤2^20) (x:aI) (f:FuncId) (cs:List AV)=>I7 S (Z:=H++[.rows 139 0 [c.cells]]) (base:=base) (J:=J) (v:=v) (by simp;omega) (l:=l) (by simpa using hg) hn x f cs
 simp only [List.append_assoc,List.cons_append,List.nil_append,List.length_append,List.length_cons,List.length_nil,Nat.zero_add] at ad
 refine cut (fun s H'=>s 1=.ptr H.length 0 139 0 0∧H'=H++[.rows 139 0 [c.cells]]) ?_ ?_
 ·simp [aG]
 rintro s H' ⟨q1,rfl⟩
 refine cut (fun s H'=>s 1=.ptr H.length 0 139 0 0∧s 3=.ptr (H.length+1) 0 1 0 0∧H'=H++[.rows 139 0 [c.cells],.rows 1 0 [[.nils]]]) ?_ ?_
 ·simp [q1]
 rintro s H' ⟨q1,q3,rfl⟩
 refine cut (gT c H []) ?_ ?_
 ·simp [q1,q3,gT]
  exact .nils
 rintro s H' ⟨q1,q3,q4,v,J,hg,rfl⟩
 refine cut (gT c H (fD c)) ?_ ?_
 ·by_cases k2:c.kind=2
  ·obtain ⟨v',J',hg',_,ea⟩:=ad v J [] hg (by simp) c.file 178 []
   simp [q1,q3,q4,k2,ea,gT,fD,tW]
   simpa using hg'
  by_cases k3:c.kind=3
  ·obtain ⟨v',J',hg',_,ea⟩:=ad v J [] hg (by simp) c.file 178 []
   simp [q1,q3,q4,k3,ea,gT,fD,tW]
   simpa using hg'
  by_cases k4:c.kind=4
  ·obtain ⟨v',J',hg',_,ea⟩:=ad v J [] hg (by simp) c.file 179 []
   simp [q1,q3,q4,k4,ea,gT,fD,tW]
   simpa using hg'
  by_cases k5:c.kind=5
  ·obtain ⟨v',J',hg',_,ea⟩:=ad v J [] hg (by simp) c.file 180 []
   simp [q1,q3,q4,k5,ea,gT,fD,tW]
   simpa using hg'
  by_cases k6:c.kind=6
  ·obtain ⟨v',J',hg',_,ea⟩:=ad v J [] hg (by simp) c.file 180 []
   simp [q1,q3,q4,k6,ea,gT,fD,tW]
   simpa using hg'
  ·have h0:fD c=[]:=by rw [fD,if_neg (by omega)]
   simp [q1,q3,q4,k2,k3,k4,k5,k6,gT,h0]
   exact hg
 clear hg q1 q3 q4
 have n1:(fD c).length≤1:=by unfold fD;split<;>simp
 have n2:(gK c).length≤1:=by unfold gK;split<;>simp
 have n3:(iD c H.length).length≤2:=by unfold iD;split<;>simp
 rintro s H' ⟨q1,q3,q4,v,J,hg,rfl⟩
 refine cut (gT c H (fD c++gK c)) ?_ ?_
 ·have er:=(At S.toaA).eq
  have ei:=lI (jk S.toaA c.parent nI)
  by_cases k2:c.kind=2
  ·cases hp:aF c.parent nI with
   | true =>
    have h0:gK c=[]:=by rw [gK,if_neg (by simp [hp])]
    simp [q1,q3,q4,an,k2,er,ei,hp,gT,h0]
    simpa using hg
   | false =>
    obtain ⟨v',J',hg',_,ea⟩:=ad v J (fD c) hg (by omega) c.parent 181 []
    have h0:gK c=[(c.parent,.fn 181 [])]:=by rw [gK,if_pos ⟨k2,hp⟩]
    simp [q1,q3,q4,an,k2,er,ei,hp,ea,gT,h0]
    simpa using hg'
  ·have h0:gK c=[]:=by rw [gK,if_neg (by simp [k2])]
   simp [q1,q3,q4,an,k2,kO k2,gT,h0]
   simpa using hg
 clear hg q1 q3 q4
 rintro s H' ⟨q1,q3,q4,v,J,hg,rfl⟩
 refine cut (gT c H (fD c++gK c++iD c H.length)) ?_ ?_
 ·by_cases k5:c.kind=5∨c.kind=6
  ·obtain ⟨v',J',hg',_,ea⟩:=ad v J (fD c++gK c) hg (by simp;omega) c.after 182 [.ptr H.length 0 139 0 0]
   obtain ⟨v2,J2,hg2,_,ea2⟩:=ad v' J' _ hg' (by simp;omega) c.before 182 [.ptr H.length 0 139 0 0]
   have h0:iD c H.length=[(c.after,.fn 182 [.ptr H.length 0 139 0 0]),(c.before,.fn 182 [.ptr H.length 0 139 0 0])]:=by rw [iD,if_pos k5]
   rcases k5 with k5 | k5
   ·simp [q1,q3,q4,an,k5,ea,ea2,gT,h0]
    simpa using hg2
   ·simp [q1,q3,q4,an,k5,ea,ea2,gT,h0]
    simpa using hg2
  ·have h0:iD c H.length=[]:=by rw [iD,if_neg k5]
   have k5':c.kind≠5∧c.kind≠6:=by omega
   simp [q1,q3,q4,an,k5'.1,k5'.2,kO k5'.1,kO k5'.2,gT,h0]
   simpa using hg
 clear hg q1 q3 q4
 rintro s H' ⟨q1,q3,q4,v,J,hg,rfl⟩
 refine cut (gT c H (fD c++gK c++iD c H.length++jb c H.length c.over.length)) ?_ ?_
 ·simp [q1]
  refine az c.over.length (fun i s H'=>s 64=aw c.overK (c.over.map aI.cells)∧s 65=.int .i64 c.over.length∧s 66=.int .i64 i∧gT c H (fD c++gK c++iD c H.length++jb c H.length i) s H') ?_ ?_
  ·exact ⟨rfl,rfl,rfl,q1,q3,q4,v,J,by simpa [jb] using hg,rfl⟩
  clear hg q1 q3 q4
  rintro i s H' ⟨q64,q65,q66,q1,q3,q4,v,J,hg,rfl⟩ hi
  by_cases h:i<c.over.length
  ·have n4:(jb c H.length i).length≤400:=by simp [jb];omega
   obtain ⟨v',J',hg',_,ea⟩:=ad v (J++[.rows 33 0 [c.over[i].cells]]) _ (hg.app _) (by simp;omega) c.over[i] 183 [.ptr H.length 0 139 0 0]
   have er:jb c H.length (i+1)=jb c H.length i++[(c.over[i],AV.fn 183 [.ptr H.length 0 139 0 0])]:=by
    unfold jb;rw [List.take_add_one,List.getElem?_eq_getElem h,List.map_append];rfl
   simp [q1,q3,q4,q64,q65,q66,h,ao,aE,ea,ay h (by omega),gT,er]
   exact ⟨by omega,by simpa using hg'⟩
  ·have h':i=c.over.length:=by omega
   subst h'
   simp [q1,q3,q4,q64,q65,q66,gT]
   simpa using hg
 clear hg q1 q3 q4
 rintro s H' ⟨q1,q3,q4,v,J,hg,rfl⟩
 simp [q3]
 simpa [jJ] using hg
end Go.Proofs.Ev
namespace Go.Proofs.Ev
open Go.Proofs
variable {C:bG}
@[simp] theorem P3:bb Tryz.prog 135=some false:=dy Tryz.underlying135 rfl
theorem aT.at {P:Program} {t e:TypeId} {sz n:Nat} (h:P.underlying t=some (.slice e)) (hs:bF P e=some sz) {Z J:ag} (hn:n=Z.length) {v:AV} {rows:List (List AV)} (hg:aT n sz J v rows) {i:Nat} (hi:i<rows.length) (hr:rows[i].length=sz) (k:IntKind) :
 ∃a,aY P t v (.int k (i:Int))=some a∧∀t',jH P (Z++J) t' a=gG P t' rows[i]:=by
 subst hn
 rcases hg with ⟨rfl,rfl⟩ | rfl | ⟨b,g,rfl,hb⟩
 ·simp at hi
 ·refine ⟨.eptr rows[i],?_,fun t'=>by simp⟩
  rw [rl h hs];simp [hi,hr]
 ·refine ⟨.ptr (Z.length+b) g sz i 0,?_,fun t'=>?_⟩
  ·rw [uh h hs];simp [hi]
  ·rw [ul,tl,eL hb];simp [hi]
structure lm (C:bG):Prop extends dm C where
 frzM:∀f,f∈[213]→C.pure f=false∧C.frz f=true
theorem sW {x:aI} {n:Int} {b:Bool} (h:rv x n b=0):0≤x.n∧(bC x.d=true→x.n<n∧b=true)∧(bC x.d=false→x.n<100000):=by
 unfold rv at h
 split at h
 ·rename_i ha
  unfold pP at ha
  cases hz:bC x.d with
  | true =>
   rw [hz] at h ha
   simp at h ha
   exact ⟨ha.1,fun _=>⟨ha.2,h⟩,fun h=>by cases h⟩
  | false =>
   rw [hz] at h ha
   simp at ha
   exact ⟨ha.1,fun h=>(by cases h),fun _=>ha.2⟩
 ·omega
def F3 (C:bG) (base:Nat) (c:aW) (b:Nat) (own:List aH) (x:aI×AV):Prop :=
 0≤x.1.n∧x.1.n<100000∧(bC x.1.d=true→x.1.n<own.length∧∀y,own[x.1.n.toNat]?=some y→∀(H:ag) (K:AV→ag→Prop),ax H b 0 139 0=some c.cells→aD Tryz.prog C base x.2 [.agg y.cells] H K=K (.bool true) H)
theorem qw {base:Nat} {c:aW} {b:Nat} {own:List aH} {x:aI} {f:AV} {fits:Bool} (h:rv x own.length fits=0) (hn:own.length≤100000)
 (hf:bC x.d=true→fits=true→∀y,own[x.n.toNat]?=some y→kn own x=y→∀(H:ag) (K:AV→ag→Prop),ax H b 0 139 0=some c.cells→aD Tryz.prog C base f [.agg y.cells] H K=K (.bool true) H):F3 C base c b own (x,f):=by
 obtain ⟨h1,h2,h3⟩:=sW h
 cases hz:bC x.d with
 | true =>
  have h4:=h2 hz
  refine ⟨h1,by simp only;omega,fun _=>⟨h4.1,fun y hy=>hf hz h4.2 y hy ?_⟩⟩
  unfold kn
  rw [hz]
  simp only [List.getD_eq_getElem?_getD,hy]
  simp [h1,h4.1]
 | false=>exact ⟨h1,h3 hz,fun h=>(by rw [hz] at h;cases h)⟩
theorem kF {a b:aI}:aF a b=true↔a.d=b.d∧a.n=b.n:=by simp [aF]
theorem Ko (S:dm C) {base:Nat} {c:aW} (hc:c.Good) {own:List aH} (h:li c own=0) (hid:∀(i:Nat) (y:aH),own[i]?=some y→y.id=br i) (hn:own.length≤100000) (b:Nat):∀x∈jJ c b,F3 C base c b own x:=by
 unfold li at h
 split at h
 ·omega
 rename_i h1
 split at h
 ·omega
 rename_i h2
 split at h
 ·omega
 rename_i h3
 split at h
 ·omega
 rename_i h4
 have h1:Fe c own=0:=by omega
 have h2:Ff c own=0:=by omega
 have h3:xQ c own=0:=by omega
 have h4:eX c own c.over=0:=by omega
 intro x hx
 simp only [jJ,List.mem_append] at hx
 rcases hx with hx | hx | hx | hx
 ·unfold fD at hx
  split at hx
  ·rename_i hk
   rw [Fe,if_pos hk] at h1
   simp only [List.mem_singleton] at hx
   subst hx
   refine qw h1 hn fun hz hf y hy hg H K hb=>?_
   rw [hg] at hf
   unfold jX at hf
   split at hf
   ·rename_i hy1
    unfold tW
    split
    ·rw [(Fm S y).eq];simp [hy1]
    ·split
     ·rename_i hk4
      rw [(Fo S y).eq]
      simp [lS,hk4] at hf
      rcases hf with hf | hf<;>simp [hy1,hf]
     ·rename_i hk23 hk4
      have hk56:c.kind=5∨c.kind=6:=by omega
      have ht:lS c.kind=true:=by simp [lS];exact hk56
      rw [if_pos ht] at hf
      rw [(Fp S y).eq]
      simp at hf
      simp [hy1,hf]
   ·cases hf
  ·cases hx
 ·unfold gK at hx
  split at hx
  ·rename_i hk
   rw [Ff,if_pos hk] at h2
   simp only [List.mem_singleton] at hx
   subst hx
   refine qw h2 hn fun hz hf y hy hg H K hb=>?_
   rw [hg] at hf
   rw [(Fq S y).eq,hf]
  ·cases hx
 ·unfold iD at hx
  split at hx
  ·rename_i hk
   have ht:lS c.kind=true:=by simp [lS];exact hk
   rw [xQ,if_pos ht] at h3
   have ha:ky c own c.after=0:=by split at h3<;>omega
   rw [if_pos ha] at h3
   have key:∀z,ky c own z=0→F3 C base c b own (z,.fn 182 [.ptr b 0 139 0 0]):=by
    intro z hz0
    unfold ky at hz0
    refine qw hz0 hn fun hz hf y hy hg H K hb=>?_
    rw [hg] at hf
    rw [GR S hb y K]
    congr 2
    rw [Bool.or_eq_true] at hf ⊢
    rcases hf with hf | hf
    ·left
     rw [kF] at hf ⊢
     have hyid:=hid _ _ hy
     have h0:=(sW hz0).1
     have hzd:z.d=aP:=by simpa [bC] using hz
     rw [hyid]
     exact ⟨by show aP=_;rw [←hzd];exact hf.1,by rw [←hf.2];simp [br];omega⟩
    ·right;exact hf
   simp only [List.mem_cons,List.not_mem_nil,or_false] at hx
   rcases hx with rfl | rfl
   ·exact key _ ha
   ·exact key _ h3
  ·cases hx
 ·simp only [jb,List.mem_map] at hx
  obtain ⟨z,hz,rfl⟩:=hx
  have hz:=List.mem_of_mem_take hz
  have ho:∀(l:List aI),eX c own l=0→∀z∈l,rv z own.length (dI c.kind c.file (kn own z))=0:=by
   intro l
   induction l with
   | nil=>intro _ z hz;cases hz
   | cons a l ih =>
    intro hl z hz
    simp only [eX] at hl
    split at hl
    ·rename_i h0
     rcases List.mem_cons.1 hz with rfl | hz
     ·exact h0
     ·exact ih hl z hz
    ·omega
  refine qw (ho _ h4 z hz) hn fun hz0 hf y hy hg H K hb=>?_
  rw [hg] at hf
  rw [GS S hb y K]
  have hk:c.kind≠1∧c.kind≠5:=by
   have ht:=hc.tidy
   simp only [su,Bool.and_eq_true,Bool.or_eq_true,decide_eq_true_eq,beq_iff_eq] at ht
   obtain ⟨_,t8⟩:=ht
   have hne:c.over.length≠0:=fun h0=>by rw [List.length_eq_zero_iff.1 h0] at hz;cases hz
   rcases t8 with t8 | t8
   ·simp at t8;omega
   ·omega
  have k1:=hc.k1
  have k7:=hc.k7
  congr 2
  by_cases h7:c.kind=7
  ·simp [h7]
  ·have hw:sx c.kind=c.kind:=by simp [sx,h7]
   have ho:oD c.kind=c.kind:=by rw [oD,if_pos (by omega)]
   simp only [dI,hw] at hf
   rw [ho]
   simpa [h7,show c.kind≠0 by omega] using hf
theorem z8 {c:aW} {b:Nat}:∀x∈jJ c b,∃f cs,x.2=AV.fn f cs:=by
 intro x hx
 simp only [jJ,List.mem_append] at hx
 rcases hx with hx | hx | hx | hx
 ·unfold fD at hx
  split at hx
  ·simp only [List.mem_singleton] at hx;subst hx;exact ⟨_,_,rfl⟩
  ·cases hx
 ·unfold gK at hx
  split at hx
  ·simp only [List.mem_singleton] at hx;subst hx;exact ⟨_,_,rfl⟩
  ·cases hx
 ·unfold iD at hx
  split at hx
  ·simp only [List.mem_cons,List.not_mem_nil,or_false] at hx
   rcases hx with rfl | rfl<;>exact ⟨_,_,rfl⟩
  ·cases hx
 ·simp only [jb,List.mem_map] at hx
  obtain ⟨z,_,rfl⟩:=hx
  exact ⟨_,_,rfl⟩
theorem Kn {c:aW} {own:List aH} (h:li c own=0):Km c=0:=by
 unfold li at h
 repeat' split at h
 all_goals first | omega | exact h
set_option maxHeartbeats 4000000 in
theorem oj (S:lm C) (c:aW) (own:List aH) (k:SK) (hc:c.Good) (hr:li c own=0) (hid:∀(i:Nat) (y:aH),own[i]?=some y→y.id=br i) (hn:own.length≤100000) :
 sD Tryz.prog C 213 [.agg c.cells,aw k (own.map aH.cells)] (.int .i64 0):=by
 refine lN (S.frzM _ (by decide)).1 (S.frzM _ (by decide)).2 rfl fun H=>am Tryz.func213 rfl (S.prim _ (by decide)) (by simp) (by kernel_rfl) ?_
 unfold Tryz.f213
 have hok:=Ko S.todm (base:=H.length) hc hr hid hn (H.length+1)
 have h5:=Kn hr
 obtain ⟨v,J,hg,er⟩:=oG S.todm c hc.on (base:=H.length) (H:=H++[.rows 139 0 [c.cells]]) (by simp)
 simp only [List.append_assoc,List.cons_append,List.nil_append,List.length_append,List.length_cons,List.length_nil,Nat.zero_add] at hg er
 obtain ⟨R,hR⟩:∃R,R=jJ c (H.length+1):=⟨_,rfl⟩
 rw [←hR] at hok hg
 have hov:=hc.on
 have hRl:R.length≤404:=by
  have n1:(fD c).length≤1:=by unfold fD;split<;>simp
  have n2:(gK c).length≤1:=by unfold gK;split<;>simp
  have n3:(iD c (H.length+1)).length≤2:=by unfold iD;split<;>simp
  have n4:(jb c (H.length+1) c.over.length).length≤400:=by simp [jb];omega
  rw [hR];simp [jJ];omega
 have hlen:=fun HH=>hg.len (P:=Tryz.prog) (t:=221) (e:=224) (H:=HH) (by simp)
 rw [List.length_map] at hlen
 refine cut (fun s H'=>s 1=aw k (own.map aH.cells)∧s 2=.ptr H.length 0 139 0 0∧H'=H++[.rows 139 0 [c.cells]]) ?_ ?_
 ·simp [aG]
 rintro s H' ⟨q1,q2,rfl⟩
 refine cut (fun s H'=>s 2=.ptr H.length 0 139 0 0∧∃L,H'=H++.rows 139 0 [c.cells]::L) ?_ ?_
 ·simp [q1,q2,er,hlen]
  refine az R.length (fun i s H'=>s 1=aw k (own.map aH.cells)∧s 2=.ptr H.length 0 139 0 0∧s 8=v∧s 9=.int .i64 R.length∧s 10=.int .i64 i∧∃L,H'=H++.rows 139 0 [c.cells]::.rows 139 0 [c.cells]::.rows 1 0 [[v]]::(J++L)) ?_ ?_
  ·exact ⟨q1,q2,rfl,rfl,rfl,[],by simp⟩
  clear q1 q2
  rintro i s H' ⟨q1,q2,q8,q9,q10,L,rfl⟩ hi
  by_cases h:i<R.length
  ·obtain ⟨x,hx⟩:∃x,x=R[i]:=⟨_,rfl⟩
   have hxm:x∈R:=hx▸List.getElem_mem h
   obtain ⟨o1,o2,o3⟩:=hok x hxm
   obtain ⟨a,ha,hl⟩:=(hg.app L).at (P:=Tryz.prog) (t:=221) (e:=224) (Z:=H++[.rows 139 0 [c.cells],.rows 139 0 [c.cells],.rows 1 0 [[v]]]) (by simp) IA (by simp) (i:=i) (by simpa using h) (by simp) .i64
   simp only [List.append_assoc,List.cons_append,List.nil_append,List.getElem_map,←hx] at hl
   obtain ⟨f,cs,hfn⟩:=z8 x (hR▸hxm)
   have r4:∀y∈x.1.cells++[x.2],y.leaf=true:=by
    intro y hy
    rcases List.mem_append.1 hy with hy | hy
    ·exact List.all_eq_true.1 x.1.leafs y hy
    ·rw [List.mem_singleton.1 hy,hfn];rfl
   have eo:=(sX S.tobS x.1).eq
   have p1:¬x.1.n<0:=by omega
   have p2:¬100000≤x.1.n:=by omega
   unfold im at hl
   cases hz:bC x.1.d with
   | false =>
    simp [q1,q2,q8,q9,q10,h,ha,hl,ao,aE,r4,eo,hz,p1,p2,an,ay h (by omega)]
    done
   | true =>
    obtain ⟨o4,o5⟩:=o3 hz
    have o6:x.1.n.toNat<own.length:=by omega
    have p3:¬(own.length:Int)≤x.1.n:=by omega
    have ec:=fun L K=>o5 own[x.1.n.toNat] (by simp [o6]) (H++.rows 139 0 [c.cells]::.rows 139 0 [c.cells]::.rows 1 0 [[v]]::L) K (by rw [show H.length+1=H.length+1 from rfl];simp)
    simp only [hfn] at ec
    simp [q1,q2,q8,q9,q10,h,ha,hl,ao,aE,r4,eo,hz,p1,p2,p3,o1,o4,o6,hfn,ec,an,ay h (by omega)]
    done
  ·have h':i=R.length:=by omega
   subst h'
   simp [q1,q2,q8,q9,q10]
 rintro s H' ⟨q2,L,rfl⟩
 have ei:=fun a b=>jk S.toaA a b
 have ein:=fun a b=>lI (jk S.toaA a b)
 unfold Km at h5
 by_cases k2:c.kind=2
 ·have f1:aF c.parent c.file=false:=by
   cases hh:aF c.parent c.file with
   | false=>rfl
   | true=>rw [if_pos ⟨k2,hh⟩] at h5;omega
  simp [q2,an,k2,ei,f1]
  done
 by_cases k6:c.kind=6
 ·have f1:aF c.after c.before=false:=by
   cases hh:aF c.after c.before with
   | false=>rfl
   | true=>rw [if_neg (by simp [k2]),if_pos ⟨by simp [lS,k6],hh,.inl k6⟩] at h5;omega
  simp [q2,an,k2,k6,ei,f1]
  done
 by_cases k5:c.kind=5
 ·cases hh:aF c.after c.before with
  | false =>
   simp [q2,an,k2,k6,k5,ei,hh]
   done
  | true =>
   have f1:aF c.after c.file=true:=by
    cases h3:aF c.after c.file with
    | true=>rfl
    | false=>rw [if_neg (by simp [k2]),if_pos ⟨by simp [lS,k5],hh,.inr h3⟩] at h5;omega
   simp [q2,an,k2,k6,k5,ei,ein,hh,f1]
   done
 ·simp [q2,an,k2,k6,k5,kO k2,kO k5,kO k6]
  done
end Go.Proofs.Ev
namespace Go.Proofs.Ev
open Go.Proofs
variable {C:bG}
structure gd (C:bG):Prop extends lm C where
 pureN:∀f,f∈[274]→C.pure f=true
 plainN:∀f,f∈[214]→C.pure f=false∧C.frz f=false
theorem JP (S:gd C) (c:aW) (first:Nat) {base:Nat} {H:ag} (K:AV→ag→Prop) :
 aD Tryz.prog C base (.fn 214 []) [.agg c.cells,.int .i64 (first:Int)] H K=K (.fn 273 [.ptr (H.length+1) 0 1 0 0,.ptr H.length 0 139 0 0]) (H++[.rows 139 0 [c.cells],.rows 1 0 [[.int .i64 (first:Int)]]]):=by
 refine aD.eq (bn (S.plainN _ (by decide)).1 (S.plainN _ (by decide)).2 (am Tryz.func214 rfl (S.prim _ (by decide)) (by simp) (by kernel_rfl) ?_)) K
 unfold Tryz.f214
 simp [aG]
theorem J9 (S:gd C) {base b first n:Nat} {H:ag} (hg:H[b]?=some (.rows 1 0 [[.int .i64 (first:Int)]])) (h1:first≤2^40) (h2:n≤2^40) (K:AV→ag→Prop) :
 aD Tryz.prog C base (.fn 274 [.ptr b 0 1 0 0]) [.int .i64 (n:Int)] H K=K (.agg (br ((first+n:Nat):Int)).cells) H:=by
 have hb:b<H.length:=(List.getElem?_eq_some_iff.1 hg).1
 have hg2:∀L,ax (H++L) b 0 1 0=some [.int .i64 (first:Int)]:=fun L=>by
  simp only [ax];rw [List.getElem?_append_left hb,hg];simp
 refine aD.eq (d5 (S.pureN _ (by decide)) (am Tryz.func274 rfl (S.prim _ (by decide)) (by simp) (by kernel_rfl) ?_)) K
 unfold Tryz.f274
 have w:IntKind.i64.wrap ((first:Int)+n)=((first+n:Nat):Int):=by rw [aK (by omega) (by omega)];omega
 simp [aG,hg2,w,aE,ao]
 simp [aq,AV.closed,br]
structure F5 (C:bG) (base bl bc bf start N:Nat) (c:aW) (first:Nat) (I:List aH→ag→Prop):Prop where
 app:∀{l:List aH} {X:ag} (L:ag),I l X→I l (X++L)
 set:∀{l:List aH} {X:ag} {b g:Nat} {rs:List (List AV)} (rs':List (List AV)),I l X→start≤b→X[b]?=some (.rows 33 g rs)→I l (X.set b (.rows 33 g rs'))
 low:∀{l:List aH} {X:ag},I l X→base≤X.length∧start≤X.length
 c:∀{l:List aH} {X:ag},I l X→X[bc]?=some (.rows 139 0 [c.cells])
 f:∀{l:List aH} {X:ag},I l X→X[bf]?=some (.rows 1 0 [[.int .i64 (first:Int)]])
 yld:∀{l:List aH} {X:ag} (y:aH),I l X→l.length≤N→∃X',I (l++[y]) X'∧(∀b g rs,start≤b→X[b]?=some (.rows 33 g rs)→X'[b]?=some (.rows 33 g rs))∧
  ∀K:AV→ag→Prop,aD Tryz.prog C base (.yld bl) [.agg y.cells] X K=K (.bool true) X'
set_option maxHeartbeats 8000000 in
theorem EO (S:gd C) (c:aW) (first:Nat) (h1:1≤c.kind) (h7:c.kind≤7) (hf:first≤2^30) (hl:c.lines.length≤2000) {base bl bc bf start N:Nat} {I:List aH→ag→Prop} (Y:F5 C base bl bc bf start N c first I)
 {own:List aH} (hown:own.length+4001≤N) {X0:ag} (hI:I own X0) (K:AV→ag→Prop) (hK:∀X,I (own++cg c first) X→K (.tup []) X) :
 dW Tryz.prog C base 273 [.yld bl,.ptr bf 0 1 0 0,.ptr bc 0 139 0 0] X0 K:=by
 refine am Tryz.func273 rfl (S.prim _ (by decide)) (by simp) (by kernel_rfl) ?_
 unfold Tryz.f273
 have hc0:∀{l X},I l X→ax X bc 0 139 0=some c.cells:=fun h=>by simp [ax,Y.c h]
 have on0:∀{l X} (n:Nat),n≤2^40→I l X→∀K:AV→ag→Prop,aD Tryz.prog C base (.fn 274 [.ptr bf 0 1 0 0]) [.int .i64 (n:Int)] X K=K (.agg (br ((first+n:Nat):Int)).cells) X:=fun n hn h K=>J9 S (Y.f h) (by omega) hn K
 refine cut (fun s H'=>s 0=.yld bl∧s 2=.ptr bc 0 139 0 0∧s 4=.fn 274 [.ptr bf 0 1 0 0]∧H'=X0) ?_ ?_
 ·simp [aG]
 rintro s X ⟨q0,q2,q4,rfl⟩
 refine cut (fun s H'=>s 0=.yld bl∧s 2=.ptr bc 0 139 0 0∧s 4=.fn 274 [.ptr bf 0 1 0 0]∧s 13=.int .i64 c.kind∧H'=X) ?_ ?_
 ·simp [q0,q2,q4,hc0 hI]
 rintro s X ⟨q0,q2,q4,q13,rfl⟩
 have hc1:=hc0 hI
 have n0:∀K:AV→ag→Prop,aD Tryz.prog C base (.fn 274 [.ptr bf 0 1 0 0]) [.int .i64 0] X K=K (.agg (br (first:Int)).cells) X:=on0 0 (by omega) hI
 have hk:c.kind=1∨c.kind=2∨c.kind=3∨c.kind=4∨c.kind=5∨c.kind=6∨c.kind=7:=by omega
 rcases hk with hk | hk | hk | hk | hk | hk | hk
 ·obtain ⟨X',hI',_,ey⟩:=Y.yld { b9 with id:=br first,kind:=1,file:=br first,type:=c.type } hI (by omega)
  have hm:cg c first=[{ b9 with id:=br first,kind:=1,file:=br first,type:=c.type }]:=by simp [cg,hk]
  rw [hm] at hK
  simp [q0,q2,q4,q13,hk,n0,hc1,aE,ey]
  rw [aN (h:=by kernel_rfl)]
  simp
  exact hK _ hI'
 ·obtain ⟨X',hI',_,ey⟩:=Y.yld { b9 with id:=br first,kind:=2,file:=c.file,parent:=c.parent,name:=c.name,over:=c.over,overK:=c.overK } hI (by omega)
  have hm:cg c first=[{ b9 with id:=br first,kind:=2,file:=c.file,parent:=c.parent,name:=c.name,over:=c.over,overK:=c.overK }]:=by simp [cg,hk]
  rw [hm] at hK
  simp [q0,q2,q4,q13,hk,n0,hc1,aE,ey]
  rw [aN (h:=by kernel_rfl)]
  simp
  exact hK _ hI'
 ·obtain ⟨X',hI',_,ey⟩:=Y.yld { b9 with id:=br first,kind:=3,file:=c.file,mode:=c.mode,over:=c.over,overK:=c.overK } hI (by omega)
  have hm:cg c first=[{ b9 with id:=br first,kind:=3,file:=c.file,mode:=c.mode,over:=c.over,overK:=c.overK }]:=by simp [cg,hk]
  rw [hm] at hK
  simp [q0,q2,q4,q13,hk,n0,hc1,aE,ey]
  rw [aN (h:=by kernel_rfl)]
  simp
  exact hK _ hI'
 ·obtain ⟨X',hI',_,ey⟩:=Y.yld { b9 with id:=br first,kind:=4,file:=c.file,data:=c.data,over:=c.over,overK:=c.overK } hI (by omega)
  have hm:cg c first=[{ b9 with id:=br first,kind:=4,file:=c.file,data:=c.data,over:=c.over,overK:=c.overK }]:=by simp [cg,hk]
  rw [hm] at hK
  simp [q0,q2,q4,q13,hk,n0,hc1,aE,ey]
  rw [aN (h:=by kernel_rfl)]
  simp
  exact hK _ hI'
 ·have hm:cg c first=(List.range c.lines.length).map (fA c first)++(List.range (c.lines.length+1)).map (fw c first):=by simp [cg,hk]
  rw [hm] at hK
  obtain ⟨n,hn⟩:∃n,n=c.lines.length:=⟨_,rfl⟩
  rw [←hn] at hK hl
  simp [q0,q2,q4,q13,hk,hc1,←hn]
  refine az n (fun i s X=>s 0=.yld bl∧s 2=.ptr bc 0 139 0 0∧s 4=.fn 274 [.ptr bf 0 1 0 0]∧s 93=aw c.linesK (c.lines.map fU)∧s 94=.int .i64 n∧s 95=.int .i64 i∧I (own++(List.range i).map (fA c first)) X) ?_ ?_
  ·exact ⟨q0,q2,q4,rfl,rfl,rfl,by simpa using hI⟩
  clear q0 q2 q4 q13 hI hc1 n0
  rintro i s X ⟨q0,q2,q4,q93,q94,q95,hI⟩ hi
  have hc1:=hc0 hI
  by_cases h:i<n
  ·obtain ⟨m,hm0⟩:∃m,m=first+i:=⟨_,rfl⟩
   have ni:=fun K=>on0 i (by omega) hI K
   rw [←hm0] at ni
   have hin:i<c.lines.length:=by omega
   obtain ⟨X',hI',_,ey⟩:=Y.yld { b9 with id:=br (m:Int),kind:=5,file:=c.file,text:=c.lines[i] } hI (by simp;omega)
   have er:own++(List.range i).map (fA c first)++[{ b9 with id:=br (m:Int),kind:=5,file:=c.file,text:=c.lines[i] }]=own++(List.range (i+1)).map (fA c first):=by
    rw [hm0];simp [List.range_succ,fA,hin]
   rw [er] at hI'
   simp [q0,q2,q4,q93,q94,q95,h,hin,fU,ni,hc1,aE,ey]
   rw [aN (h:=by kernel_rfl)]
   simp [q0,q2,q4,q93,q94,q95,h,ay h (by omega)]
   exact hI'
  have h':i=n:=by omega
  subst h'
  have ai:=Y.app [.rows 33 0 [c.after.cells]] hI
  have hlow:=Y.low hI
  simp [q0,q2,q4,q93,q94,q95,hc1,←hn,ao,aE,ay (show i<i+1 by omega) (by omega)]
  refine ⟨hlow.1,?_⟩
  refine az (i+1) (fun j s X'=>s 0=.yld bl∧s 2=.ptr bc 0 139 0 0∧s 4=.fn 274 [.ptr bf 0 1 0 0]∧s 7=.int .i64 i∧s 8=.ptr X.length 0 33 0 0∧s 117=.int .i64 ((i+1:Nat):Int)∧s 118=.int .i64 j∧
   (j<i+1→X'[X.length]?=some (.rows 33 0 [(if 0<j then br ((first+j-1:Nat):Int) else c.after).cells]))∧I (own++((List.range i).map (fA c first)++(List.range j).map (fw c first))) X') ?_ ?_
  ·exact ⟨q0,q2,q4,rfl,rfl,rfl,rfl,fun _=>by simp,by simpa using ai⟩
  clear q0 q2 q4 q93 q94 q95 hc1 ai hI
  rintro j s W ⟨q0,q2,q4,q7,q8,q117,q118,hb8,hI⟩ hj
  have hc1:=hc0 hI
  have hlow2:=Y.low hI
  by_cases h:j<i+1
  ·have hb8:=hb8 h
   have hWX:X.length<W.length:=(List.getElem?_eq_some_iff.1 hb8).1
   obtain ⟨F,hF⟩:∃F,F=(if 0<j then br ((first+j-1:Nat):Int) else c.after):=⟨_,rfl⟩
   rw [←hF] at hb8
   have w1:IntKind.i64.wrap ((i:Int)+j)=((i+j:Nat):Int):=by rw [aK (by omega) (by omega)];omega
   obtain ⟨m,hm0⟩:∃m,m=first+(i+j):=⟨_,rfl⟩
   have key:∀T:aI,T=(if j<i then br ((first+j:Nat):Int) else c.before)→∃X',I (own++((List.range i).map (fA c first)++(List.range (j+1)).map (fw c first))) X'∧X'[X.length]?=some (.rows 33 0 [F.cells])∧X'[W.length]?=some (.rows 33 0 [T.cells])∧
    ∀K:AV→ag→Prop,aD Tryz.prog C base (.yld bl) [.agg (aH.cells { b9 with id:=br (m:Int),kind:=6,file:=c.file,frm:=F,to:=T })] (W++[.rows 33 0 [T.cells]]) K=K (.bool true) X':=by
    intro T hT
    obtain ⟨X',hI',hst,ey⟩:=Y.yld { b9 with id:=br (m:Int),kind:=6,file:=c.file,frm:=F,to:=T } (Y.app [.rows 33 0 [T.cells]] hI) (by simp;omega)
    refine ⟨X',?_,hst _ _ _ (by omega) (by rw [List.getElem?_append_left hWX];exact hb8),hst _ _ _ (by omega) (by simp),ey⟩
    have er:own++((List.range i).map (fA c first)++(List.range j).map (fw c first))++[{ b9 with id:=br (m:Int),kind:=6,file:=c.file,frm:=F,to:=T }]=own++((List.range i).map (fA c first)++(List.range (j+1)).map (fw c first)):=by
     rw [hF,hT,hm0]
     simp [List.range_succ,fw,←hn,Nat.add_assoc]
    rw [er] at hI'
    exact hI'
   obtain ⟨ij,hij⟩:∃ij,ij=i+j:=⟨_,rfl⟩
   rw [←hij] at w1
   have nm:∀(L:ag) (K:AV→ag→Prop),aD Tryz.prog C base (.fn 274 [.ptr bf 0 1 0 0]) [.int .i64 (ij:Int)] (W++L) K=K (.agg (br (m:Int)).cells) (W++L):=fun L K=>by rw [hm0,←hij];exact on0 ij (by omega) (Y.app L hI) K
   have hcA:∀L,ax (W++L) bc 0 139 0=some c.cells:=fun L=>hc0 (Y.app L hI)
   have hb8A:∀L,ax (W++L) X.length 0 33 0=some F.cells:=fun L=>by simp [ax,List.getElem?_append_left hWX,hb8]
   have jlt:(j:Int)<i+1:=by omega
   by_cases hji:j<i
   ·obtain ⟨q,hq⟩:∃q,q=first+j:=⟨_,rfl⟩
    have nj:∀(L:ag) (K:AV→ag→Prop),aD Tryz.prog C base (.fn 274 [.ptr bf 0 1 0 0]) [.int .i64 (j:Int)] (W++L) K=K (.agg (br (q:Int)).cells) (W++L):=fun L K=>by rw [hq];exact on0 j (by omega) (Y.app L hI) K
    obtain ⟨X',hI',hx1,hx2,ey⟩:=key (br (q:Int)) (by rw [if_pos hji,hq])
    have hr2:ax X' W.length 0 33 0=some (br (q:Int)).cells:=by simp [ax,hx2]
    have hlX:base≤X.length:=hlow.1
    have hlW:base≤W.length:=hlow2.1
    have w2:IntKind.i64.wrap ((j:Int)+1)=((j+1:Nat):Int):=by rw [aK (by omega) (by omega)];omega
    simp [q0,q2,q4,q7,q8,q117,q118,jlt,hji,hc1,hcA,hb8A,nj,nm,w1,ao,aE,ey,hlW]
    rw [aN (h:=by kernel_rfl)]
    simp [q0,q2,q4,q7,q8,q117,q118,hr2,ao,aE,hx1,hlX,w2]
    have hlt:X.length<X'.length:=(List.getElem?_eq_some_iff.1 hx1).1
    refine ⟨h,fun _=>?_,Y.set _ hI' hlow.2 hx1⟩
    rw [List.getElem?_set_self hlt,hq];simp
   ·obtain ⟨X',hI',hx1,hx2,ey⟩:=key c.before (by rw [if_neg hji])
    have hr2:ax X' W.length 0 33 0=some c.before.cells:=by simp [ax,hx2]
    have hlX:base≤X.length:=hlow.1
    have hlW:base≤W.length:=hlow2.1
    have w2:IntKind.i64.wrap ((j:Int)+1)=((j+1:Nat):Int):=by rw [aK (by omega) (by omega)];omega
    simp [q0,q2,q4,q7,q8,q117,q118,jlt,hji,hc1,hcA,hb8A,nm,w1,ao,aE,ey,hlW]
    rw [aN (h:=by kernel_rfl)]
    simp [q0,q2,q4,q7,q8,q117,q118,hr2,ao,aE,hx1,hlX,w2]
    exact ⟨h,fun h'=>absurd h' hji,Y.set _ hI' hlow.2 hx1⟩
  have h':j=i+1:=by omega
  subst h'
  simp [q0,q2,q4,q7,q8,q117,q118]
  exact hK _ hI
 ·obtain ⟨X',hI',_,ey⟩:=Y.yld { b9 with id:=br first,kind:=6,file:=c.file,frm:=c.after,to:=c.before,over:=c.over,overK:=c.overK } hI (by omega)
  have hm:cg c first=[{ b9 with id:=br first,kind:=6,file:=c.file,frm:=c.after,to:=c.before,over:=c.over,overK:=c.overK }]:=by simp [cg,hk]
  rw [hm] at hK
  simp [q0,q2,q4,q13,hk,n0,hc1,aE,ey]
  rw [aN (h:=by kernel_rfl)]
  simp
  exact hK _ hI'
 ·obtain ⟨X',hI',_,ey⟩:=Y.yld { b9 with id:=br first,kind:=7,over:=c.over,overK:=c.overK } hI (by omega)
  have hm:cg c first=[{ b9 with id:=br first,kind:=7,over:=c.over,overK:=c.overK }]:=by simp [cg,hk]
  rw [hm] at hK
  simp [q0,q2,q4,q13,hk,n0,hc1,aE,ey]
  rw [aN (h:=by kernel_rfl)]
  simp
  exact hK _ hI'
end Go.Proofs.Ev
