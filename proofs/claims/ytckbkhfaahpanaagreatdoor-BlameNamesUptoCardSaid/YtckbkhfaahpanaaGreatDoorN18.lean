/- Part 18 of the proof that quiltlaw38.BlameNames returns true: no statement of its own. -/
import Derived.Test.YtckbkhfaahpanaaGreatDoorN17
import Derived.Test.YtckbkhfaahpanaaGreatDoorN15
set_option linter.all false
namespace Go.Proofs.Ev
open Go.Proofs
variable {C:Cfg}
@[simp] theorem agFits:isAggT Tryz.prog 87=some false:=ag_of Tryz.underlying87 rfl
theorem GrowX.at {P:Program} {t e:TypeId} {sz n:Nat} (h:P.underlying t=some (.slice e)) (hs:szOf P e=some sz) {Z J:Heap} (hn:n=Z.length) {v:AV} {rows:List (List AV)} (hg:GrowX n sz J v rows) {i:Nat} (hi:i<rows.length) (hr:rows[i].length=sz) (k:IntKind) :
 ∃a,indexAddrA P t v (.int k (i:Int))=some a∧∀t',loadA P (Z++J) t' a=takeVal P t' rows[i]:=by
 subst hn
 rcases hg with ⟨rfl,rfl⟩ | rfl | ⟨b,g,rfl,hb⟩
 ·simp at hi
 ·refine ⟨.eptr rows[i],?_,fun t'=>by simp⟩
  rw [ia_lst h hs];simp [hi,hr]
 ·refine ⟨.ptr (Z.length+b) g sz i 0,?_,fun t'=>?_⟩
  ·rw [ia_sl h hs];simp [hi]
  ·rw [load_ptr,blkRow_app,blkRow_eq hb];simp [hi]
structure SettingM (C:Cfg):Prop extends SettingL C where
 frzM:∀f,f∈[163]→C.pure f=false∧C.frz f=true
theorem oneE_ok {x:IdV} {n:Int} {b:Bool} (h:oneE x n b=0):0≤x.n∧(zeroD x.d=true→x.n<n∧b=true)∧(zeroD x.d=false→x.n<100000):=by
 unfold oneE at h
 split at h
 ·rename_i ha
  unfold allowedB at ha
  cases hz:zeroD x.d with
  | true =>
   rw [hz] at h ha
   simp at h ha
   exact ⟨ha.1,fun _=>⟨ha.2,h⟩,fun h=>by cases h⟩
  | false =>
   rw [hz] at h ha
   simp at ha
   exact ⟨ha.1,fun h=>(by cases h),fun _=>ha.2⟩
 ·omega
def RefOk (C:Cfg) (base:Nat) (c:ChV) (b:Nat) (own:List AtV) (x:IdV×AV):Prop :=
 0≤x.1.n∧x.1.n<100000∧(zeroD x.1.d=true→x.1.n<own.length∧∀y,own[x.1.n.toNat]?=some y→∀(H:Heap) (K:AV→Heap→Prop),blkRow H b 0 139 0=some c.cells→CallW Tryz.prog C base x.2 [.agg y.cells] H K=K (.bool true) H)
theorem refOk_of {base:Nat} {c:ChV} {b:Nat} {own:List AtV} {x:IdV} {f:AV} {fits:Bool} (h:oneE x own.length fits=0) (hn:own.length≤100000)
 (hf:zeroD x.d=true→fits=true→∀y,own[x.n.toNat]?=some y→getAt own x=y→∀(H:Heap) (K:AV→Heap→Prop),blkRow H b 0 139 0=some c.cells→CallW Tryz.prog C base f [.agg y.cells] H K=K (.bool true) H):RefOk C base c b own (x,f):=by
 obtain ⟨h1,h2,h3⟩:=oneE_ok h
 cases hz:zeroD x.d with
 | true =>
  have h4:=h2 hz
  refine ⟨h1,by simp only;omega,fun _=>⟨h4.1,fun y hy=>hf hz h4.2 y hy ?_⟩⟩
  unfold getAt
  rw [hz]
  simp only [List.getD_eq_getElem?_getD,hy]
  simp [h1,h4.1]
 | false=>exact ⟨h1,h3 hz,fun h=>(by rw [hz] at h;cases h)⟩
theorem sameId_iff {a b:IdV}:sameId a b=true↔a.d=b.d∧a.n=b.n:=by simp [sameId]
theorem refs_ok (S:SettingL C) {base:Nat} {c:ChV} (hc:c.Good) {own:List AtV} (h:refE c own=0) (hid:∀(i:Nat) (y:AtV),own[i]?=some y→y.id=ownId i) (hn:own.length≤100000) (b:Nat):∀x∈refsA c b,RefOk C base c b own x:=by
 unfold refE at h
 split at h
 ·omega
 rename_i h1
 split at h
 ·omega
 rename_i h2
 split at h
 ·omega
 rename_i h3
 split at h
 ·omega
 rename_i h4
 have h1:ref1 c own=0:=by omega
 have h2:ref2 c own=0:=by omega
 have h3:ref3 c own=0:=by omega
 have h4:refOver c own c.over=0:=by omega
 intro x hx
 simp only [refsA,List.mem_append] at hx
 rcases hx with hx | hx | hx | hx
 ·unfold refs1 at hx
  split at hx
  ·rename_i hk
   rw [ref1,if_pos hk] at h1
   simp only [List.mem_singleton] at hx
   subst hx
   refine refOk_of h1 hn fun hz hf y hy hg H K hb=>?_
   rw [hg] at hf
   unfold fitsFileB at hf
   split at hf
   ·rename_i hy1
    unfold fileF
    split
    ·rw [(ret_fits2 S y).eq];simp [hy1]
    ·split
     ·rename_i hk4
      rw [(ret_fits3 S y).eq]
      simp [textB,hk4] at hf
      rcases hf with hf | hf<;>simp [hy1,hf]
     ·rename_i hk23 hk4
      have hk56:c.kind=5∨c.kind=6:=by omega
      have ht:textB c.kind=true:=by simp [textB];exact hk56
      rw [if_pos ht] at hf
      rw [(ret_fits4 S y).eq]
      simp at hf
      simp [hy1,hf]
   ·cases hf
  ·cases hx
 ·unfold refs2 at hx
  split at hx
  ·rename_i hk
   rw [ref2,if_pos hk] at h2
   simp only [List.mem_singleton] at hx
   subst hx
   refine refOk_of h2 hn fun hz hf y hy hg H K hb=>?_
   rw [hg] at hf
   rw [(ret_fits5 S y).eq,hf]
  ·cases hx
 ·unfold refs3 at hx
  split at hx
  ·rename_i hk
   have ht:textB c.kind=true:=by simp [textB];exact hk
   rw [ref3,if_pos ht] at h3
   have ha:refEnd c own c.after=0:=by split at h3<;>omega
   rw [if_pos ha] at h3
   have key:∀z,refEnd c own z=0→RefOk C base c b own (z,.fn 197 [.ptr b 0 139 0 0]):=by
    intro z hz0
    unfold refEnd at hz0
    refine refOk_of hz0 hn fun hz hf y hy hg H K hb=>?_
    rw [hg] at hf
    rw [fits6_eq S hb y K]
    congr 2
    rw [Bool.or_eq_true] at hf ⊢
    rcases hf with hf | hf
    ·left
     rw [sameId_iff] at hf ⊢
     have hyid:=hid _ _ hy
     have h0:=(oneE_ok hz0).1
     have hzd:z.d=digest0:=by simpa [zeroD] using hz
     rw [hyid]
     exact ⟨by show digest0=_;rw [←hzd];exact hf.1,by rw [←hf.2];simp [ownId];omega⟩
    ·right;exact hf
   simp only [List.mem_cons,List.not_mem_nil,or_false] at hx
   rcases hx with rfl | rfl
   ·exact key _ ha
   ·exact key _ h3
  ·cases hx
 ·simp only [refs4,List.mem_map] at hx
  obtain ⟨z,hz,rfl⟩:=hx
  have hz:=List.mem_of_mem_take hz
  have ho:∀(l:List IdV),refOver c own l=0→∀z∈l,oneE z own.length (fitsOverB c.kind c.file (getAt own z))=0:=by
   intro l
   induction l with
   | nil=>intro _ z hz;cases hz
   | cons a l ih =>
    intro hl z hz
    simp only [refOver] at hl
    split at hl
    ·rename_i h0
     rcases List.mem_cons.1 hz with rfl | hz
     ·exact h0
     ·exact ih hl z hz
    ·omega
  refine refOk_of (ho _ h4 z hz) hn fun hz0 hf y hy hg H K hb=>?_
  rw [hg] at hf
  rw [fits7_eq S hb y K]
  have hk:c.kind≠1∧c.kind≠5:=by
   have ht:=hc.tidy
   simp only [tidyP,Bool.and_eq_true,Bool.or_eq_true,decide_eq_true_eq,beq_iff_eq] at ht
   obtain ⟨_,t8⟩:=ht
   have hne:c.over.length≠0:=fun h0=>by rw [List.length_eq_zero_iff.1 h0] at hz;cases hz
   rcases t8 with t8 | t8
   ·simp at t8;omega
   ·omega
  have k1:=hc.k1
  have k7:=hc.k7
  congr 2
  by_cases h7:c.kind=7
  ·simp [h7]
  ·have hw:wantI c.kind=c.kind:=by simp [wantI,h7]
   have ho:overI c.kind=c.kind:=by rw [overI,if_pos (by omega)]
   simp only [fitsOverB,hw] at hf
   rw [ho]
   simpa [h7,show c.kind≠0 by omega] using hf
theorem refsA_fn {c:ChV} {b:Nat}:∀x∈refsA c b,∃f cs,x.2=AV.fn f cs:=by
 intro x hx
 simp only [refsA,List.mem_append] at hx
 rcases hx with hx | hx | hx | hx
 ·unfold refs1 at hx
  split at hx
  ·simp only [List.mem_singleton] at hx;subst hx;exact ⟨_,_,rfl⟩
  ·cases hx
 ·unfold refs2 at hx
  split at hx
  ·simp only [List.mem_singleton] at hx;subst hx;exact ⟨_,_,rfl⟩
  ·cases hx
 ·unfold refs3 at hx
  split at hx
  ·simp only [List.mem_cons,List.not_mem_nil,or_false] at hx
   rcases hx with rfl | rfl<;>exact ⟨_,_,rfl⟩
  ·cases hx
 ·simp only [refs4,List.mem_map] at hx
  obtain ⟨z,_,rfl⟩:=hx
  exact ⟨_,_,rfl⟩
theorem ref5_ok {c:ChV} {own:List AtV} (h:refE c own=0):ref5 c=0:=by
 unfold refE at h
 repeat' split at h
 all_goals first | omega | exact h
set_option maxHeartbeats 4000000 in
theorem ret_checkReferences (S:SettingM C) (c:ChV) (own:List AtV) (k:SK) (hc:c.Good) (hr:refE c own=0) (hid:∀(i:Nat) (y:AtV),own[i]?=some y→y.id=ownId i) (hn:own.length≤100000) :
 Ret0 Tryz.prog C 163 [.agg c.cells,slAV k (own.map AtV.cells)] (.int .i64 0):=by
 refine ret_frzH (S.frzM _ (by decide)).1 (S.frzM _ (by decide)).2 rfl fun H=>func_rule Tryz.func163 rfl (S.prim _ (by decide)) (by simp) (by kernel_rfl) ?_
 unfold Tryz.f163
 have hok:=refs_ok S.toSettingL (base:=H.length) hc hr hid hn (H.length+1)
 have h5:=ref5_ok hr
 obtain ⟨v,J,hg,er⟩:=references_ex S.toSettingL c hc.on (base:=H.length) (H:=H++[.rows 139 0 [c.cells]]) (by simp)
 simp only [List.append_assoc,List.cons_append,List.nil_append,List.length_append,List.length_cons,List.length_nil,Nat.zero_add] at hg er
 obtain ⟨R,hR⟩:∃R,R=refsA c (H.length+1):=⟨_,rfl⟩
 rw [←hR] at hok hg
 have hov:=hc.on
 have hRl:R.length≤404:=by
  have n1:(refs1 c).length≤1:=by unfold refs1;split<;>simp
  have n2:(refs2 c).length≤1:=by unfold refs2;split<;>simp
  have n3:(refs3 c (H.length+1)).length≤2:=by unfold refs3;split<;>simp
  have n4:(refs4 c (H.length+1) c.over.length).length≤400:=by simp [refs4];omega
  rw [hR];simp [refsA];omega
 have hlen:=fun HH=>hg.len (P:=Tryz.prog) (t:=230) (e:=233) (H:=HH) (by simp)
 rw [List.length_map] at hlen
 refine cut (fun s H'=>s 1=slAV k (own.map AtV.cells)∧s 2=.ptr H.length 0 139 0 0∧H'=H++[.rows 139 0 [c.cells]]) ?_ ?_
 ·simp [argS]
 rintro s H' ⟨q1,q2,rfl⟩
 refine cut (fun s H'=>s 2=.ptr H.length 0 139 0 0∧∃L,H'=H++.rows 139 0 [c.cells]::L) ?_ ?_
 ·simp [q1,q2,er,hlen]
  refine loop_count R.length (fun i s H'=>s 1=slAV k (own.map AtV.cells)∧s 2=.ptr H.length 0 139 0 0∧s 8=v∧s 9=.int .i64 R.length∧s 10=.int .i64 i∧∃L,H'=H++.rows 139 0 [c.cells]::.rows 139 0 [c.cells]::.rows 1 0 [[v]]::(J++L)) ?_ ?_
  ·exact ⟨q1,q2,rfl,rfl,rfl,[],by simp⟩
  clear q1 q2
  rintro i s H' ⟨q1,q2,q8,q9,q10,L,rfl⟩ hi
  by_cases h:i<R.length
  ·obtain ⟨x,hx⟩:∃x,x=R[i]:=⟨_,rfl⟩
   have hxm:x∈R:=hx▸List.getElem_mem h
   obtain ⟨o1,o2,o3⟩:=hok x hxm
   obtain ⟨a,ha,hl⟩:=(hg.app L).at (P:=Tryz.prog) (t:=230) (e:=233) (Z:=H++[.rows 139 0 [c.cells],.rows 139 0 [c.cells],.rows 1 0 [[v]]]) (by simp) sz233 (by simp) (i:=i) (by simpa using h) (by simp) .i64
   simp only [List.append_assoc,List.cons_append,List.nil_append,List.getElem_map,←hx] at hl
   obtain ⟨f,cs,hfn⟩:=refsA_fn x (hR▸hxm)
   have r4:∀y∈x.1.cells++[x.2],y.leaf=true:=by
    intro y hy
    rcases List.mem_append.1 hy with hy | hy
    ·exact List.all_eq_true.1 x.1.leafs y hy
    ·rw [List.mem_singleton.1 hy,hfn];rfl
   have eo:=(ret_own S.toSettingF x.1).eq
   have p1:¬x.1.n<0:=by omega
   have p2:¬100000≤x.1.n:=by omega
   unfold refRow at hl
   cases hz:zeroD x.1.d with
   | false =>
    simp [q1,q2,q8,q9,q10,h,ha,hl,storeA,fillA,r4,eo,hz,p1,p2,guardV,wrap_succ h (by omega)]
    done
   | true =>
    obtain ⟨o4,o5⟩:=o3 hz
    have o6:x.1.n.toNat<own.length:=by omega
    have p3:¬(own.length:Int)≤x.1.n:=by omega
    have ec:=fun L K=>o5 own[x.1.n.toNat] (by simp [o6]) (H++.rows 139 0 [c.cells]::.rows 139 0 [c.cells]::.rows 1 0 [[v]]::L) K (by rw [show H.length+1=H.length+1 from rfl];simp)
    simp only [hfn] at ec
    simp [q1,q2,q8,q9,q10,h,ha,hl,storeA,fillA,r4,eo,hz,p1,p2,p3,o1,o4,o6,hfn,ec,guardV,wrap_succ h (by omega)]
    done
  ·have h':i=R.length:=by omega
   subst h'
   simp [q1,q2,q8,q9,q10]
 rintro s H' ⟨q2,L,rfl⟩
 have ei:=fun a b=>eq_idV S.toSetting a b
 have ein:=fun a b=>ne_of_eq (eq_idV S.toSetting a b)
 unfold ref5 at h5
 by_cases k2:c.kind=2
 ·have f1:sameId c.parent c.file=false:=by
   cases hh:sameId c.parent c.file with
   | false=>rfl
   | true=>rw [if_pos ⟨k2,hh⟩] at h5;omega
  simp [q2,guardV,k2,ei,f1]
  done
 by_cases k6:c.kind=6
 ·have f1:sameId c.after c.before=false:=by
   cases hh:sameId c.after c.before with
   | false=>rfl
   | true=>rw [if_neg (by simp [k2]),if_pos ⟨by simp [textB,k6],hh,.inl k6⟩] at h5;omega
  simp [q2,guardV,k2,k6,ei,f1]
  done
 by_cases k5:c.kind=5
 ·cases hh:sameId c.after c.before with
  | false =>
   simp [q2,guardV,k2,k6,k5,ei,hh]
   done
  | true =>
   have f1:sameId c.after c.file=true:=by
    cases h3:sameId c.after c.file with
    | true=>rfl
    | false=>rw [if_neg (by simp [k2]),if_pos ⟨by simp [textB,k5],hh,.inr h3⟩] at h5;omega
   simp [q2,guardV,k2,k6,k5,ei,ein,hh,f1]
   done
 ·simp [q2,guardV,k2,k6,k5,beqF k2,beqF k5,beqF k6]
  done
end Go.Proofs.Ev
namespace Go.Proofs.Ev
open Go.Proofs
variable {C:Cfg}
structure SettingN (C:Cfg):Prop extends SettingM C where
 pureN:∀f,f∈[254]→C.pure f=true
 plainN:∀f,f∈[164]→C.pure f=false∧C.frz f=false
theorem made_eq (S:SettingN C) (c:ChV) (first:Nat) {base:Nat} {H:Heap} (K:AV→Heap→Prop) :
 CallW Tryz.prog C base (.fn 164 []) [.agg c.cells,.int .i64 (first:Int)] H K=K (.fn 253 [.ptr (H.length+1) 0 1 0 0,.ptr H.length 0 139 0 0]) (H++[.rows 139 0 [c.cells],.rows 1 0 [[.int .i64 (first:Int)]]]):=by
 refine CallW.eq (call_rule (S.plainN _ (by decide)).1 (S.plainN _ (by decide)).2 (func_rule Tryz.func164 rfl (S.prim _ (by decide)) (by simp) (by kernel_rfl) ?_)) K
 unfold Tryz.f164
 simp [argS]
theorem ownN_eq (S:SettingN C) {base b first n:Nat} {H:Heap} (hg:H[b]?=some (.rows 1 0 [[.int .i64 (first:Int)]])) (h1:first≤2^40) (h2:n≤2^40) (K:AV→Heap→Prop) :
 CallW Tryz.prog C base (.fn 254 [.ptr b 0 1 0 0]) [.int .i64 (n:Int)] H K=K (.agg (ownId ((first+n:Nat):Int)).cells) H:=by
 have hb:b<H.length:=(List.getElem?_eq_some_iff.1 hg).1
 have hg2:∀L,blkRow (H++L) b 0 1 0=some [.int .i64 (first:Int)]:=fun L=>by
  simp only [blkRow];rw [List.getElem?_append_left hb,hg];simp
 refine CallW.eq (pure_rule (S.pureN _ (by decide)) (func_rule Tryz.func254 rfl (S.prim _ (by decide)) (by simp) (by kernel_rfl) ?_)) K
 unfold Tryz.f254
 have w:IntKind.i64.wrap ((first:Int)+n)=((first+n:Nat):Int):=by rw [wrap_in (by omega) (by omega)];omega
 simp [argS,hg2,w,fillA,storeA]
 simp [freeze_closed,AV.closed,ownId]
structure Yields (C:Cfg) (base bl bc bf start N:Nat) (c:ChV) (first:Nat) (I:List AtV→Heap→Prop):Prop where
 app:∀{l:List AtV} {X:Heap} (L:Heap),I l X→I l (X++L)
 set:∀{l:List AtV} {X:Heap} {b g:Nat} {rs:List (List AV)} (rs':List (List AV)),I l X→start≤b→X[b]?=some (.rows 33 g rs)→I l (X.set b (.rows 33 g rs'))
 low:∀{l:List AtV} {X:Heap},I l X→base≤X.length∧start≤X.length
 c:∀{l:List AtV} {X:Heap},I l X→X[bc]?=some (.rows 139 0 [c.cells])
 f:∀{l:List AtV} {X:Heap},I l X→X[bf]?=some (.rows 1 0 [[.int .i64 (first:Int)]])
 yld:∀{l:List AtV} {X:Heap} (y:AtV),I l X→l.length≤N→∃X',I (l++[y]) X'∧(∀b g rs,start≤b→X[b]?=some (.rows 33 g rs)→X'[b]?=some (.rows 33 g rs))∧
  ∀K:AV→Heap→Prop,CallW Tryz.prog C base (.yld bl) [.agg y.cells] X K=K (.bool true) X'
set_option maxHeartbeats 8000000 in
theorem made_walk (S:SettingN C) (c:ChV) (first:Nat) (h1:1≤c.kind) (h7:c.kind≤7) (hf:first≤2^30) (hl:c.lines.length≤2000) {base bl bc bf start N:Nat} {I:List AtV→Heap→Prop} (Y:Yields C base bl bc bf start N c first I)
 {own:List AtV} (hown:own.length+4001≤N) {X0:Heap} (hI:I own X0) (K:AV→Heap→Prop) (hK:∀X,I (own++madeV c first) X→K (.tup []) X) :
 FuncW Tryz.prog C base 253 [.yld bl,.ptr bf 0 1 0 0,.ptr bc 0 139 0 0] X0 K:=by
 refine func_rule Tryz.func253 rfl (S.prim _ (by decide)) (by simp) (by kernel_rfl) ?_
 unfold Tryz.f253
 have hc0:∀{l X},I l X→blkRow X bc 0 139 0=some c.cells:=fun h=>by simp [blkRow,Y.c h]
 have on0:∀{l X} (n:Nat),n≤2^40→I l X→∀K:AV→Heap→Prop,CallW Tryz.prog C base (.fn 254 [.ptr bf 0 1 0 0]) [.int .i64 (n:Int)] X K=K (.agg (ownId ((first+n:Nat):Int)).cells) X:=fun n hn h K=>ownN_eq S (Y.f h) (by omega) hn K
 refine cut (fun s H'=>s 0=.yld bl∧s 2=.ptr bc 0 139 0 0∧s 4=.fn 254 [.ptr bf 0 1 0 0]∧H'=X0) ?_ ?_
 ·simp [argS]
 rintro s X ⟨q0,q2,q4,rfl⟩
 refine cut (fun s H'=>s 0=.yld bl∧s 2=.ptr bc 0 139 0 0∧s 4=.fn 254 [.ptr bf 0 1 0 0]∧s 13=.int .i64 c.kind∧H'=X) ?_ ?_
 ·simp [q0,q2,q4,hc0 hI]
 rintro s X ⟨q0,q2,q4,q13,rfl⟩
 have hc1:=hc0 hI
 have n0:∀K:AV→Heap→Prop,CallW Tryz.prog C base (.fn 254 [.ptr bf 0 1 0 0]) [.int .i64 0] X K=K (.agg (ownId (first:Int)).cells) X:=on0 0 (by omega) hI
 have hk:c.kind=1∨c.kind=2∨c.kind=3∨c.kind=4∨c.kind=5∨c.kind=6∨c.kind=7:=by omega
 rcases hk with hk | hk | hk | hk | hk | hk | hk
 ·obtain ⟨X',hI',_,ey⟩:=Y.yld { zeroAt with id:=ownId first,kind:=1,file:=ownId first,type:=c.type } hI (by omega)
  have hm:madeV c first=[{ zeroAt with id:=ownId first,kind:=1,file:=ownId first,type:=c.type }]:=by simp [madeV,hk]
  rw [hm] at hK
  simp [q0,q2,q4,q13,hk,n0,hc1,fillA,ey]
  rw [kOpsU_turn (h:=by kernel_rfl)]
  simp
  exact hK _ hI'
 ·obtain ⟨X',hI',_,ey⟩:=Y.yld { zeroAt with id:=ownId first,kind:=2,file:=c.file,parent:=c.parent,name:=c.name,over:=c.over,overK:=c.overK } hI (by omega)
  have hm:madeV c first=[{ zeroAt with id:=ownId first,kind:=2,file:=c.file,parent:=c.parent,name:=c.name,over:=c.over,overK:=c.overK }]:=by simp [madeV,hk]
  rw [hm] at hK
  simp [q0,q2,q4,q13,hk,n0,hc1,fillA,ey]
  rw [kOpsU_turn (h:=by kernel_rfl)]
  simp
  exact hK _ hI'
 ·obtain ⟨X',hI',_,ey⟩:=Y.yld { zeroAt with id:=ownId first,kind:=3,file:=c.file,mode:=c.mode,over:=c.over,overK:=c.overK } hI (by omega)
  have hm:madeV c first=[{ zeroAt with id:=ownId first,kind:=3,file:=c.file,mode:=c.mode,over:=c.over,overK:=c.overK }]:=by simp [madeV,hk]
  rw [hm] at hK
  simp [q0,q2,q4,q13,hk,n0,hc1,fillA,ey]
  rw [kOpsU_turn (h:=by kernel_rfl)]
  simp
  exact hK _ hI'
 ·obtain ⟨X',hI',_,ey⟩:=Y.yld { zeroAt with id:=ownId first,kind:=4,file:=c.file,data:=c.data,over:=c.over,overK:=c.overK } hI (by omega)
  have hm:madeV c first=[{ zeroAt with id:=ownId first,kind:=4,file:=c.file,data:=c.data,over:=c.over,overK:=c.overK }]:=by simp [madeV,hk]
  rw [hm] at hK
  simp [q0,q2,q4,q13,hk,n0,hc1,fillA,ey]
  rw [kOpsU_turn (h:=by kernel_rfl)]
  simp
  exact hK _ hI'
 ·have hm:madeV c first=(List.range c.lines.length).map (lineAt c first)++(List.range (c.lines.length+1)).map (edgeAt c first):=by simp [madeV,hk]
  rw [hm] at hK
  obtain ⟨n,hn⟩:∃n,n=c.lines.length:=⟨_,rfl⟩
  rw [←hn] at hK hl
  simp [q0,q2,q4,q13,hk,hc1,←hn]
  refine loop_count n (fun i s X=>s 0=.yld bl∧s 2=.ptr bc 0 139 0 0∧s 4=.fn 254 [.ptr bf 0 1 0 0]∧s 93=slAV c.linesK (c.lines.map strC)∧s 94=.int .i64 n∧s 95=.int .i64 i∧I (own++(List.range i).map (lineAt c first)) X) ?_ ?_
  ·exact ⟨q0,q2,q4,rfl,rfl,rfl,by simpa using hI⟩
  clear q0 q2 q4 q13 hI hc1 n0
  rintro i s X ⟨q0,q2,q4,q93,q94,q95,hI⟩ hi
  have hc1:=hc0 hI
  by_cases h:i<n
  ·obtain ⟨m,hm0⟩:∃m,m=first+i:=⟨_,rfl⟩
   have ni:=fun K=>on0 i (by omega) hI K
   rw [←hm0] at ni
   have hin:i<c.lines.length:=by omega
   obtain ⟨X',hI',_,ey⟩:=Y.yld { zeroAt with id:=ownId (m:Int),kind:=5,file:=c.file,text:=c.lines[i] } hI (by simp;omega)
   have er:own++(List.range i).map (lineAt c first)++[{ zeroAt with id:=ownId (m:Int),kind:=5,file:=c.file,text:=c.lines[i] }]=own++(List.range (i+1)).map (lineAt c first):=by
    rw [hm0];simp [List.range_succ,lineAt,hin]
   rw [er] at hI'
   simp [q0,q2,q4,q93,q94,q95,h,hin,strC,ni,hc1,fillA,ey]
   rw [kOpsU_turn (h:=by kernel_rfl)]
   simp [q0,q2,q4,q93,q94,q95,h,wrap_succ h (by omega)]
   exact hI'
  have h':i=n:=by omega
  subst h'
  have ai:=Y.app [.rows 33 0 [c.after.cells]] hI
  have hlow:=Y.low hI
  simp [q0,q2,q4,q93,q94,q95,hc1,←hn,storeA,fillA,wrap_succ (show i<i+1 by omega) (by omega)]
  refine ⟨hlow.1,?_⟩
  refine loop_count (i+1) (fun j s X'=>s 0=.yld bl∧s 2=.ptr bc 0 139 0 0∧s 4=.fn 254 [.ptr bf 0 1 0 0]∧s 7=.int .i64 i∧s 8=.ptr X.length 0 33 0 0∧s 117=.int .i64 ((i+1:Nat):Int)∧s 118=.int .i64 j∧
   (j<i+1→X'[X.length]?=some (.rows 33 0 [(if 0<j then ownId ((first+j-1:Nat):Int) else c.after).cells]))∧I (own++((List.range i).map (lineAt c first)++(List.range j).map (edgeAt c first))) X') ?_ ?_
  ·exact ⟨q0,q2,q4,rfl,rfl,rfl,rfl,fun _=>by simp,by simpa using ai⟩
  clear q0 q2 q4 q93 q94 q95 hc1 ai hI
  rintro j s W ⟨q0,q2,q4,q7,q8,q117,q118,hb8,hI⟩ hj
  have hc1:=hc0 hI
  have hlow2:=Y.low hI
  by_cases h:j<i+1
  ·have hb8:=hb8 h
   have hWX:X.length<W.length:=(List.getElem?_eq_some_iff.1 hb8).1
   obtain ⟨F,hF⟩:∃F,F=(if 0<j then ownId ((first+j-1:Nat):Int) else c.after):=⟨_,rfl⟩
   rw [←hF] at hb8
   have w1:IntKind.i64.wrap ((i:Int)+j)=((i+j:Nat):Int):=by rw [wrap_in (by omega) (by omega)];omega
   obtain ⟨m,hm0⟩:∃m,m=first+(i+j):=⟨_,rfl⟩
   have key:∀T:IdV,T=(if j<i then ownId ((first+j:Nat):Int) else c.before)→∃X',I (own++((List.range i).map (lineAt c first)++(List.range (j+1)).map (edgeAt c first))) X'∧X'[X.length]?=some (.rows 33 0 [F.cells])∧X'[W.length]?=some (.rows 33 0 [T.cells])∧
    ∀K:AV→Heap→Prop,CallW Tryz.prog C base (.yld bl) [.agg (AtV.cells { zeroAt with id:=ownId (m:Int),kind:=6,file:=c.file,frm:=F,to:=T })] (W++[.rows 33 0 [T.cells]]) K=K (.bool true) X':=by
    intro T hT
    obtain ⟨X',hI',hst,ey⟩:=Y.yld { zeroAt with id:=ownId (m:Int),kind:=6,file:=c.file,frm:=F,to:=T } (Y.app [.rows 33 0 [T.cells]] hI) (by simp;omega)
    refine ⟨X',?_,hst _ _ _ (by omega) (by rw [List.getElem?_append_left hWX];exact hb8),hst _ _ _ (by omega) (by simp),ey⟩
    have er:own++((List.range i).map (lineAt c first)++(List.range j).map (edgeAt c first))++[{ zeroAt with id:=ownId (m:Int),kind:=6,file:=c.file,frm:=F,to:=T }]=own++((List.range i).map (lineAt c first)++(List.range (j+1)).map (edgeAt c first)):=by
     rw [hF,hT,hm0]
     simp [List.range_succ,edgeAt,←hn,Nat.add_assoc]
    rw [er] at hI'
    exact hI'
   obtain ⟨ij,hij⟩:∃ij,ij=i+j:=⟨_,rfl⟩
   rw [←hij] at w1
   have nm:∀(L:Heap) (K:AV→Heap→Prop),CallW Tryz.prog C base (.fn 254 [.ptr bf 0 1 0 0]) [.int .i64 (ij:Int)] (W++L) K=K (.agg (ownId (m:Int)).cells) (W++L):=fun L K=>by rw [hm0,←hij];exact on0 ij (by omega) (Y.app L hI) K
   have hcA:∀L,blkRow (W++L) bc 0 139 0=some c.cells:=fun L=>hc0 (Y.app L hI)
   have hb8A:∀L,blkRow (W++L) X.length 0 33 0=some F.cells:=fun L=>by simp [blkRow,List.getElem?_append_left hWX,hb8]
   have jlt:(j:Int)<i+1:=by omega
   by_cases hji:j<i
   ·obtain ⟨q,hq⟩:∃q,q=first+j:=⟨_,rfl⟩
    have nj:∀(L:Heap) (K:AV→Heap→Prop),CallW Tryz.prog C base (.fn 254 [.ptr bf 0 1 0 0]) [.int .i64 (j:Int)] (W++L) K=K (.agg (ownId (q:Int)).cells) (W++L):=fun L K=>by rw [hq];exact on0 j (by omega) (Y.app L hI) K
    obtain ⟨X',hI',hx1,hx2,ey⟩:=key (ownId (q:Int)) (by rw [if_pos hji,hq])
    have hr2:blkRow X' W.length 0 33 0=some (ownId (q:Int)).cells:=by simp [blkRow,hx2]
    have hlX:base≤X.length:=hlow.1
    have hlW:base≤W.length:=hlow2.1
    have w2:IntKind.i64.wrap ((j:Int)+1)=((j+1:Nat):Int):=by rw [wrap_in (by omega) (by omega)];omega
    simp [q0,q2,q4,q7,q8,q117,q118,jlt,hji,hc1,hcA,hb8A,nj,nm,w1,storeA,fillA,ey,hlW]
    rw [kOpsU_turn (h:=by kernel_rfl)]
    simp [q0,q2,q4,q7,q8,q117,q118,hr2,storeA,fillA,hx1,hlX,w2]
    have hlt:X.length<X'.length:=(List.getElem?_eq_some_iff.1 hx1).1
    refine ⟨h,fun _=>?_,Y.set _ hI' hlow.2 hx1⟩
    rw [List.getElem?_set_self hlt,hq];simp
   ·obtain ⟨X',hI',hx1,hx2,ey⟩:=key c.before (by rw [if_neg hji])
    have hr2:blkRow X' W.length 0 33 0=some c.before.cells:=by simp [blkRow,hx2]
    have hlX:base≤X.length:=hlow.1
    have hlW:base≤W.length:=hlow2.1
    have w2:IntKind.i64.wrap ((j:Int)+1)=((j+1:Nat):Int):=by rw [wrap_in (by omega) (by omega)];omega
    simp [q0,q2,q4,q7,q8,q117,q118,jlt,hji,hc1,hcA,hb8A,nm,w1,storeA,fillA,ey,hlW]
    rw [kOpsU_turn (h:=by kernel_rfl)]
    simp [q0,q2,q4,q7,q8,q117,q118,hr2,storeA,fillA,hx1,hlX,w2]
    exact ⟨h,fun h'=>absurd h' hji,Y.set _ hI' hlow.2 hx1⟩
  have h':j=i+1:=by omega
  subst h'
  simp [q0,q2,q4,q7,q8,q117,q118]
  exact hK _ hI
 ·obtain ⟨X',hI',_,ey⟩:=Y.yld { zeroAt with id:=ownId first,kind:=6,file:=c.file,frm:=c.after,to:=c.before,over:=c.over,overK:=c.overK } hI (by omega)
  have hm:madeV c first=[{ zeroAt with id:=ownId first,kind:=6,file:=c.file,frm:=c.after,to:=c.before,over:=c.over,overK:=c.overK }]:=by simp [madeV,hk]
  rw [hm] at hK
  simp [q0,q2,q4,q13,hk,n0,hc1,fillA,ey]
  rw [kOpsU_turn (h:=by kernel_rfl)]
  simp
  exact hK _ hI'
 ·obtain ⟨X',hI',_,ey⟩:=Y.yld { zeroAt with id:=ownId first,kind:=7,over:=c.over,overK:=c.overK } hI (by omega)
  have hm:madeV c first=[{ zeroAt with id:=ownId first,kind:=7,over:=c.over,overK:=c.overK }]:=by simp [madeV,hk]
  rw [hm] at hK
  simp [q0,q2,q4,q13,hk,n0,hc1,fillA,ey]
  rw [kOpsU_turn (h:=by kernel_rfl)]
  simp
  exact hK _ hI'
end Go.Proofs.Ev
namespace Go.Proofs.Ev
open Go.Proofs
variable {C:Cfg}
mutual
def SX.strip:SX→SX
 | .mk b a l _=>.mk b a (SX.strips l) .nil
def SX.strips:List SX→List SX
 | []=>[]
 | x::l=>SX.strip x::SX.strips l
end
theorem SX.strips_map:∀l:List SX,SX.strips l=l.map SX.strip
 | []=>rfl
 | x::l=>by rw [SX.strips,SX.strips_map l];rfl
mutual
theorem SX.nodes_strip:∀x:SX,x.strip.nodes=x.nodes
 | .mk b a l k=>by rw [SX.strip,SX.nodes,SX.nodes,SX.nodess_strip l]
theorem SX.nodess_strip:∀l:List SX,SX.nodess (SX.strips l)=SX.nodess l
 | []=>rfl
 | x::l=>by rw [SX.strips,SX.nodess,SX.nodess,SX.nodes_strip x,SX.nodess_strip l]
end
mutual
theorem SX.chk_strip:∀x:SX,x.strip.chk=x.chk
 | .mk false a l k=>by
  rw [SX.strip,SX.chk,SX.chk,SX.strips_map,List.length_map]
 | .mk true a l k=>by rw [SX.strip,SX.chk,SX.chk,SX.chks_strip l]
theorem SX.chks_strip:∀l:List SX,SX.chks (SX.strips l)=SX.chks l
 | []=>rfl
 | x::l=>by rw [SX.strips,SX.chks,SX.chks,SX.chk_strip x,SX.chks_strip l]
end
theorem strip_list (l:List SX) (k:SK):(listX l k).strip=listX (l.map SX.strip) .nil:=by rw [listX,SX.strip,SX.strips_map];rfl
theorem strip_ch (c:ChV) (h1:1≤c.kind) (h2:c.kind≤7):(chP c).strip=(chgX c).strip:=by
 have h:(numX c.kind::fieldL c).map SX.strip=(chgL c).map SX.strip:=by
  have e1:(overP c.over).strip=(overX c.over).strip:=by rw [overP,overX,strip_list,strip_list]
  have e2:(linesP c.lines).strip=(linesX c.lines).strip:=by rw [linesP,linesX,strip_list,strip_list]
  have hk:c.kind=1∨c.kind=2∨c.kind=3∨c.kind=4∨c.kind=5∨c.kind=6∨c.kind=7:=by omega
  rcases hk with hk | hk | hk | hk | hk | hk | hk<;>simp [fieldL,chgL,chg1,chg2,chg3,hk,e1,e2]
 rw [chP,chgX,strip_list,strip_list,h]
theorem strip_tree (p:PatchV) (hd:∀d∈p.deps,zeroD d.d=false) (hc:∀c∈p.changes,1≤c.kind∧c.kind≤7):(treeP p).strip=(treeX p).strip:=by
 have e1:(p.deps.map fun d=>depX d.d)=(p.deps.map fun d=>digX d.d):=List.map_congr_left fun d h=>by rw [depX,digX,hd d h];rfl
 have e2:(p.changes.map chP).map SX.strip=(p.changes.map chgX).map SX.strip:=by
  rw [List.map_map,List.map_map];exact List.map_congr_left fun c h=>strip_ch c (hc c h).1 (hc c h).2
 rw [treeP,treeX,strip_list,strip_list]
 simp only [List.map_cons,List.map_nil,strip_list,e1,e2]
mutual
def SX.dep:SX→Nat
 | .mk _ _ l _=>SX.deps l+1
def SX.deps:List SX→Nat
 | []=>0
 | x::l=>max (SX.dep x) (SX.deps l)
end
mutual
theorem SX.ms_ok:∀(x:SX) (lv c:Int),c+x.nodes≤20000→lv+x.dep≤13→∃c',c<c'∧c'≤c+x.nodes∧x.ms lv c false=(c',false)
 | .mk b a l k,lv,c,h1,h2=>by
  rw [SX.nodes] at h1 ⊢
  rw [SX.dep] at h2
  have g1:decide (20000<c+1)=false:=by simp;omega
  have g2:decide (12<lv)=false:=by simp;omega
  rw [SX.ms,g1,g2]
  cases b with
  | false=>exact ⟨c+1,by omega,by omega,rfl⟩
  | true =>
   obtain ⟨c',h3,h4,h5⟩:=SX.mss_ok l lv (c+1) (by omega) (by omega)
   exact ⟨c',by omega,by omega,by simpa using h5⟩
theorem SX.mss_ok:∀(l:List SX) (lv c:Int),c+SX.nodess l≤20000→lv+1+SX.deps l≤13→∃c',c≤c'∧c'≤c+SX.nodess l∧SX.mss l lv c false=(c',false)
 | [],lv,c,_,_=>⟨c,by omega,by simp [SX.nodess],rfl⟩
 | x::l,lv,c,h1,h2=>by
  rw [SX.nodess] at h1 ⊢
  rw [SX.deps] at h2
  obtain ⟨c1,a1,a2,a3⟩:=SX.ms_ok x (lv+1) c (by omega) (by omega)
  obtain ⟨c2,b1,b2,b3⟩:=SX.mss_ok l lv c1 (by omega) (by omega)
  refine ⟨c2,by omega,by omega,?_⟩
  rw [SX.mss,a3]
  simpa using b3
end
theorem SX.deps_le {d:Nat}:∀{l:List SX},(∀x∈l,x.dep≤d)→SX.deps l≤d
 | [],_=>by simp [SX.deps]
 | x::l,h=>by
  rw [SX.deps]
  have:=h x (by simp)
  have:=SX.deps_le (l:=l) fun y hy=>h y (by simp [hy])
  omega
theorem dep_list {l:List SX} {k:SK} {d:Nat} (h:∀x∈l,x.dep≤d):(listX l k).dep≤d+1:=by
 rw [listX,SX.dep];have:=SX.deps_le h;omega
theorem dep_atom (s:List UInt8):(atomX s).dep=1:=rfl
theorem dep_num (n:Int):(numX n).dep=1:=rfl
theorem dep_dig (d:List Nat):(digX d).dep=1:=by unfold digX;split<;>rfl
theorem dep_ref (x:IdV):(refX x).dep≤2:=dep_list fun y hy=>by
 simp only [List.mem_cons,List.not_mem_nil,or_false] at hy
 rcases hy with rfl | rfl
 ·rw [dep_dig];omega
 ·rw [dep_num];omega
theorem dep_over (l:List IdV):(overP l).dep≤3:=dep_list fun y hy=>by
 obtain ⟨x,_,rfl⟩:=List.mem_map.1 hy
 exact dep_ref x
theorem dep_lines (l:List (List UInt8)):(linesP l).dep≤3:=dep_list fun y hy=>by
 obtain ⟨x,_,rfl⟩:=List.mem_map.1 hy
 rw [dep_atom];omega
theorem dep_ch (c:ChV):(chP c).dep≤4:=dep_list fun y hy=>by
 have a1:=dep_num
 have a2:=dep_atom
 have a3:=dep_ref
 have a4:=dep_over c.over
 have a5:=dep_lines c.lines
 unfold fieldL at hy
 repeat' split at hy
 all_goals
  simp only [List.mem_cons,List.not_mem_nil,or_false] at hy
  rcases hy with rfl | hy
  ·rw [a1];omega
  first
   | (subst hy;first | exact a4 | (rw [a1];omega))
   | (rcases hy with rfl | rfl | rfl | rfl
      all_goals first | exact a4 | exact a5 | (rw [a1];omega) | (rw [a2];omega) | (exact Nat.le_trans (a3 _) (by decide)))
   | (rcases hy with rfl | rfl | rfl
      all_goals first | exact a4 | exact a5 | (rw [a1];omega) | (rw [a2];omega) | (exact Nat.le_trans (a3 _) (by decide)))
theorem dep_tree (p:PatchV):(treeP p).dep≤6:=dep_list fun y hy=>by
 simp only [List.mem_cons,List.not_mem_nil,or_false] at hy
 rcases hy with rfl | rfl | rfl | rfl | rfl | rfl
 ·rw [dep_atom];omega
 ·rw [dep_atom];omega
 ·rw [dep_atom];omega
 ·rw [dep_num];omega
 ·refine dep_list fun y hy=>?_
  obtain ⟨x,_,rfl⟩:=List.mem_map.1 hy
  rw [depX,dep_atom];omega
 ·refine dep_list fun y hy=>?_
  obtain ⟨x,_,rfl⟩:=List.mem_map.1 hy
  exact dep_ch x
def atomsOf:List ChV→List AtV→List AtV
 | [],own=>own
 | c::l,own=>atomsOf l (own++madeV c own.length)
theorem chg_ok:∀(l:List ChV) (own:List AtV),(chgE l own).1=0→(chgE l own).2=atomsOf l own∧∀(i:Nat) (c:ChV),l[i]?=some c→fieldsE c=0∧refE c (atomsOf (l.take i) own)=0
 | [],own,_=>⟨rfl,fun i c h=>by simp at h⟩
 | c::l,own,h=>by
  rw [chgE] at h ⊢
  by_cases h1:fieldsE c=0
  ·by_cases h2:refE c own=0
   ·rw [if_neg (by simp [h1]),if_neg (by simp [h2])] at h ⊢
    obtain ⟨a,b⟩:=chg_ok l _ h
    refine ⟨a,fun i c' hc=>?_⟩
    cases i with
    | zero=>simp at hc;subst hc;exact ⟨h1,h2⟩
    | succ i=>exact b i c' (by simpa using hc)
   ·rw [if_neg (by simp [h1]),if_pos h2] at h;exact absurd h h2
  ·rw [if_pos h1] at h;exact absurd h h1
theorem atomsOf_append:∀(l m:List ChV) (own:List AtV),atomsOf (l++m) own=atomsOf m (atomsOf l own)
 | [],m,own=>rfl
 | c::l,m,own=>by rw [List.cons_append,atomsOf,atomsOf,atomsOf_append l m]
theorem atomsOf_succ {l:List ChV} {i:Nat} {c:ChV} (h:l[i]?=some c):atomsOf (l.take (i+1)) []=atomsOf (l.take i) []++madeV c (atomsOf (l.take i) []).length:=by
 rw [List.take_add_one,h,atomsOf_append];rfl
theorem atomsOf_len:∀(l:List ChV) (own:List AtV),own.length≤(atomsOf l own).length
 | [],own=>Nat.le_refl _
 | c::l,own=>by
  rw [atomsOf]
  have:=atomsOf_len l (own++madeV c own.length)
  simp only [List.length_append] at this
  omega
theorem atomsOf_take_le (l:List ChV) (i:Nat):(atomsOf (l.take i) []).length≤(atomsOf l []).length:=by
 have h:=atomsOf_append (l.take i) (l.drop i) []
 rw [List.take_append_drop] at h
 rw [h];exact atomsOf_len _ _
theorem made_id {c:ChV} {first i:Nat} {y:AtV} (h:(madeV c first)[i]?=some y):y.id=ownId ((first+i:Nat):Int):=by
 have one:∀z:AtV,z.id=ownId (first:Int)→[z][i]?=some y→y.id=ownId ((first+i:Nat):Int):=by
  intro z hz hy
  cases i with
  | zero=>simp at hy;subst hy;exact hz
  | succ i=>simp at hy
 unfold madeV at h
 repeat' split at h
 all_goals first
  | exact one _ rfl h
  | skip
 rcases Nat.lt_or_ge i c.lines.length with hi | hi
 ·rw [List.getElem?_append_left (by simpa using hi),List.getElem?_map,List.getElem?_range hi] at h
  simp only [Option.map_some,Option.some.injEq] at h
  subst h;rfl
 ·rw [List.getElem?_append_right (by simpa using hi),List.getElem?_map,List.length_map,List.length_range] at h
  rcases Nat.lt_or_ge (i-c.lines.length) (c.lines.length+1) with hj | hj
  ·rw [List.getElem?_range hj] at h
   simp only [Option.map_some,Option.some.injEq] at h
   subst h
   show ownId _=_
   congr 2;omega
  ·rw [List.getElem?_eq_none (by simpa using hj)] at h;cases h
theorem atomsOf_id:∀(l:List ChV) (own:List AtV),(∀(i:Nat) (y:AtV),own[i]?=some y→y.id=ownId (i:Int))→∀(i:Nat) (y:AtV),(atomsOf l own)[i]?=some y→y.id=ownId (i:Int)
 | [],own,h=>h
 | c::l,own,h=>by
  refine atomsOf_id l _ fun i y hy=>?_
  rcases Nat.lt_or_ge i own.length with hi | hi
  ·rw [List.getElem?_append_left hi] at hy;exact h i y hy
  ·rw [List.getElem?_append_right hi] at hy
   rw [made_id hy];congr 2;omega
structure PatchV.Good (p:PatchV):Prop where
 fit:p.Fit
 ok:EncodeE p=0
 n:(checkL p).length≤90000
theorem PatchV.Good.check {p:PatchV} (h:p.Good):checkE p=0:=by
 have:=h.ok
 unfold EncodeE at this
 split at this
 ·omega
 ·omega
theorem PatchV.Good.encode {p:PatchV} (h:p.Good):encE (treeX p)=0∧(treeX p).enc.length≤65536:=by
 have h1:=h.ok
 rw [EncodeE,if_neg (by simp [h.check])] at h1
 unfold encodeE at h1
 split at h1
 ·omega
 ·rename_i h2;omega
theorem PatchV.Good.headE {p:PatchV} (h:p.Good):headE p=0:=by
 have:=h.check
 unfold checkE at this
 split at this
 ·omega
 ·omega
theorem PatchV.Good.chg {p:PatchV} (h:p.Good):(chgE p.changes []).1=0:=by
 have:=h.check
 rw [checkE,if_neg (by simp [h.headE])] at this
 exact this
theorem PatchV.Good.atoms {p:PatchV} (h:p.Good):checkL p=atomsOf p.changes []:=by
 rw [checkL,if_neg (by simp [h.headE])];exact (chg_ok _ _ h.chg).1
theorem PatchV.Good.change {p:PatchV} (h:p.Good) {i:Nat} {c:ChV} (hc:p.changes[i]?=some c):c.Good∧refE c (atomsOf (p.changes.take i) [])=0 :=
 have:=(chg_ok _ _ h.chg).2 i c hc
 ⟨good_of this.1,this.2⟩
theorem PatchV.Good.good {p:PatchV} (h:p.Good) {c:ChV} (hc:c∈p.changes):c.Good:=by
 obtain ⟨i,hi,rfl⟩:=List.getElem_of_mem hc
 exact (h.change (List.getElem?_eq_getElem hi)).1
theorem PatchV.Good.head {p:PatchV} (h:p.Good):headP p=0∧p.changes.length≠0∧p.changes.length≤400∧depsL none p.deps=0∧p.deps.length≤100:=by
 have h0:=h.headE
 unfold Ev.headE at h0
 split at h0
 ·omega
 rename_i h1
 split at h0
 ·omega
 rename_i h2
 split at h0
 ·omega
 rename_i h3
 split at h0
 ·omega
 rename_i h4
 split at h0
 ·omega
 rename_i h5
 split at h0
 ·omega
 rename_i h6
 have h4':depsE p.deps=0:=by omega
 unfold depsE at h4'
 split at h4'
 ·omega
 rename_i h7
 have h3':¬(p.time<0∨1099511627776<p.time):=by simpa using h3
 refine ⟨?_,h5,by omega,h4',by omega⟩
 rw [headP,nameP_eq,if_neg h1,if_neg (by omega),if_neg h3',if_neg (by omega),if_neg (by simp [h4']),if_neg h5,if_neg (by omega)]
theorem depsL_zero:∀(l:List DigV) (a:Option DigV),depsL a l=0→∀d∈l,zeroD d.d=false
 | [],_,_,d,hd=>by cases hd
 | x::l,a,h,d,hd=>by
  have key:zeroD x.d=false∧depsL (some x) l=0:=by
   cases hz:zeroD x.d with
   | true=>cases a<;>simp [depsL,hz] at h
   | false =>
    refine ⟨rfl,?_⟩
    cases a with
    | none=>simpa [depsL,hz] using h
    | some y =>
     by_cases hc:0≤cmpD y.d x.d
     ·simp [depsL,hz,hc] at h
     ·simpa [depsL,hz,hc] using h
  rcases List.mem_cons.1 hd with rfl | hd
  ·exact key.1
  ·exact depsL_zero l _ key.2 d hd
theorem PatchV.Good.tree {p:PatchV} (h:p.Good):encP (treeP p)=0∧(treeP p).enc=(treeX p).enc∧p.OkP:=by
 obtain ⟨_,_,h400,hdl,_⟩:=h.head
 have hd:=depsL_zero _ _ hdl
 have hc:∀c∈p.changes,1≤c.kind∧c.kind≤7:=fun c hc=>⟨(h.good hc).k1,(h.good hc).k7⟩
 have hs:=strip_tree p hd hc
 obtain ⟨he,_⟩:=h.encode
 unfold encE at he
 split at he
 ·omega
 rename_i hcnt
 have hn:=(SX.cnt_n _ (treeX p) 20000 12 (Nat.le_refl _) (by omega)).2.2 he (by omega)
 have hnod:(treeP p).nodes=(treeX p).nodes:=by rw [←SX.nodes_strip,hs,SX.nodes_strip]
 have hchk:(treeP p).chk=0:=by rw [←SX.chk_strip,hs,SX.chk_strip];exact he
 have hdep:=dep_tree p
 obtain ⟨c',_,_,h5⟩:=SX.ms_ok (treeP p) 1 0 (by omega) (by omega)
 refine ⟨by rw [encP,h5];simpa using hchk,enc_tree p hd hc,⟨h.fit.ok2.deps,h.fit.ok2.changesN,fun c hcm=>⟨h.fit.ok2.changes c hcm,hc c hcm⟩,by omega⟩⟩
end Go.Proofs.Ev
namespace Go.Proofs.Ev
open Go.Proofs
variable {C:Cfg}
theorem GrowX.freezeK {Z J L:Heap} {n d sz:Nat} {v:AV} {rows:List (List AV)} (hg:GrowX n sz J v rows) (hn:n=Z.length) (hc:AV.closedss rows=true):∃k,freezeA (Z++(J++L)) 0 (d+1) v=some (slAV k rows):=by
 rcases hg with ⟨rfl,rfl⟩ | rfl | ⟨b,g,rfl,hb⟩
 ·exact ⟨.nil,by simp [slAV]⟩
 ·exact ⟨.exact,freeze_closed (by simpa [AV.closed] using hc)⟩
 ·exact ⟨.loose,GrowX.freezeS (J:=J) (.inr (.inr ⟨b,g,rfl,hb⟩)) hn (Nat.zero_le _) hc ⟨_,_,_,rfl⟩⟩
theorem GrowX.setL {n sz j:Nat} {J:Heap} {v:AV} {rows:List (List AV)} {blk x:Blk} (hg:GrowX n sz J v rows) (hj:J[j]?=some blk) (hb:∀g rs,blk≠.rows sz g rs):GrowX n sz (J.set j x) v rows:=by
 rcases hg with h | h | ⟨b,g,rfl,hb'⟩
 ·exact .inl h
 ·exact .inr (.inl h)
 ·refine .inr (.inr ⟨b,g,rfl,?_⟩)
  rw [List.getElem?_set_ne]
  ·exact hb'
  ·rintro rfl
   rw [hj] at hb'
   exact hb _ _ (Option.some.inj hb')
theorem set_at (Z J:Heap) (a x:Blk) (j:Nat):(Z++a::J).set (Z.length+1+j) x=Z++a::J.set j x:=by
 rw [show Z.length+1+j=Z.length+(j+1) by omega,app_set];rfl
theorem get_at (Z J:Heap) (a:Blk) (j:Nat):(Z++a::J)[Z.length+1+j]?=J[j]?:=by
 rw [show Z.length+1+j=Z.length+(j+1) by omega,app_get];rfl
def IsSl (v:AV):Prop:=v=.nils∨∃b g l,v=.sl b g 172 0 l
theorem appendA_sl {P:Program} {base:Nat} {H:Heap} {ts:Array TypeId} {e sz by_:Nat} {xd:TypeDesc} (h0:(ts[0]?).bind P.underlying=some (.slice e)) (h1:(ts[1]?).bind P.underlying=some xd) (hs:szOf P e=some sz) (hb:bytesOf P e=some by_) {s x:AV} {ys:List (List AV)}
 (hx:tailRows H xd x=some ys) (hne:ys≠[]) {v':AV} {H':Heap} (h:appendA P base H ts s x=some (v',H')):∃b g l,v'=.sl b g sz 0 l:=by
 unfold appendA at h
 simp only [h0,h1,hs,hb,hx] at h
 split at h
 ·split at h
  ·rw [if_neg (by simpa using hne)] at h
   split at h
   ·simp only [Option.some.injEq,Prod.mk.injEq] at h;exact ⟨_,_,_,h.1.symm⟩
   ·cases h
  ·split at h
   ·split at h
    ·rename_i hc
     simp only [Option.some.injEq,Prod.mk.injEq] at h
     obtain ⟨_,_,_,hc,_⟩:=hc
     rw [hc]
     exact ⟨_,_,_,h.1.symm⟩
    ·cases h
   ·cases h
  ·cases h
 ·cases h
def ExI (Z:Heap) (jl jc jf s0:Nat) (LB:Blk) (c:ChV) (first:Nat) (l:List AtV) (X:Heap):Prop :=
 ∃v J,X=Z++.rows 1 0 [[v]]::J∧GrowX (Z.length+1) 172 J v (l.map AtV.cells)∧J[jl]?=some LB∧J[jc]?=some (.rows 139 0 [c.cells])∧J[jf]?=some (.rows 1 0 [[.int .i64 (first:Int)]])∧s0≤J.length∧IsSl v
theorem ex_yields {base N:Nat} {Z:Heap} (hZ:base≤Z.length) {jl jc jf s0:Nat} {LB:Blk} {c:ChV} {first:Nat}
 (hy:∀{l:List AtV} {X:Heap} (y:AtV),ExI Z jl jc jf s0 LB c first l X→l.length≤N→∃X',ExI Z jl jc jf s0 LB c first (l++[y]) X'∧(∀b g rs,Z.length+1+s0≤b→X[b]?=some (.rows 33 g rs)→X'[b]?=some (.rows 33 g rs))∧
  ∀K:AV→Heap→Prop,CallW Tryz.prog C base (.yld (Z.length+1+jl)) [.agg y.cells] X K=K (.bool true) X')
 (hl:jl<s0) (hLB:∀g rs,LB≠.rows 33 g rs) (hjc:jc<s0) (hjf:jf<s0) :
 Yields C base (Z.length+1+jl) (Z.length+1+jc) (Z.length+1+jf) (Z.length+1+s0) N c first (ExI Z jl jc jf s0 LB c first):={
 app:=by
  rintro l X L ⟨v,J,rfl,hg,h1,h2,h3,h4,h5⟩
  exact ⟨v,J++L,by simp,hg.app L,by rw [List.getElem?_append_left (List.getElem?_eq_some_iff.1 h1).1];exact h1,by rw [List.getElem?_append_left (List.getElem?_eq_some_iff.1 h2).1];exact h2,by rw [List.getElem?_append_left (List.getElem?_eq_some_iff.1 h3).1];exact h3,by simp;omega,h5⟩
 set:=by
  rintro l X b g rs rs' ⟨v,J,rfl,hg,h1,h2,h3,h4,h5⟩ hb hr
  obtain ⟨j,rfl⟩:∃j,b=Z.length+1+j:=⟨b-(Z.length+1),by omega⟩
  rw [get_at] at hr
  refine ⟨v,J.set j (.rows 33 g rs'),set_at _ _ _ _ _,hg.setL hr (by intro g' rs'' h;cases h),?_,?_,?_,by simpa using h4,h5⟩
  ·rw [List.getElem?_set_ne (by omega)];exact h1
  ·rw [List.getElem?_set_ne (by omega)];exact h2
  ·rw [List.getElem?_set_ne (by omega)];exact h3
 low:=by
  rintro l X ⟨v,J,rfl,hg,h1,h2,h3,h4,h5⟩
  constructor<;>simp<;>omega
 c:=by
  rintro l X ⟨v,J,rfl,hg,h1,h2,h3,h4,h5⟩
  rw [get_at];exact h2
 f:=by
  rintro l X ⟨v,J,rfl,hg,h1,h2,h3,h4,h5⟩
  rw [get_at];exact h3
 yld:=hy }
theorem made_range (S:SettingN C) {Z J:Heap} {base:Nat} (hZ:base≤Z.length) {v:AV} {own:List AtV} {c:ChV} (k1:1≤c.kind) (k7:c.kind≤7) (hl:c.lines.length≤2000) (hg:GrowX (Z.length+1) 172 J v (own.map AtV.cells)) (hv:IsSl v) (hn:own.length≤90000)
 {l:List AV} {ps:List Tmp} {assign body:Code} {nb pf pc:Nat} {X:Heap} (hX:X=Z++.rows 1 0 [[v]]::(J++[.rows 139 0 [c.cells],.rows 139 0 [c.cells],.rows 1 0 [[.int .i64 (own.length:Int)]]]))
 (hnb:nb=Z.length+1+(J.length+3)) (hpf:pf=Z.length+1+(J.length+2)) (hpc:pc=Z.length+1+(J.length+1))
 (hy:∀(LB BB:Blk) (_:loopB l ps assign body=LB) (_:busyB l ps assign body=BB) {l':List AtV} {X':Heap} (y:AtV),ExI Z (J.length+3) (J.length+1) (J.length+2) (J.length+4) LB c own.length l' X'→l'.length≤95000→
  ∃X'',ExI Z (J.length+3) (J.length+1) (J.length+2) (J.length+4) LB c own.length (l'++[y]) X''∧
  (∀b g rs,Z.length+1+(J.length+4)≤b→X'[b]?=some (.rows 33 g rs)→X''[b]?=some (.rows 33 g rs))∧∀K:AV→Heap→Prop,CallW Tryz.prog C base (.yld (Z.length+1+(J.length+3))) [.agg y.cells] X' K=K (.bool true) X'')
 (K:AV→Heap→Prop) (hK:∀v' J',GrowX (Z.length+1) 172 J' v' ((own++madeV c own.length).map AtV.cells)→J'[J.length+3]?=some (loopB l ps assign body)→IsSl v'→K (.tup []) (Z++.rows 1 0 [[v']]::J')) :
 FuncW Tryz.prog C base 253 [.yld nb,.ptr pf 0 1 0 0,.ptr pc 0 139 0 0] (X++[loopB l ps assign body]) K:=by
 subst hnb;subst hpf;subst hpc
 refine made_walk S c own.length k1 k7 (by omega) hl (ex_yields (N:=95000) hZ (hy _ _ rfl rfl) (by omega) (by intro g rs h;cases h) (by omega) (by omega)) (own:=own) (by omega) ?_ K ?_
 ·exact ⟨v,J++[.rows 139 0 [c.cells],.rows 139 0 [c.cells],.rows 1 0 [[.int .i64 (own.length:Int)]],loopB l ps assign body],by rw [hX];simp,hg.app _,by simp,by simp,by simp,by simp,hv⟩
 ·rintro X' ⟨v',J',rfl,hg',h1,_,_,_,h5⟩
  exact hK v' J' hg' h1 h5
theorem closedss_at (l:List AtV):AV.closedss (l.map AtV.cells)=true:=closedss_map AtV.closed l
structure SettingO (C:Cfg):Prop extends SettingN C where
 plainO:∀f,f∈[105]→C.pure f=false∧C.frz f=false
set_option maxRecDepth 100000 in
set_option maxHeartbeats 8000000 in
theorem examine_ex (S:SettingO C) (p:PatchV) (hp:p.Good) {base:Nat} {H:Heap} (hb:base≤H.length) :
 ∃v J,GrowX (H.length+2) 172 J v ((checkL p).map AtV.cells)∧IsSl v∧∀K:AV→Heap→Prop,CallW Tryz.prog C base (.fn 105 []) [.agg p.cells] H K=K (.tup [v,.str (treeX p).enc,.int .i64 0]) (H++.rows 5 0 [p.cells]::.rows 1 0 [[v]]::J):=by
 suffices h:CallW Tryz.prog C base (.fn 105 []) [.agg p.cells] H (fun v' H'=>∃v J,GrowX (H.length+2) 172 J v ((checkL p).map AtV.cells)∧IsSl v∧v'=.tup [v,.str (treeX p).enc,.int .i64 0]∧H'=H++.rows 5 0 [p.cells]::.rows 1 0 [[v]]::J) by
  obtain ⟨n,v1,H1,h1,v,J,hg,hv,rfl,rfl⟩:=h
  exact ⟨_,J,hg,hv,fun K=>CallW.eq ⟨n,_,_,h1,rfl,rfl⟩ K⟩
 refine call_rule (S.plainO _ (by decide)).1 (S.plainO _ (by decide)).2 (func_rule Tryz.func105 rfl (S.prim _ (by decide)) (by simp) (by kernel_rfl) ?_)
 unfold Tryz.f105
 obtain ⟨hh,hch0,hch,_,_⟩:=hp.head
 obtain ⟨ht1,ht2,ht3⟩:=hp.tree
 obtain ⟨_,hel⟩:=hp.encode
 have e1:=(ret_head S.toSettingH p hp.fit.ok.author).eq
 have e2:=(ret_encP S.toSettingG p ht3).eq
 rw [hh] at e1
 rw [ht1,if_pos rfl,ht2] at e2
 have hat:=hp.atoms
 refine cut (fun s H'=>s 1=.ptr H.length 0 5 0 0∧H'=H++[.rows 5 0 [p.cells]]) ?_ ?_
 ·simp [argS]
 rintro s H' ⟨q1,rfl⟩
 refine cut (fun s H'=>s 1=.ptr H.length 0 5 0 0∧H'=H++[.rows 5 0 [p.cells]]) ?_ ?_
 ·simp [q1,e1]
 rintro s H' ⟨q1,rfl⟩
 refine cut (fun s H'=>s 1=.ptr H.length 0 5 0 0∧s 6=.ptr (H.length+1) 0 1 0 0∧H'=H++[.rows 5 0 [p.cells],.rows 1 0 [[.nils]]]) ?_ ?_
 ·simp [q1]
 rintro s H' ⟨q1,q6,rfl⟩
 refine cut (fun s H'=>s 1=.ptr H.length 0 5 0 0∧s 6=.ptr (H.length+1) 0 1 0 0∧∃v J,GrowX (H.length+2) 172 J v ((atomsOf p.changes []).map AtV.cells)∧IsSl v∧H'=H++.rows 5 0 [p.cells]::.rows 1 0 [[v]]::J) ?_ ?_
 ·simp [q1,q6]
  refine loop_count p.changes.length (fun i s H'=>s 1=.ptr H.length 0 5 0 0∧s 6=.ptr (H.length+1) 0 1 0 0∧s 20=slAV p.changesK (p.changes.map ChV.cells)∧s 21=.int .i64 p.changes.length∧s 22=.int .i64 i∧
   ∃v J,GrowX (H.length+2) 172 J v ((atomsOf (p.changes.take i) []).map AtV.cells)∧IsSl v∧H'=H++.rows 5 0 [p.cells]::.rows 1 0 [[v]]::J) ?_ ?_
  ·exact ⟨q1,q6,rfl,rfl,rfl,.nils,[],.nils,.inl rfl,rfl⟩
  clear q1 q6
  rintro i s H' ⟨q1,q6,q20,q21,q22,v,J,hg,hv,rfl⟩ hi
  by_cases h:i<p.changes.length
  ·obtain ⟨c,hc⟩:∃c,c=p.changes[i]:=⟨_,rfl⟩
   have hci:p.changes[i]?=some c:=by rw [hc];exact List.getElem?_eq_getElem h
   obtain ⟨hcg,hcr⟩:=hp.change hci
   obtain ⟨own,hown⟩:∃own,own=atomsOf (p.changes.take i) []:=⟨_,rfl⟩
   rw [←hown] at hg hcr
   have hid:=atomsOf_id (p.changes.take i) [] (fun i y h=>by simp at h)
   rw [←hown] at hid
   have hn1:=atomsOf_take_le p.changes i
   have hn2:=hp.n
   rw [←hown] at hn1
   rw [hat] at hn2
   have hsucc:=atomsOf_succ hci
   rw [←hown] at hsucc
   have hcm:c∈p.changes:=hc▸List.getElem_mem h
   have ef:=(ret_checkFields S.toSettingK c hcg (hp.fit.ok.changes c hcm).name).eq
   obtain ⟨k,hk⟩:=hg.freezeK (Z:=H++[.rows 5 0 [p.cells],.rows 1 0 [[v]]]) (L:=[.rows 139 0 [c.cells]]) (d:=5) (by simp) (closedss_at own)
   have er:=(ret_checkReferences S.toSettingM c own k hcg hcr hid (by omega)).eq base (H++.rows 5 0 [p.cells]::.rows 1 0 [[v]]::(J++[.rows 139 0 [c.cells]])) (caps:=[]) (args:=[.agg c.cells,v])
    (by simp only [List.append_assoc,List.cons_append,List.nil_append] at hk;simp [hk,freeze_closed,AV.closed])
   have el:=fun HH=>hg.len (P:=Tryz.prog) (t:=83) (e:=36) (H:=HH) (by simp)
   rw [List.length_map] at el
   have em:=fun K=>made_eq S.toSettingN c own.length (base:=base) (H:=H++.rows 5 0 [p.cells]::.rows 1 0 [[v]]::(J++[.rows 139 0 [c.cells]])) K
   simp [q1,q6,q20,q21,q22,h,←hc,storeA,fillA,ef,er,el]
   refine ⟨by omega,?_⟩
   rw [em]
   simp [q1,q6,q20,q21,q22]
   refine range_rule (f:=253) (caps:=[.ptr (H.length+(J.length+4)) 0 1 0 0,.ptr (H.length+(J.length+3)) 0 139 0 0]) (by simp;omega) fun l hr=>?_
   refine made_range (Z:=H++[.rows 5 0 [p.cells]]) (J:=J) (v:=v) (own:=own) (c:=c) S.toSettingN (by simp;omega) hcg.k1 hcg.k7 hcg.lnn (by simpa using hg) hv (by omega) (by simp) (by simp;omega) (by simp;omega) (by simp;omega) ?_ _ ?_
   ·rintro LB BB hLB hBB l' X' y ⟨v',J',rfl,hg',h1,h2,h3,h4,h5⟩ hl'
    have hLr:∀sz g rs,LB≠.rows sz g rs:=by intro sz g rs h;rw [←hLB] at h;cases h
    have hBr:∀sz g rs,BB≠.rows sz g rs:=by intro sz g rs h;rw [←hBB] at h;cases h
    have hjl:J.length+3<J'.length:=by omega
    obtain ⟨v2,J2,ha,hg2,hst⟩:=GrowX.appendP (P:=Tryz.prog) (base:=base) (Z:=H++[.rows 5 0 [p.cells],.rows 1 0 [[v']]]) (J:=J'.set (J.length+3) BB++[.rows 172 0 [y.cells]]) (n:=H.length+2) (ts:=#[83,83]) (e:=36) (xd:=.slice 36) (rows:=l'.map AtV.cells) (x:=.lst [y.cells] true) (ys:=[y.cells]) (v:=v')
     (by simp) (by simp) sz36 by36 (by simp) (by decide) (by simp) (by simp;omega) (((by simpa using hg':GrowX (H.length+2) 172 J' v' (l'.map AtV.cells)).setL h1 (hLr _)).app _) (fun r hr=>by obtain ⟨y,_,rfl⟩:=List.mem_map.1 hr;simp) rfl (by simp) (by simp;omega)
    simp only [List.append_assoc,List.cons_append,List.nil_append] at ha
    have hJ2:J2[J.length+3]?=some BB:=hst _ _ (by rw [List.getElem?_append_left (by simpa using hjl),List.getElem?_set_self hjl]) (hBr _)
    have hjl2:J.length+3<J2.length:=(List.getElem?_eq_some_iff.1 hJ2).1
    have hkeep:∀j blk,j≠J.length+3→J'[j]?=some blk→(∀g rs,blk≠.rows 172 g rs)→(J2.set (J.length+3) LB)[j]?=some blk:=by
     intro j blk hj hjb hne
     rw [List.getElem?_set_ne (Ne.symm hj)]
     refine hst _ _ ?_ hne
     rw [List.getElem?_append_left (by simpa using (List.getElem?_eq_some_iff.1 hjb).1),List.getElem?_set_ne (Ne.symm hj)];exact hjb
    obtain ⟨b,hb⟩:∃b,b=(H++[Blk.rows 5 0 [p.cells]]).length+1+(J.length+3):=⟨_,rfl⟩
    have hgetL:∀L,(H++Blk.rows 5 0 [p.cells]::.rows 1 0 [[v']]::(J'++L))[b]?=some LB:=fun L=>by
     have:=get_at (H++[Blk.rows 5 0 [p.cells]]) (J'++L) (.rows 1 0 [[v']]) (J.length+3)
     rw [List.getElem?_append_left hjl,h1,←hb] at this
     simpa using this
    have hsetL:∀L x,(H++Blk.rows 5 0 [p.cells]::.rows 1 0 [[v']]::(J'++L)).set b x=H++Blk.rows 5 0 [p.cells]::.rows 1 0 [[v']]::(J'.set (J.length+3) x++L):=fun L x=>by
     have:=set_at (H++[Blk.rows 5 0 [p.cells]]) (J'++L) (.rows 1 0 [[v']]) x (J.length+3)
     rw [←hb,List.set_append_left _ _ hjl] at this
     simpa using this
    have hget2:∀v,(H++Blk.rows 5 0 [p.cells]::.rows 1 0 [[v]]::J2)[b]?=some BB:=fun v=>by
     have:=get_at (H++[Blk.rows 5 0 [p.cells]]) J2 (.rows 1 0 [[v]]) (J.length+3)
     rw [hJ2,←hb] at this
     simpa using this
    have hset2:∀v x,(H++Blk.rows 5 0 [p.cells]::.rows 1 0 [[v]]::J2).set b x=H++Blk.rows 5 0 [p.cells]::.rows 1 0 [[v]]::J2.set (J.length+3) x:=fun v x=>by
     have:=set_at (H++[Blk.rows 5 0 [p.cells]]) J2 (.rows 1 0 [[v]]) x (J.length+3)
     rw [←hb] at this
     simpa using this
    have hbb:base≤b:=by rw [hb];simp;omega
    refine ⟨H++.rows 5 0 [p.cells]::.rows 1 0 [[v2]]::J2.set (J.length+3) LB,⟨v2,J2.set (J.length+3) LB,by simp,?_,?_,?_,?_,?_,.inr (appendA_sl (P:=Tryz.prog) (e:=36) (xd:=.slice 36) (by simp) (by simp) sz36 by36 (x:=.lst [y.cells] true) (ys:=[y.cells]) rfl (by simp) ha)⟩,?_,fun K=>?_⟩
    ·have:=hg2.setL hJ2 (hBr _) (x:=LB)
     simpa using this
    ·rw [List.getElem?_set_self hjl2]
    ·exact hkeep _ _ (by omega) h2 (by intro g rs h;cases h)
    ·exact hkeep _ _ (by omega) h3 (by intro g rs h;cases h)
    ·simp;omega
    ·intro b' g rs hb' hx
     obtain ⟨j,rfl⟩:∃j,b'=(H++[Blk.rows 5 0 [p.cells]]).length+1+j:=⟨b'-((H++[Blk.rows 5 0 [p.cells]]).length+1),by omega⟩
     rw [get_at] at hx
     have h5:=hkeep j _ (by omega) hx (by intro g' rs' h;cases h)
     have:=get_at (H++[Blk.rows 5 0 [p.cells]]) (J2.set (J.length+3) LB) (.rows 1 0 [[v2]]) j
     rw [h5] at this
     simpa using this
    ·rw [←hb]
     have hv:=hgetL []
     rw [List.append_nil] at hv
     rw [←hLB] at hv
     refine CallW.eq (yield_rule hr (hget:=by simpa using hv) hbb rfl (by decide) (by kernel_rfl) (by kernel_rfl) ?_) K
     rw [hLB,hBB]
     have hrow:blkRow (J'.set (J.length+3) BB++[Blk.rows 172 0 [y.cells]]) J'.length 0 172 0=some y.cells:=by simp [blkRow]
     have hb1:base≤H.length+(J'.length+1+1):=by omega
     have hb2:base≤H.length+1:=by omega
     simp [q6,storeA,fillA,buildSliceA,fillRows,hgetL,hsetL,ha,hget2,hset2,hg2.cellv,hg2.leafv,hLB,hrow,hb1,hb2]
     rfl
   ·intro v' J' hg' hJ' hv'
    have hXl:(H++Blk.rows 5 0 [p.cells]::.rows 1 0 [[v]]::(J++[Blk.rows 139 0 [c.cells],.rows 139 0 [c.cells],.rows 1 0 [[.int .i64 (own.length:Int)]]])).length=(H++[Blk.rows 5 0 [p.cells]]).length+1+(J.length+3):=by simp;omega
    rw [hXl,afterR_loop ((get_at _ _ _ _).trans hJ'),set_at]
    have hg2:=hg'.setL (x:=.dead) hJ' (by intro g rs h;cases h)
    simp [q1,q6,q20,q21,q22]
    refine ⟨h,wrap_succ h (by omega),?_⟩
    rw [hsucc]
    exact ⟨v',_,by simpa using hg2,hv',rfl,rfl⟩
  ·have h':i=p.changes.length:=by omega
   subst h'
   rw [List.take_length] at hg
   simp [q1,q6,q20,q21,q22]
   exact ⟨v,J,hg,hv,rfl,rfl⟩
 clear q1 q6
 rintro s H' ⟨q1,q6,v,J,hg,hv,rfl⟩
 have hel':¬(65536:Int)<(treeX p).enc.length:=by omega
 simp [q1,q6,e2,guardV,hel']
 rw [hat];exact ⟨v,J,hg,hv,rfl,rfl⟩
end Go.Proofs.Ev
namespace Go.Proofs.Ev
open Go.Proofs
variable {C:Cfg}
structure SettingP (C:Cfg):Prop extends SettingO C where
 pureP:∀f,f∈[130,72,40,106,59,26,78]→C.pure f=true
theorem ret_CheckP (S:SettingP C) (p:PatchV) (hp:p.Good):Ret Tryz.prog C 130 [] [.agg p.cells] (.int .i64 0):=by
 refine ret_pure (S.pureP _ (by decide)) fun H=>func_rule Tryz.func130 rfl (S.prim _ (by decide)) (by simp) (by kernel_rfl) ?_
 unfold Tryz.f130
 obtain ⟨v,J,_,_,e⟩:=examine_ex S.toSettingO p hp (base:=H.length) (H:=H++[.rows 5 0 [p.cells]]) (by simp)
 simp [argS,e]
theorem ret_EncodeP (S:SettingP C) (p:PatchV) (hp:p.Good):Ret Tryz.prog C 72 [] [.agg p.cells] (.tup [.str (treeX p).enc,.int .i64 0]):=by
 refine ret_pure (S.pureP _ (by decide)) fun H=>func_rule Tryz.func72 rfl (S.prim _ (by decide)) (by simp) (by kernel_rfl) ?_
 unfold Tryz.f72
 obtain ⟨v,J,_,_,e⟩:=examine_ex S.toSettingO p hp (base:=H.length) (H:=H++[.rows 5 0 [p.cells]]) (by simp)
 simp [argS,e]
 exact freeze_two (by simp) (by simp)
def PatchV.dig (p:PatchV):DigV:=⟨sha (treeX p).enc,by simp [sha,digW],sha_byt _⟩
theorem ret_IdP (S:SettingP C) (p:PatchV) (hp:p.Good):Ret Tryz.prog C 40 [] [.agg p.cells] (.tup [.agg p.dig.cells,.int .i64 0]):=by
 refine ret_pure (S.pureP _ (by decide)) fun H=>func_rule Tryz.func40 rfl (S.prim _ (by decide)) (by simp) (by kernel_rfl) ?_
 unfold Tryz.f40
 obtain ⟨_,hel⟩:=hp.encode
 have e:=(ret_EncodeP S p hp).eq
 have es:=(ret_sumP S.toSettingA (treeX p).enc (by omega)).eq
 have hd:dig (sha (treeX p).enc)=p.dig.cells:=rfl
 rw [hd] at es
 simp [argS,e,es,storeA,fillA]
 exact ⟨by decide,by decide,freeze_two (freeze_closed (by simp [AV.closed])) (by simp)⟩
end Go.Proofs.Ev
namespace Go.Proofs.Ev
open Go.Proofs
variable {C:Cfg}
structure Sorts where
 i:List IdV→List IdV
 d:List DigV→List DigV
structure SettingQ (C:Cfg) (σ:Sorts):Prop extends SettingP C where
 permI:∀l,(σ.i l).Perm l
 sortI:∀{base:Nat} {H:Heap} {b g:Nat} {l:List IdV},l.length≤2^40→base≤b→H[b]?=some (.rows 33 g (l.map IdV.cells))→∀K:AV→Heap→Prop,
  CallW Tryz.prog C base (.fn 104 []) [.sl b g 33 0 l.length,.fn 91 []] H K=K (.tup []) (H.set b (.rows 33 g ((σ.i l).map IdV.cells)))
 sortI0:∀{base:Nat} {H:Heap} (K:AV→Heap→Prop),CallW Tryz.prog C base (.fn 104 []) [.nils,.fn 91 []] H K=K (.tup []) H
theorem full_eq (S:SettingP C) {base b:Nat} {H:Heap} {d:DigV} (hg:H[b]?=some (.rows 32 0 [d.cells])) (x:IdV) (K:AV→Heap→Prop) :
 CallW Tryz.prog C base (.fn 106 [.ptr b 0 32 0 0]) [.agg x.cells] H K=K (.agg (wholeV x d).cells) H:=by
 have hb:b<H.length:=(List.getElem?_eq_some_iff.1 hg).1
 have hg2:∀L,blkRow (H++L) b 0 32 0=some d.cells:=fun L=>by
  simp only [blkRow];rw [List.getElem?_append_left hb,hg];simp
 refine CallW.eq (pure_rule (S.pureP _ (by decide)) (func_rule Tryz.func106 rfl (S.prim _ (by decide)) (by simp) (by kernel_rfl) ?_)) K
 unfold Tryz.f106
 have eo:=(ret_own S.toSettingF x).eq
 have hd:d.cells=dig d.d:=rfl
 have h32:d.d.length=32:=d.h
 have ht:List.take 32 (dig d.d)=dig d.d:=List.take_of_length_le (by simp [dig,h32])
 have hlf:∀y∈dig d.d,y.leaf=true:=by intro y hy;obtain ⟨n,_,rfl⟩:=List.mem_map.1 hy;rfl
 cases hz:zeroD x.d with
 | false=>simp [argS,guardV,eo,hz,storeA,fillA,wholeV,freeze_closed,AV.closed]
 | true =>
  by_cases hn:0≤x.n
  ·have hc:Ev.dig d.d++[AV.int .i64 x.n]=IdV.cells ⟨d.d,x.n,d.h,d.b⟩:=rfl
   simp [argS,guardV,eo,hz,hn,hg2,hd,ht,h32,hlf,hc,storeA,fillA,wholeV]
   simp [freeze_closed,AV.closed]
  ·simp [argS,guardV,eo,hz,hn,storeA,fillA,wholeV,freeze_closed,AV.closed]
end Go.Proofs.Ev
