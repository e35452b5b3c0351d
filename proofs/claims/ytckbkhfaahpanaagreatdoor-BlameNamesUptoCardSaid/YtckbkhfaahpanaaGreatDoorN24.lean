/- Part 24 of the proof that quiltlaw38.BlameNames returns true: no statement of its own. -/
import Derived.Test.YtckbkhfaahpanaaGreatDoorN23
import Derived.Test.YtckbkhfaahpanaaGreatDoorN7
set_option linter.all false
namespace Go.Proofs.Ev
open Go.Proofs
variable {C:Cfg} {σ:Sorts}
structure SettingU (C:Cfg) (σ:Sorts):Prop extends SettingT C σ where
 pureU:∀f,f∈[112,61,62,11,12]→C.pure f=true
 plainU:∀f,f∈[111,168,260,261,326,375,30,31]→C.pure f=false∧C.frz f=false
theorem atCmp_eq (S:SettingU C σ) {base:Nat} {H:Heap} (a b:AtV) (K:AV→Heap→Prop):CallW Tryz.prog C base (.fn 112 []) [.agg a.cells,.agg b.cells] H K=K (.int .i64 (cmpI a.id b.id)) H:=by
 refine CallW.eq (pure_rule (S.pureU _ (by decide)) (func_rule Tryz.func112 rfl (S.prim _ (by decide)) (by simp) (by kernel_rfl) ?_)) K
 unfold Tryz.f112
 have e:=(ret_cmpIP S.toSettingI a.id b.id).eq
 simp [argS,e]
def PermAt (b g:Nat) (L:List AtV) (H H':Heap):Prop:=∃L':List AtV,L'.Perm L∧H'=H.set b (.rows 172 g (L'.map AtV.cells))
theorem PermAt.refl {b g:Nat} {L:List AtV} {H:Heap} (h:H[b]?=some (.rows 172 g (L.map AtV.cells))):PermAt b g L H H:=by
 refine ⟨L,.refl _,?_⟩
 obtain ⟨hi,he⟩:=List.getElem?_eq_some_iff.1 h
 rw [←he,List.set_getElem_self]
theorem PermAt.get {b g:Nat} {L:List AtV} {H H':Heap} (hb:b<H.length) (h:PermAt b g L H H'):∃L':List AtV,L'.Perm L∧H'[b]?=some (.rows 172 g (L'.map AtV.cells))∧(∀M,PermAt b g L' H' M→PermAt b g L H M)∧H'.length=H.length:=by
 obtain ⟨L',hp,rfl⟩:=h
 refine ⟨L',hp,by rw [List.getElem?_set_self hb],?_,by simp⟩
 rintro M ⟨L2,h2,rfl⟩
 exact ⟨L2,h2.trans hp,by rw [List.set_set]⟩
theorem row_at {X:Heap} {b g k:Nat} {l:List AtV} (hX:X[b]?=some (.rows 172 g (l.map AtV.cells))) (hk:k<l.length):blkRow X b g 172 k=some l[k].cells:=by
 simp [blkRow,hX,List.getElem?_eq_getElem hk]
theorem store_at {base:Nat} {X:Heap} {b g k:Nat} {l:List AtV} (hb:base≤b) (hX:X[b]?=some (.rows 172 g (l.map AtV.cells))) (hk:k<l.length) (x:AtV) :
 storeA Tryz.prog base X 36 (.ptr b g 172 k 0) (.agg x.cells)=some (X.set b (.rows 172 g ((l.set k x).map AtV.cells))):=by
 simp [storeA,hX,hb,hk,List.map_set]
theorem swap_two {base b g:Nat} {H X:Heap} {L:List AtV} (hb:base≤b) (hbH:b<H.length) (hP:PermAt b g L H X) {j m:Nat} (hj:j<L.length) (hm:m<L.length) :
 ∃x y X1 X2,blkRow X b g 172 j=some (AtV.cells x)∧blkRow X b g 172 m=some (AtV.cells y)∧storeA Tryz.prog base X 36 (.ptr b g 172 j 0) (.agg y.cells)=some X1∧storeA Tryz.prog base X1 36 (.ptr b g 172 m 0) (.agg x.cells)=some X2∧PermAt b g L H X2:=by
 obtain ⟨L',hp,hX,hP,hl⟩:=hP.get hbH
 have hll:=hp.length_eq
 have hXb:b<X.length:=by omega
 have hjl:j<L'.length:=by omega
 have hml:m<L'.length:=by omega
 have s1:=store_at hb hX hjl L'[m]
 have hX1:(X.set b (.rows 172 g ((L'.set j L'[m]).map AtV.cells)))[b]?=some (.rows 172 g ((L'.set j L'[m]).map AtV.cells)):=by rw [List.getElem?_set_self hXb]
 have s2:=store_at hb hX1 (k:=m) (by simp;omega) L'[j]
 rw [List.set_set] at s2
 exact ⟨L'[j],L'[m],_,_,row_at hX hjl,row_at hX hml,s1,s2,hP _ ⟨_,List.set_set_perm hjl hml,rfl⟩⟩
theorem two_rows {b g:Nat} {H X:Heap} {L:List AtV} (hbH:b<H.length) (hP:PermAt b g L H X) {j m:Nat} (hj:j<L.length) (hm:m<L.length):∃x y,blkRow X b g 172 j=some (AtV.cells x)∧blkRow X b g 172 m=some (AtV.cells y):=by
 obtain ⟨L',hp,hX,hP,hl⟩:=hP.get hbH
 have hll:=hp.length_eq
 exact ⟨_,_,row_at hX (k:=j) (by omega),row_at hX (k:=m) (by omega)⟩
set_option maxHeartbeats 2000000 in
theorem swapRange_ok (S:SettingU C σ) {base b g:Nat} {H:Heap} {L:List AtV} (hb:base≤b) (hH:H[b]?=some (.rows 172 g (L.map AtV.cells))) (hn:L.length≤2^40) {x y n:Nat} (hx:x+n≤L.length) (hy:y+n≤L.length) (c:AV) :
 CallW Tryz.prog C base (.fn 375 []) [.sl b g 172 0 L.length,.int .i64 x,.int .i64 y,.int .i64 n,c] H fun v H'=>v=.tup []∧PermAt b g L H H':=by
 refine call_rule (S.plainU _ (by decide)).1 (S.plainU _ (by decide)).2 (func_rule Tryz.func375 rfl (S.prim _ (by decide)) (by simp) (by kernel_rfl) ?_)
 unfold Tryz.f375
 have hbH:b<H.length:=(List.getElem?_eq_some_iff.1 hH).1
 simp [argS]
 refine loop_count n (fun i s X=>s 0=.sl b g 172 0 L.length∧s 1=.int .i64 x∧s 2=.int .i64 y∧s 3=.int .i64 n∧s 10=.int .i64 i∧PermAt b g L H X) ?_ ?_
 ·exact ⟨rfl,rfl,rfl,rfl,rfl,.refl hH⟩
 rintro i s X ⟨q0,q1,q2,q3,q10,hP⟩ hi
 by_cases h:i<n
 rotate_left
 ·simp [q0,q1,q2,q3,q10,h]
  exact hP
 obtain ⟨j,hj⟩:∃j,j=x+i:=⟨_,rfl⟩
 obtain ⟨m,hm⟩:∃m,m=y+i:=⟨_,rfl⟩
 have w1:IntKind.i64.wrap ((x:Int)+i)=(j:Int):=by rw [wrap_in (by omega) (by omega)];omega
 have w2:IntKind.i64.wrap ((y:Int)+i)=(m:Int):=by rw [wrap_in (by omega) (by omega)];omega
 have hjL:j<L.length:=by omega
 have hmL:m<L.length:=by omega
 obtain ⟨u,v,X1,X2,r1,r2,s1,s2,hP2⟩:=swap_two hb hbH hP hjL hmL
 simp [q0,q1,q2,q3,q10,h,w1,w2,hjL,hmL,r1,r2,s1]
 rw [kOpsU_turn (h:=by kernel_rfl)]
 simp [q0,q1,q2,q3,q10,h,w1,w2,hjL,hmL,r1,r2,s1,s2]
 rw [kOpsU_turn (h:=by kernel_rfl)]
 simp [q0,q1,q2,q3,q10,h,w1,w2,hjL,hmL,wrap_succ h (by omega)]
 exact hP2
end Go.Proofs.Ev
namespace Go.Proofs.Ev
open Go.Proofs
variable {C:Cfg} {σ:Sorts}
set_option maxHeartbeats 2000000 in
theorem insertion_ok (S:SettingU C σ) {base b g:Nat} {H:Heap} {L:List AtV} (hb:base≤b) (hH:H[b]?=some (.rows 172 g (L.map AtV.cells))) (hn:L.length≤2^40) {a e:Nat} (ha:a≤e) (he:e≤L.length) :
 CallW Tryz.prog C base (.fn 260 []) [.sl b g 172 0 L.length,.int .i64 a,.int .i64 e,.fn 112 []] H fun v H'=>v=.tup []∧PermAt b g L H H':=by
 refine call_rule (S.plainU _ (by decide)).1 (S.plainU _ (by decide)).2 (func_rule Tryz.func260 rfl (S.prim _ (by decide)) (by simp) (by kernel_rfl) ?_)
 unfold Tryz.f260
 have hbH:b<H.length:=(List.getElem?_eq_some_iff.1 hH).1
 by_cases hae:a<e
 rotate_left
 ·have w0:IntKind.i64.wrap ((a:Int)+1)=((a+1:Nat):Int):=by rw [wrap_in (by omega) (by omega)];omega
  obtain ⟨a1,ha1⟩:∃a1,a1=a+1:=⟨_,rfl⟩
  rw [←ha1] at w0
  have h3:¬a1<e:=by omega
  simp [argS,w0]
  refine loop_count 0 (fun i s X=>s 2=.int .i64 e∧s 8=.int .i64 a1∧X=H) ⟨rfl,rfl,rfl⟩ ?_
  rintro i s X ⟨q2,q8,rfl⟩ _
  simp [q2,q8,h3]
  exact .refl hH
 have w0:IntKind.i64.wrap ((a:Int)+1)=((a+1:Nat):Int):=by rw [wrap_in (by omega) (by omega)];omega
 obtain ⟨a1,ha1⟩:∃a1,a1=a+1:=⟨_,rfl⟩
 rw [←ha1] at w0
 simp [argS,w0]
 refine loop_count (e-a1) (fun k s X=>s 0=.sl b g 172 0 L.length∧s 1=.int .i64 a∧s 2=.int .i64 e∧s 3=.fn 112 []∧s 8=.int .i64 ((a1+k:Nat):Int)∧PermAt b g L H X) ?_ ?_
 ·exact ⟨rfl,rfl,rfl,rfl,rfl,.refl hH⟩
 rintro k s X ⟨q0,q1,q2,q3,q8,hP⟩ hk
 obtain ⟨i,hi⟩:∃i,i=a1+k:=⟨_,rfl⟩
 rw [←hi] at q8
 have w1:IntKind.i64.wrap ((i:Int)+1)=((a1+(k+1):Nat):Int):=by rw [wrap_in (by omega) (by omega)];omega
 obtain ⟨i2,hi2⟩:∃i2,i2=a1+(k+1):=⟨_,rfl⟩
 rw [←hi2] at w1
 by_cases h:i<e
 rotate_left
 ·simp [q0,q1,q2,q3,q8,h]
  exact hP
 simp [q0,q1,q2,q3,q8,h]
 refine loop_count (i-a) (fun m s X=>s 0=.sl b g 172 0 L.length∧s 1=.int .i64 a∧s 2=.int .i64 e∧s 3=.fn 112 []∧s 8=.int .i64 (i:Int)∧s 9=.int .i64 ((i-m:Nat):Int)∧PermAt b g L H X) ?_ ?_
 ·exact ⟨q0,q1,q2,q3,q8,rfl,hP⟩
 clear q0 q1 q2 q3 q8 hP
 rintro m s X ⟨q0,q1,q2,q3,q8,q9,hP⟩ hm
 obtain ⟨j,hj⟩:∃j,j=i-m:=⟨_,rfl⟩
 rw [←hj] at q9
 by_cases hja:a<j
 rotate_left
 ·simp [q0,q1,q2,q3,q8,q9,hja,guardV,w1]
  exact ⟨by omega,by omega,hP⟩
 obtain ⟨j1,hj1⟩:∃j1,j1=i-(m+1):=⟨_,rfl⟩
 have w2:IntKind.i64.wrap ((j:Int)-1)=(j1:Int):=by rw [wrap_in (by omega) (by omega)];omega
 have hjL:j<L.length:=by omega
 have hj1L:j1<L.length:=by omega
 obtain ⟨x,y,X1,X2,r1,r2,s1,s2,hP2⟩:=swap_two hb hbH hP hjL hj1L
 have ec:=fun K=>atCmp_eq S (base:=base) (H:=X) x y K
 by_cases hc:cmpI x.id y.id<0
 rotate_left
 ·simp [q0,q1,q2,q3,q8,q9,hja,guardV,w1,w2,hjL,hj1L,r1,r2,ec,hc]
  exact ⟨by omega,by omega,hP⟩
 simp [q0,q1,q2,q3,q8,q9,hja,guardV,w1,w2,hjL,hj1L,r1,r2,ec,hc,s1]
 rw [kOpsU_turn (h:=by kernel_rfl)]
 simp [q0,q1,q2,q3,q8,q9,hja,guardV,w1,w2,hjL,hj1L,r1,r2,ec,hc,s1,s2]
 rw [kOpsU_turn (h:=by kernel_rfl)]
 simp [q0,q1,q2,q3,q8,q9,hja,guardV,w1,w2,hjL,hj1L]
 rw [←hj1]
 exact ⟨by omega,rfl,hP2⟩
end Go.Proofs.Ev
namespace Go.Proofs.Ev
open Go.Proofs
variable {C:Cfg} {σ:Sorts}
theorem swapRange_ex (S:SettingU C σ) {base b g:Nat} {H X:Heap} {L:List AtV} (hb:base≤b) (hbH:b<H.length) (hP:PermAt b g L H X) (hn:L.length≤2^40) {x y n:Nat} (hx:x+n≤L.length) (hy:y+n≤L.length) (c:AV) :
 ∃Y,PermAt b g L H Y∧∀K:AV→Heap→Prop,CallW Tryz.prog C base (.fn 375 []) [.sl b g 172 0 L.length,.int .i64 x,.int .i64 y,.int .i64 n,c] X K=K (.tup []) Y:=by
 obtain ⟨L',hp,hX,hPP,hl⟩:=hP.get hbH
 have hll:=hp.length_eq
 have:=swapRange_ok S hb hX (by omega) (x:=x) (y:=y) (n:=n) (by omega) (by omega) c
 rw [hll] at this
 obtain ⟨Y,h1,h2⟩:=CallW.ex this
 exact ⟨Y,hPP _ h1,h2⟩
def natV (v:AV):Nat:=match v with | .int _ n=>n.toNat | _=>0
@[simp] theorem natV_int (k:IntKind) (n:Int):natV (.int k n)=n.toNat:=rfl
set_option maxHeartbeats 2000000 in
theorem rotate_ok (S:SettingU C σ) {base b g:Nat} {H:Heap} {L:List AtV} (hb:base≤b) (hH:H[b]?=some (.rows 172 g (L.map AtV.cells))) (hn:L.length≤2^40) {a m e:Nat} (h1:a<m) (h2:m<e) (he:e≤L.length) (c:AV) :
 CallW Tryz.prog C base (.fn 326 []) [.sl b g 172 0 L.length,.int .i64 a,.int .i64 m,.int .i64 e,c] H fun v H'=>v=.tup []∧PermAt b g L H H':=by
 refine call_rule (S.plainU _ (by decide)).1 (S.plainU _ (by decide)).2 (func_rule Tryz.func326 rfl (S.prim _ (by decide)) (by simp) (by kernel_rfl) ?_)
 unfold Tryz.f326
 have hbH:b<H.length:=(List.getElem?_eq_some_iff.1 hH).1
 have w1:IntKind.i64.wrap ((m:Int)-a)=((m-a:Nat):Int):=by rw [wrap_in (by omega) (by omega)];omega
 have w2:IntKind.i64.wrap ((e:Int)-m)=((e-m:Nat):Int):=by rw [wrap_in (by omega) (by omega)];omega
 obtain ⟨i0,hi0⟩:∃i0,i0=m-a:=⟨_,rfl⟩
 obtain ⟨j0,hj0⟩:∃j0,j0=e-m:=⟨_,rfl⟩
 rw [←hi0] at w1
 rw [←hj0] at w2
 simp [argS,w1,w2]
 refine loopC_rule (fun s X=>s 0=.sl b g 172 0 L.length∧s 2=.int .i64 m∧s 4=c∧∃i j:Nat,s 10=.int .i64 (i:Int)∧s 11=.int .i64 (j:Int)∧0<i∧i≤m∧0<j∧m+j≤e∧PermAt b g L H X) (fun s _=>natV (s 10)+natV (s 11)) ?_ ?_
 ·exact ⟨rfl,rfl,rfl,i0,j0,rfl,rfl,by omega,by omega,by omega,by omega,.refl hH⟩
 rintro s X ⟨q0,q2,q4,i,j,q10,q11,hi,him,hj,hje,hP⟩
 have w3:IntKind.i64.wrap ((m:Int)-i)=((m-i:Nat):Int):=by rw [wrap_in (by omega) (by omega)];omega
 obtain ⟨mi,hmi⟩:∃mi,mi=m-i:=⟨_,rfl⟩
 rw [←hmi] at w3
 by_cases hij:i=j
 ·obtain ⟨Y,hY,ec⟩:=swapRange_ex S hb hbH hP hn (x:=mi) (y:=m) (n:=i) (by omega) (by omega) c
  subst hij
  simp [q0,q2,q4,q10,q11,w3,ec]
  exact hY
 have hij':¬(i:Int)=(j:Int):=by omega
 by_cases hlt:j<i
 ·obtain ⟨Y,hY,ec⟩:=swapRange_ex S hb hbH hP hn (x:=mi) (y:=m) (n:=j) (by omega) (by omega) c
  have w4:IntKind.i64.wrap ((i:Int)-j)=((i-j:Nat):Int):=by rw [wrap_in (by omega) (by omega)];omega
  obtain ⟨ij,hijd⟩:∃ij,ij=i-j:=⟨_,rfl⟩
  rw [←hijd] at w4
  simp [q0,q2,q4,q10,q11,w3,w4,ec,hij,hij',hlt]
  exact ⟨⟨ij,rfl,j,rfl,by omega,by omega,by omega,by omega,hY⟩,by omega⟩
 ·have w5:IntKind.i64.wrap ((m:Int)+j)=((m+j:Nat):Int):=by rw [wrap_in (by omega) (by omega)];omega
  obtain ⟨mj,hmj⟩:∃mj,mj=m+j:=⟨_,rfl⟩
  rw [←hmj] at w5
  have w6:IntKind.i64.wrap ((mj:Int)-i)=((mj-i:Nat):Int):=by rw [wrap_in (by omega) (by omega)];omega
  obtain ⟨mji,hmji⟩:∃mji,mji=mj-i:=⟨_,rfl⟩
  rw [←hmji] at w6
  have w4:IntKind.i64.wrap ((j:Int)-i)=((j-i:Nat):Int):=by rw [wrap_in (by omega) (by omega)];omega
  obtain ⟨ji,hji⟩:∃ji,ji=j-i:=⟨_,rfl⟩
  rw [←hji] at w4
  obtain ⟨Y,hY,ec⟩:=swapRange_ex S hb hbH hP hn (x:=mi) (y:=mji) (n:=i) (by omega) (by omega) c
  simp [q0,q2,q4,q10,q11,w3,w4,w5,w6,ec,hij,hij',hlt]
  exact ⟨⟨i,rfl,ji,rfl,by omega,by omega,by omega,by omega,hY⟩,by omega⟩
end Go.Proofs.Ev
namespace Go.Proofs.Ev
open Go.Proofs
variable {C:Cfg} {σ:Sorts}
theorem uin (n:Nat) (h:n≤2^60):IntKind.u64.wrap (n:Int)=(n:Int):=IntWalk.u64_in _ (by omega)
theorem half_a (H:Heap) (n:Nat) (h:n≤2^60):convertA Tryz.prog H 3 217 (.int .i64 (n:Int))=some (.int .u64 (n:Int),H):=by simp [convertA,uin n h]
theorem half_b (t:TypeId) (n h:Nat) (hh:h=n / 2):binA Tryz.prog C .shr t (.int .u64 (n:Int)) (.int .u64 1)=some (.int .u64 (h:Int)):=by
 subst hh
 simp only [binA]
 rw [if_pos (by decide)]
 have:(2:Int)^min (Int.toNat 1) IntKind.u64.bits=2:=by decide
 rw [this,Int.fdiv_eq_ediv_of_nonneg _ (by decide)]
 norm_cast
theorem half_c (H:Heap) (n:Nat) (h:n≤2^60):convertA Tryz.prog H 217 3 (.int .u64 (n:Int))=some (.int .i64 (n:Int),H):=by simp [convertA,wrap_in (x:=(n:Int)) (by omega) (by omega)]
theorem rotate_ex (S:SettingU C σ) {base b g:Nat} {H X:Heap} {L:List AtV} (hb:base≤b) (hbH:b<H.length) (hP:PermAt b g L H X) (hn:L.length≤2^40) {a m e:Nat} (h1:a<m) (h2:m<e) (he:e≤L.length) (c:AV) :
 ∃Y,PermAt b g L H Y∧∀K:AV→Heap→Prop,CallW Tryz.prog C base (.fn 326 []) [.sl b g 172 0 L.length,.int .i64 a,.int .i64 m,.int .i64 e,c] X K=K (.tup []) Y:=by
 obtain ⟨L',hp,hX,hPP,hl⟩:=hP.get hbH
 have hll:=hp.length_eq
 have:=rotate_ok S hb hX (by omega) h1 h2 (by omega) c
 rw [hll] at this
 obtain ⟨Y,h1,h2⟩:=CallW.ex this
 exact ⟨Y,hPP _ h1,h2⟩
def MergeOK (C:Cfg) (n:Nat):Prop:=∀(base b g:Nat) (H:Heap) (L:List AtV),base≤b→H[b]?=some (.rows 172 g (L.map AtV.cells))→L.length≤2^40→∀a m e:Nat,a<m→m<e→e≤L.length→e-a≤n→
 CallW Tryz.prog C base (.fn 261 []) [.sl b g 172 0 L.length,.int .i64 a,.int .i64 m,.int .i64 e,.fn 112 []] H fun v H'=>v=.tup []∧PermAt b g L H H'
theorem merge_ex {n:Nat} (hM:MergeOK C n) {base b g:Nat} {H X:Heap} {L:List AtV} (hb:base≤b) (hbH:b<H.length) (hP:PermAt b g L H X) (hn:L.length≤2^40) {a m e:Nat} (h1:a<m) (h2:m<e) (he:e≤L.length) (hae:e-a≤n) :
 ∃Y,PermAt b g L H Y∧∀K:AV→Heap→Prop,CallW Tryz.prog C base (.fn 261 []) [.sl b g 172 0 L.length,.int .i64 a,.int .i64 m,.int .i64 e,.fn 112 []] X K=K (.tup []) Y:=by
 obtain ⟨L',hp,hX,hPP,hl⟩:=hP.get hbH
 have hll:=hp.length_eq
 have:=hM base b g X L' hb hX (by omega) a m e h1 h2 (by omega) hae
 rw [hll] at this
 obtain ⟨Y,h1,h2⟩:=CallW.ex this
 exact ⟨Y,hPP _ h1,h2⟩
set_option maxRecDepth 100000 in
set_option maxHeartbeats 8000000 in
theorem merge_ok (S:SettingU C σ):∀n,MergeOK C n
 | 0=>by intro base b g H L hb hH hn a m e h1 h2 he hae;omega
 | n+1=>by
  have ih:=merge_ok S n
  intro base b g H L hb hH hn a m e h1 h2 he hae
  refine call_rule (S.plainU _ (by decide)).1 (S.plainU _ (by decide)).2 (func_rule Tryz.func261 rfl (S.prim _ (by decide)) (by simp) (by kernel_rfl) ?_)
  unfold Tryz.f261
  have hbH:b<H.length:=(List.getElem?_eq_some_iff.1 hH).1
  have hP0:PermAt b g L H H:=.refl hH
  have wma:IntKind.i64.wrap ((m:Int)-a)=((m-a:Nat):Int):=by rw [wrap_in (by omega) (by omega)];omega
  obtain ⟨ma,hma⟩:∃ma,ma=m-a:=⟨_,rfl⟩
  have wem:IntKind.i64.wrap ((e:Int)-m)=((e-m:Nat):Int):=by rw [wrap_in (by omega) (by omega)];omega
  obtain ⟨em,hem⟩:∃em,em=e-m:=⟨_,rfl⟩
  rw [←hma] at wma
  rw [←hem] at wem
  by_cases hma1:ma=1
  ·refine cut (fun _ _=>False) ?_ (fun _ _ h=>h.elim)
   simp [argS,wma,hma1]
   refine loopC_rule (fun s X=>s 0=.sl b g 172 0 L.length∧s 1=.int .i64 a∧s 2=.int .i64 m∧s 4=.fn 112 []∧X=H∧∃i j:Nat,s 10=.int .i64 (i:Int)∧s 11=.int .i64 (j:Int)∧m≤i∧i≤j∧j≤e) (fun s _=>natV (s 11)-natV (s 10)) ?_ ?_
   ·exact ⟨rfl,rfl,rfl,rfl,rfl,m,e,rfl,rfl,by omega,by omega,by omega⟩
   rintro s X ⟨q0,q1,q2,q4,hX,i,j,q10,q11,hi,hij,hj⟩
   rw [hX];clear hX X
   by_cases hlt:i<j
   ·have w1:IntKind.i64.wrap ((i:Int)+j)=((i+j:Nat):Int):=by rw [wrap_in (by omega) (by omega)];omega
    obtain ⟨ij,hijd⟩:∃ij,ij=i+j:=⟨_,rfl⟩
    rw [←hijd] at w1
    obtain ⟨h,hh⟩:∃h,h=ij / 2:=⟨_,rfl⟩
    have c1:=fun H=>half_a H ij (by omega)
    have c2:=fun t=>half_b (C:=C) t ij h hh
    have c3:=fun H=>half_c H h (by omega)
    have hhL:h<L.length:=by omega
    have haL:a<L.length:=by omega
    obtain ⟨x,y,r1,r2⟩:=two_rows hbH hP0 hhL haL
    have ec:=fun K=>atCmp_eq S (base:=base) (H:=H) x y K
    have w2:IntKind.i64.wrap ((h:Int)+1)=((h+1:Nat):Int):=by rw [wrap_in (by omega) (by omega)];omega
    obtain ⟨h1,hh1⟩:∃h1,h1=h+1:=⟨_,rfl⟩
    rw [←hh1] at w2
    by_cases hc:cmpI x.id y.id<0
    ·simp [q0,q1,q2,q4,q10,q11,hlt,w1,w2,c1,c2,c3,hhL,haL,r1,r2,ec,hc]
     exact ⟨⟨h1,rfl,j,rfl,by omega,by omega,by omega⟩,by omega⟩
    ·simp [q0,q1,q2,q4,q10,q11,hlt,w1,w2,c1,c2,c3,hhL,haL,r1,r2,ec,hc]
     exact ⟨⟨i,rfl,h,rfl,by omega,by omega,by omega⟩,by omega⟩
   ·have w1:IntKind.i64.wrap ((i:Int)-1)=((i-1:Nat):Int):=by rw [wrap_in (by omega) (by omega)];omega
    obtain ⟨i1,hi1⟩:∃i1,i1=i-1:=⟨_,rfl⟩
    rw [←hi1] at w1
    simp [q0,q1,q2,q4,q10,q11,hlt]
    refine loop_count (i1-a) (fun k s X=>s 0=.sl b g 172 0 L.length∧s 10=.int .i64 (i:Int)∧s 13=.int .i64 ((a+k:Nat):Int)∧PermAt b g L H X) ?_ ?_
    ·exact ⟨q0,q10,rfl,hP0⟩
    clear q0 q1 q2 q4 q10 q11
    rintro k s X ⟨q0,q10,q13,hP⟩ hk
    obtain ⟨u,hu⟩:∃u,u=a+k:=⟨_,rfl⟩
    rw [←hu] at q13
    obtain ⟨u1,hu1⟩:∃u1,u1=a+(k+1):=⟨_,rfl⟩
    have w2:IntKind.i64.wrap ((u:Int)+1)=(u1:Int):=by rw [wrap_in (by omega) (by omega)];omega
    by_cases hui:u<i1
    ·have huL:u<L.length:=by omega
     have hu1L:u1<L.length:=by omega
     obtain ⟨x,y,X1,X2,r1,r2,s1,s2,hP2⟩:=swap_two hb hbH hP huL hu1L
     simp [q0,q10,q13,w1,w2,hui,huL,hu1L,r1,r2,s1]
     rw [kOpsU_turn (h:=by kernel_rfl)]
     simp [s2]
     rw [kOpsU_turn (h:=by kernel_rfl)]
     simp [q0,q10,q13,w2]
     exact ⟨by omega,by omega,by omega,hP2⟩
    ·simp [q0,q10,q13,w1,hui]
     exact hP
  have hma2:¬(ma:Int)=1:=by omega
  refine cut (fun s X=>s 0=.sl b g 172 0 L.length∧s 1=.int .i64 a∧s 2=.int .i64 m∧s 3=.int .i64 e∧s 4=.fn 112 []∧X=H) ?_ ?_
  ·simp [argS,wma,hma2]
  rintro s X ⟨q0,q1,q2,q3,q4,hX⟩
  rw [hX];clear hX X
  by_cases hem1:em=1
  ·refine cut (fun _ _=>False) ?_ (fun _ _ h=>h.elim)
   simp [q0,q1,q2,q3,q4,wem,hem1]
   refine loopC_rule (fun s X=>s 0=.sl b g 172 0 L.length∧s 1=.int .i64 a∧s 2=.int .i64 m∧s 4=.fn 112 []∧X=H∧∃i j:Nat,s 14=.int .i64 (i:Int)∧s 15=.int .i64 (j:Int)∧a≤i∧i≤j∧j≤m) (fun s _=>natV (s 15)-natV (s 14)) ?_ ?_
   ·exact ⟨q0,q1,q2,q4,rfl,a,m,rfl,rfl,by omega,by omega,by omega⟩
   clear q0 q1 q2 q3 q4
   rintro s X ⟨q0,q1,q2,q4,hX,i,j,q10,q11,hi,hij,hj⟩
   rw [hX];clear hX X
   by_cases hlt:i<j
   ·have w1:IntKind.i64.wrap ((i:Int)+j)=((i+j:Nat):Int):=by rw [wrap_in (by omega) (by omega)];omega
    obtain ⟨ij,hijd⟩:∃ij,ij=i+j:=⟨_,rfl⟩
    rw [←hijd] at w1
    obtain ⟨h,hh⟩:∃h,h=ij / 2:=⟨_,rfl⟩
    have c1:=fun H=>half_a H ij (by omega)
    have c2:=fun t=>half_b (C:=C) t ij h hh
    have c3:=fun H=>half_c H h (by omega)
    have hhL:h<L.length:=by omega
    have hmL:m<L.length:=by omega
    obtain ⟨x,y,r1,r2⟩:=two_rows hbH hP0 hmL hhL
    have ec:=fun K=>atCmp_eq S (base:=base) (H:=H) x y K
    have w2:IntKind.i64.wrap ((h:Int)+1)=((h+1:Nat):Int):=by rw [wrap_in (by omega) (by omega)];omega
    obtain ⟨h1,hh1⟩:∃h1,h1=h+1:=⟨_,rfl⟩
    rw [←hh1] at w2
    by_cases hc:cmpI x.id y.id<0
    ·simp [q0,q1,q2,q4,q10,q11,hlt,w1,w2,c1,c2,c3,hhL,hmL,r1,r2,ec,hc]
     exact ⟨⟨i,rfl,h,rfl,by omega,by omega,by omega⟩,by omega⟩
    ·simp [q0,q1,q2,q4,q10,q11,hlt,w1,w2,c1,c2,c3,hhL,hmL,r1,r2,ec,hc]
     exact ⟨⟨h1,rfl,j,rfl,by omega,by omega,by omega⟩,by omega⟩
   ·simp [q0,q1,q2,q4,q10,q11,hlt]
    refine loop_count (m-i) (fun k s X=>s 0=.sl b g 172 0 L.length∧s 14=.int .i64 (i:Int)∧s 17=.int .i64 ((m-k:Nat):Int)∧PermAt b g L H X) ?_ ?_
    ·exact ⟨q0,q10,rfl,hP0⟩
    clear q0 q1 q2 q4 q10 q11
    rintro k s X ⟨q0,q10,q13,hP⟩ hk
    obtain ⟨u,hu⟩:∃u,u=m-k:=⟨_,rfl⟩
    rw [←hu] at q13
    obtain ⟨u1,hu1⟩:∃u1,u1=m-(k+1):=⟨_,rfl⟩
    by_cases hui:i<u
    ·have w2:IntKind.i64.wrap ((u:Int)-1)=(u1:Int):=by rw [wrap_in (by omega) (by omega)];omega
     have huL:u<L.length:=by omega
     have hu1L:u1<L.length:=by omega
     obtain ⟨x,y,X1,X2,r1,r2,s1,s2,hP2⟩:=swap_two hb hbH hP huL hu1L
     simp [q0,q10,q13,w2,hui,huL,hu1L,r1,r2,s1]
     rw [kOpsU_turn (h:=by kernel_rfl)]
     simp [s2]
     rw [kOpsU_turn (h:=by kernel_rfl)]
     simp [q0,q10,q13,w2]
     rw [←hu1]
     exact ⟨by omega,by omega,rfl,hP2⟩
    ·simp [q0,q10,q13,hui]
     exact hP
  have hem2:¬(em:Int)=1:=by omega
  refine cut (fun s X=>s 0=.sl b g 172 0 L.length∧s 1=.int .i64 a∧s 2=.int .i64 m∧s 3=.int .i64 e∧s 4=.fn 112 []∧X=H) ?_ ?_
  ·simp [q0,q1,q2,q3,q4,wem,hem2]
  clear q0 q1 q2 q3 q4
  rintro s X ⟨q0,q1,q2,q3,q4,hX⟩
  rw [hX];clear hX X
  have w1:IntKind.i64.wrap ((a:Int)+e)=((a+e:Nat):Int):=by rw [wrap_in (by omega) (by omega)];omega
  obtain ⟨ae,haed⟩:∃ae,ae=a+e:=⟨_,rfl⟩
  rw [←haed] at w1
  obtain ⟨mid,hmid⟩:∃mid,mid=ae / 2:=⟨_,rfl⟩
  have c1:=fun H=>half_a H ae (by omega)
  have c2:=fun t=>half_b (C:=C) t ae mid hmid
  have c3:=fun H=>half_c H mid (by omega)
  have w2:IntKind.i64.wrap ((mid:Int)+m)=((mid+m:Nat):Int):=by rw [wrap_in (by omega) (by omega)];omega
  obtain ⟨nn,hnn⟩:∃nn,nn=mid+m:=⟨_,rfl⟩
  rw [←hnn] at w2
  have w3:IntKind.i64.wrap ((nn:Int)-1)=((nn-1:Nat):Int):=by rw [wrap_in (by omega) (by omega)];omega
  obtain ⟨p,hp⟩:∃p,p=nn-1:=⟨_,rfl⟩
  rw [←hp] at w3
  refine cut (fun s X=>s 0=.sl b g 172 0 L.length∧s 1=.int .i64 a∧s 2=.int .i64 m∧s 3=.int .i64 e∧s 4=.fn 112 []∧s 18=.int .i64 mid∧X=H) ?_ ?_
  ·simp [q0,q1,q2,q3,q4,w1,c1,c2,c3]
  clear q0 q1 q2 q3 q4
  rintro s X ⟨q0,q1,q2,q3,q4,q18,hX⟩
  rw [hX];clear hX X
  refine cut (fun s X=>s 0=.sl b g 172 0 L.length∧s 1=.int .i64 a∧s 2=.int .i64 m∧s 3=.int .i64 e∧s 4=.fn 112 []∧s 18=.int .i64 mid∧s 19=.int .i64 nn∧X=H) ?_ ?_
  ·simp [q0,q1,q2,q3,q4,q18,w2]
  clear q0 q1 q2 q3 q4 q18
  rintro s X ⟨q0,q1,q2,q3,q4,q18,q19,hX⟩
  rw [hX];clear hX X
  refine cut (fun s X=>s 0=.sl b g 172 0 L.length∧s 1=.int .i64 a∧s 2=.int .i64 m∧s 3=.int .i64 e∧s 4=.fn 112 []∧s 18=.int .i64 mid∧s 19=.int .i64 nn∧X=H) ?_ ?_
  ·simp [q0,q1,q2,q3,q4,q18,q19]
  clear q0 q1 q2 q3 q4 q18 q19
  rintro s X ⟨q0,q1,q2,q3,q4,q18,q19,hX⟩
  rw [hX];clear hX X
  refine cut (fun s X=>s 0=.sl b g 172 0 L.length∧s 1=.int .i64 a∧s 2=.int .i64 m∧s 3=.int .i64 e∧s 4=.fn 112 []∧s 18=.int .i64 mid∧s 19=.int .i64 nn∧X=H∧∃i j:Nat,s 20=.int .i64 (i:Int)∧s 21=.int .i64 (j:Int)∧nn≤i+e∧a≤i∧i≤j∧j≤m∧j≤mid) ?_ ?_
  ·by_cases hmm:mid<m
   ·have w4:IntKind.i64.wrap ((nn:Int)-e)=((nn-e:Nat):Int):=by rw [wrap_in (by omega) (by omega)];omega
    obtain ⟨ne,hne⟩:∃ne,ne=nn-e:=⟨_,rfl⟩
    rw [←hne] at w4
    simp [q0,q1,q2,q3,q4,q18,q19,hmm,w4]
    exact ⟨ne,rfl,mid,rfl,by omega,by omega,by omega,by omega,by omega⟩
   ·simp [q0,q1,q2,q3,q4,q18,q19,hmm]
    exact ⟨a,rfl,m,rfl,by omega,by omega,by omega,by omega,by omega⟩
  clear q0 q1 q2 q3 q4 q18 q19
  rintro s X ⟨q0,q1,q2,q3,q4,q18,q19,hX,i0,j0,q20,q21,hij⟩
  rw [hX];clear hX X
  refine cut (fun s X=>s 0=.sl b g 172 0 L.length∧s 1=.int .i64 a∧s 2=.int .i64 m∧s 3=.int .i64 e∧s 4=.fn 112 []∧s 18=.int .i64 mid∧s 19=.int .i64 nn∧s 22=.int .i64 p∧X=H∧∃i j:Nat,s 20=.int .i64 (i:Int)∧s 21=.int .i64 (j:Int)∧nn≤i+e∧a≤i∧i≤j∧j≤m∧j≤mid) ?_ ?_
  ·simp [q0,q1,q2,q3,q4,q18,q19,w3,q20,q21]
   exact ⟨i0,rfl,j0,rfl,hij⟩
  clear q0 q1 q2 q3 q4 q18 q19 q20 q21 hij
  rintro s X ⟨q0,q1,q2,q3,q4,q18,q19,q22,hX,i0,j0,q20,q21,hij⟩
  rw [hX];clear hX X
  refine cut (fun s X=>s 0=.sl b g 172 0 L.length∧s 1=.int .i64 a∧s 2=.int .i64 m∧s 3=.int .i64 e∧s 4=.fn 112 []∧s 18=.int .i64 mid∧s 19=.int .i64 nn∧X=H∧∃i:Nat,s 20=.int .i64 (i:Int)∧nn≤i+e∧a≤i∧i≤m∧i≤mid) ?_ ?_
  ·rw [wp_block,wp_loop]
   refine loopC_rule (fun s X=>s 0=.sl b g 172 0 L.length∧s 1=.int .i64 a∧s 2=.int .i64 m∧s 3=.int .i64 e∧s 4=.fn 112 []∧s 18=.int .i64 mid∧s 19=.int .i64 nn∧s 22=.int .i64 p∧X=H∧∃i j:Nat,s 20=.int .i64 (i:Int)∧s 21=.int .i64 (j:Int)∧nn≤i+e∧a≤i∧i≤j∧j≤m∧j≤mid) (fun s _=>natV (s 21)-natV (s 20)) ?_ ?_
   ·exact ⟨q0,q1,q2,q3,q4,q18,q19,q22,rfl,i0,j0,q20,q21,hij⟩
   clear q0 q1 q2 q3 q4 q18 q19 q20 q21 q22 hij
   rintro s X ⟨q0,q1,q2,q3,q4,q18,q19,q22,hX,i,j,q20,q21,hij⟩
   rw [hX];clear hX X
   by_cases hlt:i<j
   ·have w4:IntKind.i64.wrap ((i:Int)+j)=((i+j:Nat):Int):=by rw [wrap_in (by omega) (by omega)];omega
    obtain ⟨ij,hijd⟩:∃ij,ij=i+j:=⟨_,rfl⟩
    rw [←hijd] at w4
    obtain ⟨h,hh⟩:∃h,h=ij / 2:=⟨_,rfl⟩
    have c1:=fun H=>half_a H ij (by omega)
    have c2:=fun t=>half_b (C:=C) t ij h hh
    have c3:=fun H=>half_c H h (by omega)
    have w5:IntKind.i64.wrap ((p:Int)-h)=((p-h:Nat):Int):=by rw [wrap_in (by omega) (by omega)];omega
    obtain ⟨ph,hph⟩:∃ph,ph=p-h:=⟨_,rfl⟩
    rw [←hph] at w5
    have hhL:h<L.length:=by omega
    have hpL:ph<L.length:=by omega
    obtain ⟨x,y,r1,r2⟩:=two_rows hbH hP0 hpL hhL
    have ec:=fun K=>atCmp_eq S (base:=base) (H:=H) x y K
    have w6:IntKind.i64.wrap ((h:Int)+1)=((h+1:Nat):Int):=by rw [wrap_in (by omega) (by omega)];omega
    obtain ⟨h1,hh1⟩:∃h1,h1=h+1:=⟨_,rfl⟩
    rw [←hh1] at w6
    by_cases hc:cmpI x.id y.id<0
    ·simp [q0,q1,q2,q3,q4,q18,q19,q20,q21,q22,hlt,w4,w5,w6,c1,c2,c3,hhL,hpL,r1,r2,ec,hc]
     exact ⟨⟨i,rfl,h,rfl,by omega,by omega,by omega,by omega,by omega⟩,by omega⟩
    ·simp [q0,q1,q2,q3,q4,q18,q19,q20,q21,q22,hlt,w4,w5,w6,c1,c2,c3,hhL,hpL,r1,r2,ec,hc]
     exact ⟨⟨h1,rfl,j,rfl,by omega,by omega,by omega,by omega,by omega⟩,by omega⟩
   ·simp [q0,q1,q2,q3,q4,q18,q19,q20,q21,q22,hlt]
    exact ⟨i,rfl,by omega,by omega,by omega,by omega⟩
  clear q0 q1 q2 q3 q4 q18 q19 q20 q21 q22 hij
  rintro s X ⟨q0,q1,q2,q3,q4,q18,q19,hX,i,q20,hi1,hi2,hi3,hi4⟩
  rw [hX];clear hX X
  have w4:IntKind.i64.wrap ((nn:Int)-i)=((nn-i:Nat):Int):=by rw [wrap_in (by omega) (by omega)];omega
  obtain ⟨en,hen⟩:∃en,en=nn-i:=⟨_,rfl⟩
  rw [←hen] at w4
  refine cut (fun s X=>s 0=.sl b g 172 0 L.length∧s 1=.int .i64 a∧s 2=.int .i64 m∧s 3=.int .i64 e∧s 4=.fn 112 []∧s 18=.int .i64 mid∧s 20=.int .i64 i∧s 24=.int .i64 en∧X=H) ?_ ?_
  ·simp [q0,q1,q2,q3,q4,q18,q19,q20,w4]
  clear q0 q1 q2 q3 q4 q18 q19 q20
  rintro s X ⟨q0,q1,q2,q3,q4,q18,q20,q24,hX⟩
  rw [hX];clear hX X
  refine cut (fun s X=>s 0=.sl b g 172 0 L.length∧s 1=.int .i64 a∧s 2=.int .i64 m∧s 3=.int .i64 e∧s 4=.fn 112 []∧s 18=.int .i64 mid∧s 20=.int .i64 i∧s 24=.int .i64 en∧PermAt b g L H X) ?_ ?_
  ·by_cases g1:i<m
   ·by_cases g2:m<en
    ·obtain ⟨Y,hY,er⟩:=rotate_ex S hb hbH hP0 hn g1 g2 (by omega) (.fn 112 [])
     simp [q0,q1,q2,q3,q4,q18,q20,q24,guardV,g1,g2,er]
     exact hY
    ·simp [q0,q1,q2,q3,q4,q18,q20,q24,guardV,g1,g2]
     exact hP0
   ·simp [q0,q1,q2,q3,q4,q18,q20,q24,guardV,g1]
    exact hP0
  clear q0 q1 q2 q3 q4 q18 q20 q24
  rintro s X ⟨q0,q1,q2,q3,q4,q18,q20,q24,hP⟩
  refine cut (fun s X=>s 0=.sl b g 172 0 L.length∧s 3=.int .i64 e∧s 4=.fn 112 []∧s 18=.int .i64 mid∧s 24=.int .i64 en∧PermAt b g L H X) ?_ ?_
  ·by_cases g1:a<i
   ·by_cases g2:i<mid
    ·obtain ⟨Y,hY,er⟩:=merge_ex ih hb hbH hP hn g1 g2 (by omega) (by omega)
     simp [q0,q1,q2,q3,q4,q18,q20,q24,guardV,g1,g2,er]
     exact hY
    ·simp [q0,q1,q2,q3,q4,q18,q20,q24,guardV,g1,g2]
     exact hP
   ·simp [q0,q1,q2,q3,q4,q18,q20,q24,guardV,g1]
    exact hP
  clear q0 q1 q2 q3 q4 q18 q20 q24 hP
  rintro s X ⟨q0,q3,q4,q18,q24,hP⟩
  by_cases g1:mid<en
  ·by_cases g2:en<e
   ·obtain ⟨Y,hY,er⟩:=merge_ex ih hb hbH hP hn g1 g2 (by omega) (by omega)
    simp [q0,q3,q4,q18,q24,guardV,g1,g2,er]
    exact hY
   ·simp [q0,q3,q4,q18,q24,guardV,g1,g2]
    exact hP
  ·simp [q0,q3,q4,q18,q24,guardV,g1]
   exact hP
end Go.Proofs.Ev
namespace Go.Proofs.Ev
open Go.Proofs
variable {C:Cfg} {σ:Sorts}
theorem insertion_ex (S:SettingU C σ) {base b g:Nat} {H X:Heap} {L:List AtV} (hb:base≤b) (hbH:b<H.length) (hP:PermAt b g L H X) (hn:L.length≤2^40) {a e:Nat} (ha:a≤e) (he:e≤L.length) :
 ∃Y,PermAt b g L H Y∧∀K:AV→Heap→Prop,CallW Tryz.prog C base (.fn 260 []) [.sl b g 172 0 L.length,.int .i64 a,.int .i64 e,.fn 112 []] X K=K (.tup []) Y:=by
 obtain ⟨L',hp,hX,hPP,hl⟩:=hP.get hbH
 have hll:=hp.length_eq
 have:=insertion_ok S hb hX (by omega) ha (by omega)
 rw [hll] at this
 obtain ⟨Y,h1,h2⟩:=CallW.ex this
 exact ⟨Y,hPP _ h1,h2⟩
set_option maxHeartbeats 4000000 in
theorem stableCmp_ok (S:SettingU C σ) {base b g:Nat} {H:Heap} {L:List AtV} (hb:base≤b) (hH:H[b]?=some (.rows 172 g (L.map AtV.cells))) (hn:L.length≤2^40) :
 CallW Tryz.prog C base (.fn 168 []) [.sl b g 172 0 L.length,.int .i64 L.length,.fn 112 []] H fun v H'=>v=.tup []∧PermAt b g L H H':=by
 refine call_rule (S.plainU _ (by decide)).1 (S.plainU _ (by decide)).2 (func_rule Tryz.func168 rfl (S.prim _ (by decide)) (by simp) (by kernel_rfl) ?_)
 unfold Tryz.f168
 have hbH:b<H.length:=(List.getElem?_eq_some_iff.1 hH).1
 have hP0:PermAt b g L H H:=.refl hH
 obtain ⟨n,hnn⟩:∃n,n=L.length:=⟨_,rfl⟩
 rw [←hnn]
 obtain ⟨D,hD⟩:∃D,D=AV.sl b g 172 0 L.length:=⟨_,rfl⟩
 rw [hnn,←hD,←hnn]
 obtain ⟨c,hc⟩:∃c,c=AV.fn 112 []:=⟨_,rfl⟩
 rw [←hc]
 refine cut (fun s X=>s 0=D∧s 1=.int .i64 n∧s 2=c∧s 6=.int .i64 20∧X=H) ?_ ?_
 ·simp [argS]
 rintro s X ⟨q0,q1,q2,q6,hX⟩
 rw [hX];clear hX X
 refine cut (fun s X=>s 0=D∧s 1=.int .i64 n∧s 2=c∧s 6=.int .i64 20∧s 7=.int .i64 0∧s 8=.int .i64 20∧X=H) ?_ ?_
 ·simp [q0,q1,q2,q6]
 clear q0 q1 q2 q6
 rintro s X ⟨q0,q1,q2,q6,q7,q8,hX⟩
 rw [hX];clear hX X
 refine cut (fun s X=>s 0=D∧s 1=.int .i64 n∧s 2=c∧s 6=.int .i64 20∧(∃a:Nat,s 7=.int .i64 (a:Int)∧a≤n)∧PermAt b g L H X) ?_ ?_
 ·rw [wp_block,wp_loop]
  refine loopC_rule (fun s X=>s 0=D∧s 1=.int .i64 n∧s 2=c∧s 6=.int .i64 20∧(∃a e:Nat,s 7=.int .i64 (a:Int)∧s 8=.int .i64 (e:Int)∧a≤n∧e=a+20)∧PermAt b g L H X) (fun s _=>n+20-natV (s 8)) ?_ ?_
  ·exact ⟨q0,q1,q2,q6,⟨0,20,q7,q8,by omega,by omega⟩,hP0⟩
  clear q0 q1 q2 q6 q7 q8
  rintro s X ⟨q0,q1,q2,q6,⟨a,e,q7,q8,ha,he⟩,hP⟩
  by_cases hen:e≤n
  ·obtain ⟨Y,hY,ei⟩:=insertion_ex S hb hbH hP hn (a:=a) (e:=e) (by omega) (by omega)
   rw [←hD,←hc] at ei
   have w1:IntKind.i64.wrap ((e:Int)+20)=((e+20:Nat):Int):=by rw [wrap_in (by omega) (by omega)];omega
   obtain ⟨e2,he2⟩:∃e2,e2=e+20:=⟨_,rfl⟩
   rw [←he2] at w1
   simp [q0,q1,q2,q6,q7,q8,hen,ei,w1]
   exact ⟨⟨⟨e,rfl,by omega,by omega⟩,hY⟩,by omega⟩
  ·simp [q0,q1,q2,q6,q7,q8,hen]
   exact ⟨⟨a,rfl,ha⟩,hP⟩
 clear q0 q1 q2 q6 q7 q8
 rintro s X ⟨q0,q1,q2,q6,⟨a,q7,ha⟩,hP⟩
 refine cut (fun s X=>s 0=D∧s 1=.int .i64 n∧s 2=c∧s 6=.int .i64 20∧PermAt b g L H X) ?_ ?_
 ·obtain ⟨Y,hY,ei⟩:=insertion_ex S hb hbH hP hn (a:=a) (e:=n) (by omega) (by omega)
  rw [←hD,←hc] at ei
  simp [q0,q1,q2,q6,q7,ei]
  exact hY
 clear q0 q1 q2 q6 q7 ha a hP
 rintro s X ⟨q0,q1,q2,q6,hP⟩
 rw [wp_block,wp_loop]
 refine loopC_rule (fun s X=>s 0=D∧s 1=.int .i64 n∧s 2=c∧(∃k:Nat,s 6=.int .i64 (k:Int)∧0<k∧k≤2^42)∧PermAt b g L H X) (fun s _=>n-natV (s 6)) ?_ ?_
 ·exact ⟨q0,q1,q2,⟨20,q6,by omega,by omega⟩,hP⟩
 clear q0 q1 q2 q6 hP
 rintro s X ⟨q0,q1,q2,⟨k,q6,hk,hk2⟩,hP⟩
 have hs6:natV (s 6)=k:=by rw [q6];simp
 by_cases hkn:k<n
 rotate_left
 ·simp [q0,q1,q2,q6,hkn]
  exact hP
 have w1:IntKind.i64.wrap (2*(k:Int))=((2*k:Nat):Int):=by rw [wrap_in (by omega) (by omega)];omega
 have w1':IntKind.i64.wrap ((k:Int)*2)=((2*k:Nat):Int):=by rw [wrap_in (by omega) (by omega)];omega
 obtain ⟨k2,hk2d⟩:∃k2,k2=2*k:=⟨_,rfl⟩
 rw [←hk2d] at w1 w1'
 refine cut (fun s X=>s 0=D∧s 1=.int .i64 n∧s 2=c∧s 6=.int .i64 (k:Int)∧PermAt b g L H X) ?_ ?_
 ·simp [q0,q1,q2,q6,hkn]
  exact hP
 clear q0 q1 q2 q6 hP
 rintro s X ⟨q0,q1,q2,q6,hP⟩
 rw [wp_block]
 refine cut (fun s X=>s 0=D∧s 1=.int .i64 n∧s 2=c∧s 6=.int .i64 (k:Int)∧s 7=.int .i64 0∧s 8=.int .i64 k2∧PermAt b g L H X) ?_ ?_
 ·simp [q0,q1,q2,q6,w1]
  exact hP
 clear q0 q1 q2 q6 hP
 rintro s X ⟨q0,q1,q2,q6,q7,q8,hP⟩
 refine cut (fun s X=>s 0=D∧s 1=.int .i64 n∧s 2=c∧s 6=.int .i64 (k:Int)∧(∃a:Nat,s 7=.int .i64 (a:Int)∧a≤n)∧PermAt b g L H X) ?_ ?_
 ·rw [wp_block,wp_loop]
  refine loopC_rule (fun s X=>s 0=D∧s 1=.int .i64 n∧s 2=c∧s 6=.int .i64 (k:Int)∧(∃a e:Nat,s 7=.int .i64 (a:Int)∧s 8=.int .i64 (e:Int)∧a≤n∧e=a+k2)∧PermAt b g L H X) (fun s _=>n+k2-natV (s 8)) ?_ ?_
  ·exact ⟨q0,q1,q2,q6,⟨0,k2,q7,q8,by omega,by omega⟩,hP⟩
  clear q0 q1 q2 q6 q7 q8 hP
  rintro s X ⟨q0,q1,q2,q6,⟨a,e,q7,q8,ha,he⟩,hP⟩
  by_cases hen:e≤n
  ·have w2:IntKind.i64.wrap ((a:Int)+k)=((a+k:Nat):Int):=by rw [wrap_in (by omega) (by omega)];omega
   obtain ⟨ak,hak⟩:∃ak,ak=a+k:=⟨_,rfl⟩
   rw [←hak] at w2
   obtain ⟨Y,hY,ei⟩:=merge_ex (merge_ok S (e-a)) hb hbH hP hn (a:=a) (m:=ak) (e:=e) (by omega) (by omega) (by omega) (by omega)
   rw [←hD,←hc] at ei
   have w3:IntKind.i64.wrap ((e:Int)+k2)=((e+k2:Nat):Int):=by rw [wrap_in (by omega) (by omega)];omega
   obtain ⟨e2,he2⟩:∃e2,e2=e+k2:=⟨_,rfl⟩
   rw [←he2] at w3
   simp [q0,q1,q2,q6,q7,q8,hen,ei,w1,w2,w3]
   exact ⟨⟨⟨e,rfl,by omega,by omega⟩,hY⟩,by omega⟩
  ·simp [q0,q1,q2,q6,q7,q8,hen]
   exact ⟨⟨a,rfl,ha⟩,hP⟩
 clear q0 q1 q2 q6 q7 q8 hP
 rintro s X ⟨q0,q1,q2,q6,⟨a,q7,ha⟩,hP⟩
 have w2:IntKind.i64.wrap ((a:Int)+k)=((a+k:Nat):Int):=by rw [wrap_in (by omega) (by omega)];omega
 obtain ⟨ak,hak⟩:∃ak,ak=a+k:=⟨_,rfl⟩
 rw [←hak] at w2
 by_cases hakn:ak<n
 ·obtain ⟨Y,hY,ei⟩:=merge_ex (merge_ok S (n-a)) hb hbH hP hn (a:=a) (m:=ak) (e:=n) (by omega) (by omega) (by omega) (by omega)
  rw [←hD,←hc] at ei
  simp [q0,q1,q2,q6,q7,w2,hakn,ei,w1']
  exact ⟨⟨⟨k2,rfl,by omega,by omega⟩,hY⟩,by omega⟩
 ·simp [q0,q1,q2,q6,q7,w2,hakn,w1']
  exact ⟨⟨⟨k2,rfl,by omega,by omega⟩,hP⟩,by omega⟩
theorem stable_ex (S:SettingU C σ) {base b g:Nat} {H:Heap} {L:List AtV} (hb:base≤b) (hH:H[b]?=some (.rows 172 g (L.map AtV.cells))) (hn:L.length≤2^40) :
 ∃L':List AtV,L'.Perm L∧∀K:AV→Heap→Prop,CallW Tryz.prog C base (.fn 111 []) [.sl b g 172 0 L.length,.fn 112 []] H K=K (.tup []) (H.set b (.rows 172 g (L'.map AtV.cells))):=by
 obtain ⟨Y,⟨L',hp,rfl⟩,e⟩:=CallW.ex (stableCmp_ok S hb hH hn)
 refine ⟨L',hp,CallW.eq ?_⟩
 refine call_rule (S.plainU _ (by decide)).1 (S.plainU _ (by decide)).2 (func_rule Tryz.func111 rfl (S.prim _ (by decide)) (by simp) (by kernel_rfl) ?_)
 unfold Tryz.f111
 simp [argS,e]
end Go.Proofs.Ev
namespace Go.Proofs.Ev
open Go.Proofs
variable {C:Cfg} {σ:Sorts}
theorem call_any {P:Program} {f:FuncId} {caps args:List AV} {A:AV→Prop} {base:Nat} {H:Heap} (h:∃v,(∃n,callA P C n base (.fn f caps) args H=some (v,H))∧A v):∃v,A v∧∀K:AV→Heap→Prop,CallW P C base (.fn f caps) args H K=K v H:=by
 obtain ⟨v,⟨n,hn⟩,ha⟩:=h
 exact ⟨v,ha,CallW.eq ⟨n,v,H,hn,rfl,rfl⟩⟩
def SlIs (base sz:Nat) (X:Heap) (v:AV) (rows:List (List AV)):Prop:=(rows=[]∧v=.nils)∨(rows≠[]∧∃b g,v=.sl b g sz 0 rows.length∧X[b]?=some (.rows sz g rows)∧base≤b)
theorem SlIs.keep {base sz:Nat} {X X':Heap} {v:AV} {rows:List (List AV)} (h:SlIs base sz X v rows) (hk:∀(b g:Nat) (rs:List (List AV)),base≤b→X[b]?=some (Blk.rows sz g rs)→X'[b]?=some (Blk.rows sz g rs)):SlIs base sz X' v rows:=by
 rcases h with h | ⟨h0,b,g,h1,h2,h3⟩
 ·exact .inl h
 ·exact .inr ⟨h0,b,g,h1,hk _ _ _ h3 h2,h3⟩
theorem SlIs.app {base sz:Nat} {X:Heap} {v:AV} {rows:List (List AV)} (h:SlIs base sz X v rows) (L:Heap):SlIs base sz (X++L) v rows :=
 h.keep fun b g rs _ hb=>by rw [List.getElem?_append_left (List.getElem?_eq_some_iff.1 hb).1];exact hb
theorem SlIs.freeze {base k sz d:Nat} {X:Heap} {v:AV} {rows:List (List AV)} (h:SlIs base sz X v rows) (hk:k≤base) (hc:AV.closedss rows=true):freezeA X k (d+1) v=some (slAV (nlK rows) rows):=by
 rcases h with ⟨rfl,rfl⟩ | ⟨h0,b,g,rfl,h2,h3⟩
 ·simp [nlK,slAV]
 ·cases rows with
  | nil=>exact absurd rfl h0
  | cons r rows=>rw [freeze_sl h2 (by omega) hc];rfl
theorem SlIs.append {P:Program} {base lo:Nat} {ts:Array TypeId} {e:TypeId} {xd:TypeDesc} {sz by_:Nat} (h0:(ts[0]?).bind P.underlying=some (.slice e)) (h1:(ts[1]?).bind P.underlying=some xd) (hs:szOf P e=some sz) (hb:bytesOf P e=some by_)
 (hz:(ofZero P e).map (fun z=>z.cells.length)=some sz) (hp:0<sz) (hbl:base≤lo) {X:Heap} (hX:lo≤X.length) {v x:AV} {rows ys:List (List AV)} (hv:SlIs lo sz X v rows)
 (hx:tailRows X xd x=some ys) (hy:∀r∈ys,r.length=sz) (hne:ys≠[]) (hbound:(rows.length+ys.length)*(by_+1)≤2^45) :
 ∃v' X',appendA P base X ts v.denil x=some (v',X')∧SlIs lo sz X' v' (rows++ys)∧X.length≤X'.length∧(∃b g l,v'=.sl b g sz 0 l)∧∀k blk,X[k]?=some blk→(∀b g l,v=.sl b g sz 0 l→k≠b)→X'[k]?=some blk∧∀b g l,v'=.sl b g sz 0 l→k≠b:=by
 obtain ⟨b,g,X',ha,hg,hk,hd,hbb,hl⟩:=app_abs h0 h1 hs hb hz hp (base:=base) (by omega) (by
  rcases hv with h | ⟨_,b,g,h1,h2,h3⟩
  ·exact .inl h
  ·exact .inr ⟨b,g,h1,h2,by omega⟩) hx hy hne hbound
 have hlb:lo≤b:=by
  rcases hd with ⟨g',l,hd⟩ | ⟨_,hd⟩
  ·rcases hv with ⟨_,h⟩ | ⟨_,b',g2,h1,h2,h3⟩
   ·rw [hd] at h;cases h
   ·rw [hd] at h1;cases h1;exact h3
  ·omega
 refine ⟨_,X',ha,.inr ⟨by simp [hne],b,g,by simp,hg,hlb⟩,hl,⟨_,_,_,rfl⟩,fun k blk hkb hn=>?_⟩
 have hkl:=(List.getElem?_eq_some_iff.1 hkb).1
 have hkne:k≠b:=by
  rcases hd with ⟨g',l,hd⟩ | ⟨_,hd⟩
  ·exact hn _ _ _ hd
  ·omega
 exact ⟨by rw [hk k hkne hkl];exact hkb,fun b' g' l' h=>by cases h;exact hkne⟩
theorem checkL_ne {p:PatchV} (hp:p.Good):checkL p≠[]:=by
 obtain ⟨_,hc0,_⟩:=hp.head
 rw [hp.atoms]
 cases hc:p.changes with
 | nil=>rw [hc] at hc0;exact absurd rfl hc0
 | cons c l =>
  have h1:=(made_len c 0 (hp.good (c:=c) (by rw [hc];simp)).lnn).2
  have h2:=atomsOf_len l ([]++madeV c 0)
  intro h0
  rw [atomsOf,List.length_nil] at h0
  rw [h0] at h2
  exact h1 (List.length_eq_zero_iff.1 (by simpa using h2))
theorem atomsP_ne {p:PatchV} (hp:p.Good):atomsP σ p≠[]:=by
 intro h
 unfold atomsP at h
 exact checkL_ne hp (List.map_eq_nil_iff.1 h)
def allA (σ:Sorts) (s:List StoredV):List AtV:=(s.map fun x=>atomsP σ x.patch).flatten
theorem allA_snoc (s:List StoredV) (x:StoredV):allA σ (s++[x])=allA σ s++atomsP σ x.patch:=by simp [allA]
theorem allA_len {s:List StoredV} (hs:SetGood s):(allA σ s).length≤90000*s.length:=flatten_len fun x hx=>atomsP_len (hs.1 x hx)
theorem stable_nil (S:SettingU C σ) {base:Nat} {H:Heap} (K:AV→Heap→Prop):CallW Tryz.prog C base (.fn 111 []) [.nils,.fn 112 []] H K=K (.tup []) H:=by
 have ei:∀K:AV→Heap→Prop,CallW Tryz.prog C base (.fn 260 []) [.nils,.int .i64 0,.int .i64 0,.fn 112 []] H K=K (.tup []) H:=by
  intro K
  refine CallW.eq (call_rule (S.plainU _ (by decide)).1 (S.plainU _ (by decide)).2 (func_rule Tryz.func260 rfl (S.prim _ (by decide)) (by simp) (by kernel_rfl) ?_)) K
  unfold Tryz.f260
  simp [argS]
  refine loop_count 0 (fun i s X=>s 2=.int .i64 0∧s 8=.int .i64 1∧X=H) ⟨rfl,rfl,rfl⟩ ?_
  rintro i s X ⟨q2,q8,rfl⟩ _
  simp [q2,q8]
 have es:∀K:AV→Heap→Prop,CallW Tryz.prog C base (.fn 168 []) [.nils,.int .i64 0,.fn 112 []] H K=K (.tup []) H:=by
  intro K
  refine CallW.eq (call_rule (S.plainU _ (by decide)).1 (S.plainU _ (by decide)).2 (func_rule Tryz.func168 rfl (S.prim _ (by decide)) (by simp) (by kernel_rfl) ?_)) K
  unfold Tryz.f168
  simp [argS]
  refine loop_count 0 (fun i s X=>s 0=.nils∧s 1=.int .i64 0∧s 2=.fn 112 []∧s 6=.int .i64 20∧s 7=.int .i64 0∧s 8=.int .i64 20∧X=H) ⟨rfl,rfl,rfl,rfl,rfl,rfl,rfl⟩ ?_
  rintro i s X ⟨q0,q1,q2,q6,q7,q8,rfl⟩ _
  simp [q0,q1,q2,q6,q7,q8,ei]
  refine loop_count 0 (fun i s X'=>s 1=.int .i64 0∧s 6=.int .i64 20∧X'=X) ⟨q1,q6,rfl⟩ ?_
  rintro i s X' ⟨q1,q6,rfl⟩ _
  simp [q1,q6]
 refine CallW.eq (call_rule (S.plainU _ (by decide)).1 (S.plainU _ (by decide)).2 (func_rule Tryz.func111 rfl (S.prim _ (by decide)) (by simp) (by kernel_rfl) ?_)) K
 unfold Tryz.f111
 simp [argS,es]
set_option maxHeartbeats 2000000 in
theorem any_LAtoms (S:SettingU C σ) {s0:List StoredV} {k:SK} (hs:SetGood s0) (h8:s0.length≤8) (base:Nat) (H:Heap):∃L:List AtV,L.Perm (allA σ s0)∧∀K:AV→Heap→Prop,CallW Tryz.prog C base (.fn 61 []) [slAV k (s0.map StoredV.cells)] H K=K (slAV (nlK L) (L.map AtV.cells)) H:=by
 suffices h:∃v,(∃L:List AtV,L.Perm (allA σ s0)∧v=slAV (nlK L) (L.map AtV.cells))∧∀K:AV→Heap→Prop,CallW Tryz.prog C base (.fn 61 []) [slAV k (s0.map StoredV.cells)] H K=K v H by
  obtain ⟨v,⟨L,h1,rfl⟩,h2⟩:=h
  exact ⟨L,h1,h2⟩
 refine call_any (ret_any (S.pureU _ (by decide)) (fun H=>?_) base H)
 refine func_rule Tryz.func61 rfl (S.prim _ (by decide)) (by simp) (by kernel_rfl) ?_
 unfold Tryz.f61
 have hlen:=allA_len (σ:=σ) hs
 have hb0:∀i,(allA σ (s0.take i)).length≤720000:=fun i=>by
  have h1:=flatten_len (f:=fun x:StoredV=>atomsP σ x.patch) (b:=90000) (l:=s0.take i) fun x hx=>atomsP_len (hs.1 x (List.mem_of_mem_take hx))
  have h2:(s0.take i).length≤8:=by simp;omega
  have h3:90000*(s0.take i).length≤90000*8:=Nat.mul_le_mul_left _ h2
  unfold allA;omega
 refine cut (fun s X=>s 0=slAV k (s0.map StoredV.cells)∧X=H) ?_ ?_
 ·simp [argS]
 rintro s X ⟨q0,hX⟩
 rw [hX];clear hX X
 refine cut (fun s X=>s 0=slAV k (s0.map StoredV.cells)∧s 3=.nils∧X=H) ?_ ?_
 ·simp [q0]
 clear q0
 rintro s X ⟨q0,q3,hX⟩
 rw [hX];clear hX X
 refine cut (fun s X=>H.length≤X.length∧SlIs H.length 172 X (s 3) ((allA σ s0).map AtV.cells)) ?_ ?_
 ·simp [q0]
  refine loop_count s0.length (fun i s X=>s 8=slAV k (s0.map StoredV.cells)∧s 9=.int .i64 s0.length∧s 10=.int .i64 i∧H.length≤X.length∧SlIs H.length 172 X (s 3) ((allA σ (s0.take i)).map AtV.cells)) ?_ ?_
  ·exact ⟨rfl,rfl,rfl,Nat.le_refl _,.inl ⟨by simp [allA],q3⟩⟩
  clear q0 q3
  rintro i s X ⟨q8,q9,q10,hX,hS⟩ hi
  by_cases h:i<s0.length
  rotate_left
  ·have h':i=s0.length:=by omega
   subst h'
   rw [List.take_length] at hS
   simp [q8,q9,q10]
   exact ⟨hX,hS⟩
  have hpg:=hs.1 s0[i] (List.getElem_mem h)
  have ea:=(ret_Atoms S.toSettingQ s0[i].patch hpg).eq
  have hAl:=atomsP_len (σ:=σ) hpg
  obtain ⟨A,hA⟩:∃A,A=atomsP σ s0[i].patch:=⟨_,rfl⟩
  have hAne:A≠[]:=by rw [hA];exact atomsP_ne hpg
  have hsn:allA σ (s0.take (i+1))=allA σ (s0.take i)++A:=by rw [List.take_add_one,List.getElem?_eq_getElem h];exact (allA_snoc _ _).trans (by rw [hA])
  rw [←hA] at ea hAl
  obtain ⟨v',X',ha,hS',hl,_,_⟩:=(hS.app [.rows 37 0 [s0[i].cells]]).append (P:=Tryz.prog) (base:=H.length) (ts:=#[83,83]) (e:=36) (xd:=.slice 36) (x:=.lst (A.map AtV.cells) false) (ys:=A.map AtV.cells)
   (by simp) (by simp) sz36 by36 (by simp) (by decide) (Nat.le_refl _) (by simp;omega) rfl (fun r hr=>by obtain ⟨y,_,rfl⟩:=List.mem_map.1 hr;simp) (by simpa using hAne) (by have:=hb0 i;simp;omega)
  have hd0:digest0.length=32:=by decide
  have hdr:List.drop 37 (dig digest0++zeroP.cells)=[]:=by decide
  simp [q8,q9,q10,h,storeA,fillA,ea,hd0,hdr,hX,ha,wrap_succ h (by omega)]
  rw [hsn,List.map_append]
  simp at hl
  exact ⟨by omega,hS'⟩
 clear q0 q3
 rintro s X ⟨hX,hS⟩
 have hcl:∀L:List AtV,AV.closedss (L.map AtV.cells)=true:=fun L=>closedss_map AtV.closed _
 rcases hS with ⟨h0,q3⟩ | ⟨h0,b,g,q3,hg,hb⟩
 ·have h0:allA σ s0=[]:=by simpa using h0
  have es:=fun K=>stable_nil S (base:=H.length) (H:=X) K
  simp [q3,es]
  exact ⟨[],by rw [h0],rfl⟩
 ·rw [List.length_map] at q3
  obtain ⟨L,hp,es⟩:=stable_ex S (base:=H.length) (by omega) hg (by omega)
  have hbX:b<X.length:=(List.getElem?_eq_some_iff.1 hg).1
  have hLl:=hp.length_eq
  have hS2:SlIs H.length 172 (X.set b (.rows 172 g (L.map AtV.cells))) (.sl b g 172 0 L.length) (L.map AtV.cells):=.inr ⟨by intro h;apply h0;have:=congrArg List.length h;simp at this;rw [List.map_eq_nil_iff,←List.length_eq_zero_iff,←hLl];simpa using this,b,g,by simp,by rw [List.getElem?_set_self hbX],hb⟩
  have hf:=hS2.freeze (d:=2) (Nat.le_refl _) (hcl L)
  have hk:nlK (L.map AtV.cells)=nlK L:=by unfold nlK;cases L<;>rfl
  rw [hk,hLl] at hf
  simp [q3,es]
  exact ⟨_,hf,L,hp,rfl⟩
end Go.Proofs.Ev
namespace Go.Proofs.Ev
open Go.Proofs
variable {C:Cfg} {σ:Sorts}
def aliveB (σ:Sorts) (s:List StoredV) (d:IdV):Bool:=(lookM (killP σ s).2 d).isEmpty
def liveI (σ:Sorts) (s:List StoredV) (L:List AtV):List IdV:=(L.filter fun x=>aliveB σ s x.id).map fun x=>x.id
theorem liveI_snoc (s:List StoredV) (L:List AtV) (x:AtV):liveI σ s (L++[x])=liveI σ s L++if aliveB σ s x.id then [x.id] else []:=by
 unfold liveI;rw [List.filter_append];cases h:aliveB σ s x.id<;>simp [h]
theorem liveI_len (s:List StoredV) (L:List AtV):(liveI σ s L).length≤L.length:=by
 unfold liveI;rw [List.length_map];exact List.length_filter_le _ _
theorem perm_len {s:List StoredV} (hs:SetGood s) (h8:s.length≤8) {L:List AtV} (h:L.Perm (allA σ s)):L.length≤720000:=by
 have h1:=allA_len (σ:=σ) hs;have:=h.length_eq;omega
set_option maxHeartbeats 2000000 in
theorem any_Living (S:SettingU C σ) {s0:List StoredV} {k:SK} (hs:SetGood s0) (h8:s0.length≤8) (base:Nat) (H:Heap):∃L:List AtV,L.Perm (allA σ s0)∧∀K:AV→Heap→Prop,CallW Tryz.prog C base (.fn 62 []) [slAV k (s0.map StoredV.cells)] H K=K (slAV (nlK (liveI σ s0 L)) ((liveI σ s0 L).map IdV.cells)) H:=by
 suffices h:∃v,(∃L:List AtV,L.Perm (allA σ s0)∧v=slAV (nlK (liveI σ s0 L)) ((liveI σ s0 L).map IdV.cells))∧∀K:AV→Heap→Prop,CallW Tryz.prog C base (.fn 62 []) [slAV k (s0.map StoredV.cells)] H K=K v H by
  obtain ⟨v,⟨L,h1,rfl⟩,h2⟩:=h
  exact ⟨L,h1,h2⟩
 refine call_any (ret_any (S.pureU _ (by decide)) (fun H=>?_) base H)
 refine func_rule Tryz.func62 rfl (S.prim _ (by decide)) (by simp) (by kernel_rfl) ?_
 unfold Tryz.f62
 obtain ⟨v0,hv0⟩:∃v0,v0=slAV k (s0.map StoredV.cells):=⟨_,rfl⟩
 obtain ⟨V,T,v1,v2,v3,v4,vlo,ek⟩:=killers_ex S.toSettingT (k:=k) hs h8 (base:=H.length) (H:=H) (Nat.le_refl _)
 have hne:=killP_ne (σ:=σ) s0
 rw [←v2] at hne
 have hVl:H.length+2<V.length:=(List.getElem?_eq_some_iff.1 v1).1
 obtain ⟨L,hL,ea⟩:=any_LAtoms S (k:=k) hs h8 H.length V
 have hLl:=perm_len hs h8 hL
 rw [←hv0] at ek ea ⊢
 refine cut (fun s X=>s 0=v0∧X=H) ?_ ?_
 ·simp [argS]
 rintro s X ⟨q0,hX⟩
 rw [hX];clear hX X
 refine cut (fun s X=>s 0=v0∧s 3=.map (H.length+2)∧X=V) ?_ ?_
 ·simp [q0,ek]
 clear q0
 rintro s X ⟨q0,q3,hX⟩
 rw [hX];clear hX X
 refine cut (fun s X=>s 0=v0∧s 3=.map (H.length+2)∧s 4=.nils∧X=V) ?_ ?_
 ·simp [q0,q3]
 clear q0
 rintro s X ⟨q0,q3,q4,hX⟩
 rw [hX];clear hX X
 refine cut (fun s X=>SlIs V.length 33 X (s 4) ((liveI σ s0 L).map IdV.cells)) ?_ ?_
 rotate_left
 ·rintro s X hS
  have hf:=hS.freeze (k:=H.length) (d:=2) (by omega) (closedss_map IdV.closed _)
  have hk:nlK ((liveI σ s0 L).map IdV.cells)=nlK (liveI σ s0 L):=by unfold nlK;cases liveI σ s0 L<;>rfl
  rw [hk] at hf
  simp
  exact ⟨_,hf,L,hL,rfl⟩
 simp [q0,q3,q4,ea]
 refine loop_count L.length (fun i s X=>s 3=.map (H.length+2)∧s 10=slAV (nlK L) (L.map AtV.cells)∧s 11=.int .i64 L.length∧s 12=.int .i64 i∧V.length≤X.length∧(∀(k:Nat) (blk:Blk),V[k]?=some blk→X[k]?=some blk)∧SlIs V.length 33 X (s 4) ((liveI σ s0 (L.take i)).map IdV.cells)) ?_ ?_
 ·exact ⟨q3,rfl,rfl,rfl,Nat.le_refl _,fun _ _ h=>h,.inl ⟨by simp [liveI],q4⟩⟩
 clear q0 q3 q4
 rintro i s X ⟨q3,q10,q11,q12,hX,hV,hS⟩ hi
 by_cases h:i<L.length
 rotate_left
 ·have h':i=L.length:=by omega
  subst h'
  rw [List.take_length] at hS
  simp [q3,q10,q11,q12]
  exact hS
 obtain ⟨x,hx⟩:∃x,x=L[i]:=⟨_,rfl⟩
 have hsn:=liveI_snoc (σ:=σ) s0 (L.take i) x
 have htk:L.take i++[x]=L.take (i+1):=by rw [List.take_add_one,List.getElem?_eq_getElem h,hx];rfl
 rw [htk] at hsn
 have hl0:=liveI_len (σ:=σ) s0 (L.take i)
 have hl1:(L.take i).length≤L.length:=by simp;omega
 have hVX:∀M:Heap,∀(k:Nat) (blk:Blk),V[k]?=some blk→(X++M)[k]?=some blk:=fun M k blk hk=>by
  have h1:=hV k blk hk
  rw [List.getElem?_append_left (List.getElem?_eq_some_iff.1 h1).1];exact h1
 have hm:=fun M=>hVX M _ _ v1
 have hks:=fun M=>v3.keep (X':=X++M) fun b g rs hb=>hVX M _ _ hb
 have hfx:∀M,blkRow (X++Blk.rows 172 0 [x.cells]::M) X.length 0 172 0=some x.cells:=fun M=>by simp
 have hbX:H.length≤X.length:=by omega
 rcases look_kill S.toSetting (hm [.rows 172 0 [x.cells]]) (hks _) hne x.id with ⟨h1,h2⟩ | ⟨h1,b,g,hb1,hb2,h2⟩
 ·have hal:aliveB σ s0 x.id=true:=by unfold aliveB;rw [←v2,h1];rfl
  rw [hal,if_pos rfl] at hsn
  obtain ⟨v',X',ha,hS',hl,_,hk⟩:=(hS.app [.rows 172 0 [x.cells]]).append (P:=Tryz.prog) (base:=H.length) (ts:=#[34,34]) (e:=27) (xd:=.slice 27) (x:=.lst [x.id.cells] true) (ys:=[x.id.cells])
   (by simp) (by simp) sz27 by27 (by simp) (by decide) (by omega) (by simp;omega) rfl (by simp) (by simp) (by simp;omega)
  simp at hl
  simp [q3,q10,q11,q12,h,←hx,storeA,fillA,hbX,h2,buildSliceA,fillRows,ha,wrap_succ h (by omega)]
  rw [hsn,List.map_append]
  refine ⟨by omega,fun k blk hkb=>(hk k blk (hVX _ k blk hkb) ?_).1,hS'⟩
  intro b g l hvb hkb'
  rcases hS with ⟨_,hS⟩ | ⟨_,b',g',hS,hS2,hS3⟩
  ·rw [hvb] at hS;cases hS
  ·rw [hvb] at hS;cases hS
   have:=(List.getElem?_eq_some_iff.1 hkb).1;omega
 ·have hal:aliveB σ s0 x.id=false:=by unfold aliveB;rw [←v2];cases hq:lookM (T.map KR.m) x.id with | nil=>exact absurd hq h1 | cons _ _=>rfl
  rw [hal,if_neg (by decide),List.append_nil] at hsn
  have hne0:¬((lookM (T.map KR.m) x.id).length:Int)=0:=by have:=List.length_pos_iff.2 h1;omega
  simp [q3,q10,q11,q12,h,←hx,storeA,fillA,hbX,h2,h1,wrap_succ h (by omega)]
  rw [hsn]
  exact ⟨by omega,fun k blk hkb=>hVX _ k blk hkb,hS.app _⟩
end Go.Proofs.Ev
namespace Go.Proofs.Ev
structure NmV where
 entry:IdV
 parent:IdV
 name:List UInt8
def NmV.cells (x:NmV):List AV:=x.entry.cells++(x.parent.cells++([.str x.name]))
@[simp] theorem NmV.len (x:NmV):x.cells.length=67:=by simp [NmV.cells]
@[simp] theorem NmV.leafs (x:NmV):x.cells.all AV.leaf=true:=by simp only [NmV.cells,List.all_append,List.all_cons,IdV.leafs,DigV.leafs,List.all_nil,slAV_leaf,leaf_int,leaf_str,leaf_bool,Bool.and_self,Bool.true_and,Bool.and_true]
@[simp] theorem NmV.takeAll (x:NmV):x.cells.take 67=x.cells:=List.take_of_length_le (by simp)
@[simp] theorem NmV.closed (x:NmV):AV.closeds x.cells=true:=by
 simp [NmV.cells,closeds_append,AV.closeds,AV.closed]
structure InV where
 file:IdV
 type:Int
 living:Bool
 names:List NmV
 namesK:SK
def InV.cells (x:InV):List AV:=x.file.cells++(.int .i64 x.type::(.bool x.living::([slAV x.namesK (x.names.map NmV.cells)])))
@[simp] theorem InV.len (x:InV):x.cells.length=36:=by simp [InV.cells]
@[simp] theorem InV.leafs (x:InV):x.cells.all AV.leaf=true:=by simp only [InV.cells,List.all_append,List.all_cons,IdV.leafs,DigV.leafs,List.all_nil,slAV_leaf,leaf_int,leaf_str,leaf_bool,Bool.and_self,Bool.true_and,Bool.and_true]
@[simp] theorem InV.takeAll (x:InV):x.cells.take 36=x.cells:=List.take_of_length_le (by simp)
theorem InV.dr0 (x:InV):x.cells.drop 0=x.file.cells++(.int .i64 x.type::(.bool x.living::([slAV x.namesK (x.names.map NmV.cells)]))):=rfl
theorem InV.dr33 (x:InV):x.cells.drop 33=.int .i64 x.type::(.bool x.living::([slAV x.namesK (x.names.map NmV.cells)])):=by rw [show 33=0+33 from rfl,←List.drop_drop,x.dr0,drop_skip (n:=33) (by simp) (by decide)];rfl
theorem InV.dr34 (x:InV):x.cells.drop 34=.bool x.living::([slAV x.namesK (x.names.map NmV.cells)]):=by rw [show 34=33+1 from rfl,←List.drop_drop,x.dr33];rfl
theorem InV.dr35 (x:InV):x.cells.drop 35=[slAV x.namesK (x.names.map NmV.cells)]:=by rw [show 35=34+1 from rfl,←List.drop_drop,x.dr34];rfl
theorem InV.file0 (x:InV):x.cells.take 33=x.file.cells:=by show (x.file.cells++(.int .i64 x.type::(.bool x.living::([slAV x.namesK (x.names.map NmV.cells)])))).take 33=_;rw [List.take_append_of_le_length (by simp)];exact List.take_of_length_le (by simp)
@[simp] theorem InV.file1 (x:InV):AV.agg (x.cells.take 33)=AV.agg (x.file.cells):=by rw [x.file0]
@[simp] theorem InV.names1 (x:InV):x.cells[35]?=some (slAV x.namesK (x.names.map NmV.cells)):=by rw [←List.head?_drop,x.dr35];rfl
@[simp] theorem InV.names2 (x:InV) (h:35<x.cells.length):x.cells[35]=slAV x.namesK (x.names.map NmV.cells):=getElem_of x.names1 h
end Go.Proofs.Ev
