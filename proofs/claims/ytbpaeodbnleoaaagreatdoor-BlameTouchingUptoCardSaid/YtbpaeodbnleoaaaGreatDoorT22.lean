/- Part 22 of the proof that quiltlaw38.BlameTouching returns true: no statement of its own. -/
import Derived.Test.YtbpaeodbnleoaaaGreatDoorT21
import Derived.Test.YtbpaeodbnleoaaaGreatDoorT20
set_option linter.all false
namespace Go.Proofs.Ev
open Go.Proofs
variable {N:gA}
def Sk:List AV:=d1.cells++p1.cells
def TC:List AV:=d2.cells++p2.cells
def KD:AV:=.lst [Sk] false
def sR:AV:=.lst [TC,Sk] false
set_option maxRecDepth 100000 in
theorem Ig:((iG.v (r5 Tryz.prog (tC oL) 3000 (.func 0 14 [.nils,.agg p1.cells] []))).bind fun r=>aJ r.2 0 6 r.1)=some (.tup [KD,.agg d1.cells,.int .i64 0]):=by kernel_rfl
set_option maxRecDepth 100000 in
theorem Ih:((iG.v (r5 Tryz.prog (tC oL) 3000 (.func 0 14 [KD,.agg p2.cells] []))).bind fun r=>aJ r.2 0 6 r.1)=some (.tup [sR,.agg d2.cells,.int .i64 0]):=by kernel_rfl
end Go.Proofs.Ev
namespace Go.Proofs.Ev
open Go.Proofs
set_option maxRecDepth 100000 in
theorem CK:((iG.v (r5 Tryz.prog (tC oL) 3000 (.func 0 17 [sR,.agg (AP d1 2).cells] []))).bind fun r=>aJ r.2 0 6 r.1)=some (.tup [.lst [.int .i64 1::(d1.cells++(AP d1 2).cells),.int .i64 2::(d2.cells++(AP d2 0).cells)] false,.int .i64 0]):=by kernel_rfl
set_option maxRecDepth 100000 in
theorem FF:((iG.v (r5 Tryz.prog (tC oL) 3000 (.func 0 6 [sR,.agg (AP d1 0).cells] []))).bind fun r=>aJ r.2 0 6 r.1)=some (.tup [.lst [d1.cells,d2.cells] false,.int .i64 0]):=by kernel_rfl
end Go.Proofs.Ev
namespace Go.Proofs.Ev
open Go.Proofs
set_option maxRecDepth 100000 in
theorem FE:((iG.v (r5 Tryz.prog (tC oL) 3000 (.func 0 48 [sR] []))).bind fun r=>aJ r.2 0 6 r.1)=some (.lst [.str [102]::(AP d1 0).cells] false):=by kernel_rfl
end Go.Proofs.Ev
namespace Go.Proofs.Ev
open Go.Proofs
def PG:AV:=.agg [.lst [(AP d1 2).cells++[.str [120],.bool false],(AP d1 3).cells++[.str [121],.bool true]] false,.lst [[.int .i64 (-1),.int .i64 0],[.int .i64 0,.int .i64 1],[.int .i64 1,.int .i64 (-1)]] false]
set_option maxRecDepth 100000 in
theorem MD:((iG.v (r5 Tryz.prog (tC oL) 3000 (.func 0 9 [sR,.agg (AP d1 0).cells] []))).bind fun r=>aJ r.2 0 6 r.1)=some (.tup [PG,.int .i64 0]):=by kernel_rfl
end Go.Proofs.Ev
namespace Go.Proofs.Ev
open Go.Proofs
set_option maxRecDepth 100000 in
theorem Ay:((iG.v (r5 Tryz.prog (tC oL) 3000 (.func 0 50 [PG] []))).bind fun r=>aJ r.2 0 6 r.1)=some (.lst [[.bool false,.lst [[.int .i64 1]] false,.nils]] false):=by kernel_rfl
end Go.Proofs.Ev
namespace Go.Proofs.Ev
open Go.Proofs
variable {C:bG} {σ:aZ}
theorem Gl (S:cT C σ) (v:AV) (hv:v.leaf=true) (hc:v.cells=[v]) {base:Nat} {H:ag} (K:AV→ag→Prop) :
 aD Tryz.prog C base (.fn 252 []) [v] H K=K (.fn 308 [.ptr H.length 0 1 0 0]) (H++[.rows 1 0 [[v]]]):=by
 refine aD.eq (bn (S.plainT _ (by decide)).1 (S.plainT _ (by decide)).2 (am Tryz.func252 rfl (S.prim _ (by decide)) (by simp) (by kernel_rfl) ?_)) K
 unfold Tryz.f252
 simp [aG,hv,hc]
theorem Gk (S:cT C σ) (v:AV) (hv:v.leaf=true) (hc:v.cells=[v]) {base:Nat} {H:ag} (K:AV→ag→Prop) :
 aD Tryz.prog C base (.fn 253 []) [v] H K=K (.fn 309 [.ptr H.length 0 1 0 0]) (H++[.rows 1 0 [[v]]]):=by
 refine aD.eq (bn (S.plainT _ (by decide)).1 (S.plainT _ (by decide)).2 (am Tryz.func253 rfl (S.prim _ (by decide)) (by simp) (by kernel_rfl) ?_)) K
 unfold Tryz.f253
 simp [aG,hv,hc]
theorem A3 (S:cT C σ) {l:List ar} {k:SK} {base bl bs:Nat} (hl:l.length≤2^40) {I:Nat→ag→Prop} (hb:∀j X,I j X→ax X bs 0 1 0=some [aw k (l.map ar.cells)])
 (hy:∀(j m:Nat) X d,I j X→m+j+1=l.length→l[m]?=some d→aD Tryz.prog C base (.yld bl) [.int .i64 (m:Int),.agg d.cells] X fun v X'=>v=.bool true∧I (j+1) X') {X0:ag} (h0:I 0 X0) (K:AV→ag→Prop) (hK:∀X,I l.length X→K (.tup []) X) :
 dW Tryz.prog C base 308 [.yld bl,.ptr bs 0 1 0 0] X0 K:=by
 refine am Tryz.func308 rfl (S.prim _ (by decide)) (by simp) (by kernel_rfl) ?_
 unfold Tryz.f308
 have hb0:=hb 0 X0 h0
 have w0:IntKind.i64.wrap ((l.length:Int)-1)=(l.length:Int)-1:=aK (by omega) (by omega)
 simp [aG,hb0,w0]
 refine az l.length (fun j s X=>s 0=.yld bl∧s 1=.ptr bs 0 1 0 0∧s 3=.int .i64 ((l.length:Int)-1-j)∧I j X) ?_ ?_
 ·exact ⟨rfl,rfl,by simp,h0⟩
 rintro j s X ⟨q0,q1,q3,hI⟩ hj
 by_cases h:j<l.length
 ·obtain ⟨m,hm⟩:∃m,m+j+1=l.length:=⟨l.length-1-j,by omega⟩
  have hmi:(l.length:Int)-1-j=(m:Int):=by omega
  rw [hmi] at q3
  have hml:m<l.length:=by omega
  obtain ⟨X',hI',ey⟩:=aD.ex (hy j m X l[m] hI hm (List.getElem?_eq_getElem hml))
  have w1:IntKind.i64.wrap ((m:Int)-1)=(l.length:Int)-1-((j:Int)+1):=by rw [aK (by omega) (by omega)];omega
  simp [q0,q1,q3,hb j X hI,hml,ey,w1]
  exact ⟨h,hI'⟩
 ·have h':j=l.length:=by omega
  have hneg:(l.length:Int)-1-j = -1:=by omega
  rw [hneg] at q3
  rw [h'] at hI
  simp [q0,q1,q3]
  exact hK X hI
theorem A2 (S:cT C σ) {l:List aH} {k:SK} {base bl bs:Nat} (hl:l.length≤2^40) {I:Nat→ag→Prop} (hb:∀j X,I j X→ax X bs 0 1 0=some [aw k (l.map aH.cells)])
 (hy:∀(j m:Nat) X d,I j X→m+j+1=l.length→l[m]?=some d→aD Tryz.prog C base (.yld bl) [.int .i64 (m:Int),.agg d.cells] X fun v X'=>v=.bool true∧I (j+1) X') {X0:ag} (h0:I 0 X0) (K:AV→ag→Prop) (hK:∀X,I l.length X→K (.tup []) X) :
 dW Tryz.prog C base 309 [.yld bl,.ptr bs 0 1 0 0] X0 K:=by
 refine am Tryz.func309 rfl (S.prim _ (by decide)) (by simp) (by kernel_rfl) ?_
 unfold Tryz.f309
 have hb0:=hb 0 X0 h0
 have w0:IntKind.i64.wrap ((l.length:Int)-1)=(l.length:Int)-1:=aK (by omega) (by omega)
 simp [aG,hb0,w0]
 refine az l.length (fun j s X=>s 0=.yld bl∧s 1=.ptr bs 0 1 0 0∧s 3=.int .i64 ((l.length:Int)-1-j)∧I j X) ?_ ?_
 ·exact ⟨rfl,rfl,by simp,h0⟩
 rintro j s X ⟨q0,q1,q3,hI⟩ hj
 by_cases h:j<l.length
 ·obtain ⟨m,hm⟩:∃m,m+j+1=l.length:=⟨l.length-1-j,by omega⟩
  have hmi:(l.length:Int)-1-j=(m:Int):=by omega
  rw [hmi] at q3
  have hml:m<l.length:=by omega
  obtain ⟨X',hI',ey⟩:=aD.ex (hy j m X l[m] hI hm (List.getElem?_eq_getElem hml))
  have w1:IntKind.i64.wrap ((m:Int)-1)=(l.length:Int)-1-((j:Int)+1):=by rw [aK (by omega) (by omega)];omega
  simp [q0,q1,q3,hb j X hI,hml,ey,w1]
  exact ⟨h,hI'⟩
 ·have h':j=l.length:=by omega
  have hneg:(l.length:Int)-1-j = -1:=by omega
  rw [hneg] at q3
  rw [h'] at hI
  simp [q0,q1,q3]
  exact hK X hI
structure FY (C:bG) (base bl bs start N:Nat) (s:List ah) (k:SK) (I:List aH→ag→Prop):Prop where
 app:∀{l:List aH} {X:ag} (L:ag),I l X→I l (X++L)
 set:∀{l:List aH} {X:ag} {b:Nat} {blk:bQ} (x:bQ),I l X→start≤b→X[b]?=some blk→(∀g rs,blk≠.rows 33 g rs)→I l (X.set b x)
 low:∀{l:List aH} {X:ag},I l X→base≤start∧start≤X.length
 src:∀{l:List aH} {X:ag},I l X→ax X bs 0 1 0=some [aw k (s.map ah.cells)]
 yld:∀{l:List aH} {X:ag} (y:aH),I l X→l.length≤N→y.over.length≤2^10→∃X',I (l++[y]) X'∧(∀b blk,start≤b→X[b]?=some blk→(∀g rs,blk≠.rows 33 g rs)→X'[b]?=some blk)∧
  ∀K:AV→ag→Prop,aD Tryz.prog C base (.yld bl) [.agg y.cells] X K=K (.bool true) X'
def qo (σ:aZ) (s:List ah) (L:List ar) (j:Nat):List aH:=((L.reverse.take j).map fun d=>(bj σ (d3 s d.d)).reverse).flatten
theorem EE {s:List ah} {L:List ar} {j m:Nat} {d:ar} (hm:m+j+1=L.length) (hd:L[m]?=some d):qo σ s L (j+1)=qo σ s L j++(bj σ (d3 s d.d)).reverse:=by
 have h:L.reverse[j]?=some d:=by rw [List.getElem?_reverse (by omega),show L.length-1-j=m by omega];exact hd
 unfold qo
 rw [List.take_add_one,h];simp
theorem iT:∀(s:List ah) (n:Nat) (out:List ar) (d:ar),d∈cr σ s n out→d∈out∨∃x∈s,x.id=d
 | s,0,out,d,h=>.inl h
 | s,n+1,out,d,h=>by
  rw [cr] at h
  cases hf:s.find? (sO σ out) with
  | none=>rw [hf] at h;exact .inl h
  | some x =>
   rw [hf] at h
   rcases iT s n _ d h with h | h
   ·rcases List.mem_append.1 h with h | h
    ·exact .inl h
    ·exact .inr ⟨x,List.mem_of_find?_eq_some hf,(List.mem_singleton.1 h).symm⟩
   ·exact .inr h
theorem lK:∀(s:List ah) (n:Nat) (out:List ar),(cr σ s n out).length≤out.length+n
 | s,0,out=>by rw [cr];omega
 | s,n+1,out=>by
  rw [cr]
  cases hf:s.find? (sO σ out) with
  | none=>simp only;omega
  | some x=>simp only;have:=lK s n (out++[x.id]);simp at this;omega
end Go.Proofs.Ev
namespace Go.Proofs.Ev
open Go.Proofs
variable {C:bG} {σ:aZ}
theorem EH (S:cT C σ) (v:AV) (hv:v.leaf=true) (hc:v.cells=[v]) {base:Nat} {H:ag} (K:AV→ag→Prop) :
 aD Tryz.prog C base (.fn 168 []) [v] H K=K (.fn 251 [.ptr H.length 0 1 0 0]) (H++[.rows 1 0 [[v]]]):=by
 refine aD.eq (bn (S.plainT _ (by decide)).1 (S.plainT _ (by decide)).2 (am Tryz.func168 rfl (S.prim _ (by decide)) (by simp) (by kernel_rfl) ?_)) K
 unfold Tryz.f168
 simp [aG,hv,hc]
def I5 (σ:aZ) (s:List ah) (I:List aH→ag→Prop) (bl y0:Nat) (v0:AV) (LB:bQ) (L:List ar) (j:Nat) (X:ag):Prop :=
 I (qo σ s L j) X∧X[y0]?=some (.rows 1 0 [[.yld bl]])∧X[y0+1]?=some (.rows 1 0 [[v0]])∧X[y0+2]?=some LB
def I6 (I:List aH→ag→Prop) (bl y0:Nat) (v0:AV) (BB:bQ) (a0:Nat) (vA:AV) (LB2:bQ) (P A:List aH) (j:Nat) (X:ag):Prop :=
 I (P++A.reverse.take j) X∧X[y0]?=some (.rows 1 0 [[.yld bl]])∧X[y0+1]?=some (.rows 1 0 [[v0]])∧X[y0+2]?=some BB∧X[a0]?=some (.rows 1 0 [[vA]])∧X[a0+1]?=some LB2
theorem EG (S:cT C σ) {s:List ah} {I:List aH→ag→Prop} {base bl bs start N:Nat} {k kL:SK} (Y:FY C base bl bs start N s k I) {L:List ar} (hL:L.length≤2^20) {X0:ag} (h0:I [] X0)
 {l1:List AV} {ps:List Tmp} {asg bd:Code} {nb po:Nat} {X:ag} (hX:X=X0++[.rows 1 0 [[.yld bl]],.rows 1 0 [[aw kL (L.map ar.cells)]]]) (hnb:nb=X0.length+2) (hpo:po=X0.length+1)
 (hy:∀(LB BB:bQ) (_:cL l1 ps asg bd=LB) (_:mZ l1 ps asg bd=BB) (j m:Nat) (X:ag) (d:ar),I5 σ s I bl X0.length (aw kL (L.map ar.cells)) LB L j X→m+j+1=L.length→L[m]?=some d→
  aD Tryz.prog C base (.yld (X0.length+2)) [.int .i64 (m:Int),.agg d.cells] X fun v X'=>v=.bool true∧I5 σ s I bl X0.length (aw kL (L.map ar.cells)) LB L (j+1) X')
 (K:AV→ag→Prop) (hK:∀X,I5 σ s I bl X0.length (aw kL (L.map ar.cells)) (cL l1 ps asg bd) L L.length X→K (.tup []) X) :
 dW Tryz.prog C base 308 [.yld nb,.ptr po 0 1 0 0] (X++[cL l1 ps asg bd]) K:=by
 subst hnb;subst hpo
 refine A3 S (l:=L) (k:=kL) (by omega) (I:=I5 σ s I bl X0.length (aw kL (L.map ar.cells)) (cL l1 ps asg bd) L) ?_ (hy _ _ rfl rfl) ?_ K hK
 ·rintro j X ⟨_,_,h,_⟩
  simp [ax,h]
 ·refine ⟨?_,?_,?_,?_⟩
  ·have:=Y.app [.rows 1 0 [[.yld bl]],.rows 1 0 [[aw kL (L.map ar.cells)]],cL l1 ps asg bd] h0
   rw [hX];simpa [qo] using this
  ·rw [hX];simp
  ·rw [hX];simp
  ·rw [hX];simp
theorem EF (S:cT C σ) {s:List ah} {I:List aH→ag→Prop} {base bl bs start N:Nat} {k kA:SK} (Y:FY C base bl bs start N s k I) {P A:List aH} (hA:A.length≤2^20) {W:ag} {y0:Nat} {v0:AV} {BB:bQ} (h0:I P W) (g0:W[y0]?=some (.rows 1 0 [[.yld bl]])) (g1:W[y0+1]?=some (.rows 1 0 [[v0]])) (g2:W[y0+2]?=some BB)
 {l2:List AV} {ps:List Tmp} {asg bd:Code} {nb po:Nat} {X:ag} {r1 r2:bQ} (hX:X=W++[r1,r2,.rows 1 0 [[aw kA (A.map aH.cells)]]]) (hnb:nb=W.length+3) (hpo:po=W.length+2)
 (hy:∀(LB2 BB2:bQ) (_:cL l2 ps asg bd=LB2) (_:mZ l2 ps asg bd=BB2) (j m:Nat) (X:ag) (x:aH),I6 I bl y0 v0 BB (W.length+2) (aw kA (A.map aH.cells)) LB2 P A j X→m+j+1=A.length→A[m]?=some x→
  aD Tryz.prog C base (.yld (W.length+3)) [.int .i64 (m:Int),.agg x.cells] X fun v X'=>v=.bool true∧I6 I bl y0 v0 BB (W.length+2) (aw kA (A.map aH.cells)) LB2 P A (j+1) X')
 (K:AV→ag→Prop) (hK:∀X,I6 I bl y0 v0 BB (W.length+2) (aw kA (A.map aH.cells)) (cL l2 ps asg bd) P A A.length X→K (.tup []) X) :
 dW Tryz.prog C base 309 [.yld nb,.ptr po 0 1 0 0] (X++[cL l2 ps asg bd]) K:=by
 subst hnb;subst hpo
 have kp:∀{j:Nat} {blk:bQ} (M:ag),W[j]?=some blk→(W++M)[j]?=some blk:=fun M h=>by rw [List.getElem?_append_left (List.getElem?_eq_some_iff.1 h).1];exact h
 refine A2 S (l:=A) (k:=kA) (by omega) (I:=I6 I bl y0 v0 BB (W.length+2) (aw kA (A.map aH.cells)) (cL l2 ps asg bd) P A) ?_ (hy _ _ rfl rfl) ?_ K hK
 ·rintro j X ⟨_,_,_,_,h,_⟩
  simp [ax,h]
 ·refine ⟨?_,?_,?_,?_,?_,?_⟩
  ·have:=Y.app [r1,r2,.rows 1 0 [[aw kA (A.map aH.cells)]],cL l2 ps asg bd] h0
   rw [hX];simpa using this
  ·rw [hX,List.append_assoc];exact kp _ g0
  ·rw [hX,List.append_assoc];exact kp _ g1
  ·rw [hX,List.append_assoc];exact kp _ g2
  ·rw [hX];simp
  ·rw [hX,show W.length+2+1=W.length+3 from rfl,List.append_assoc,bt];rfl
theorem rR (hp:∀l,(σ.i l).Perm l) {p:aC} (h:p.Good):∀x∈bj σ p,x.over.length≤2^10:=by
 intro x hx
 obtain ⟨y,hy,rfl⟩:=List.mem_map.1 hx
 have h1:=h.fit.atomOver y hy
 have h2:(pH σ p.dig y).over=σ.i (y.over.map fun z=>ba z p.dig):=rfl
 rw [h2,(hp _).length_eq,List.length_map];exact h1
theorem zz {s:List ah} (hs:b8 s) {L:List ar} (hL:∀d∈L,jn s d.d=true) (j:Nat):(qo σ s L j).length≤90000*L.length:=by
 have h:=iz (f:=fun d:ar=>(bj σ (d3 s d.d)).reverse) (b:=90000) (l:=L.reverse.take j) fun d hd=>by
  rw [List.length_reverse]
  exact gg (d4 hs (hL d (List.mem_reverse.1 (List.mem_of_mem_take hd)))).1
 have h2:(L.reverse.take j).length≤L.length:=by simp;omega
 have h3:90000*(L.reverse.take j).length≤90000*L.length:=Nat.mul_le_mul_left _ h2
 unfold qo
 omega
set_option maxRecDepth 100000 in
set_option maxHeartbeats 8000000 in
theorem zB (S:cT C σ) {s0:List ah} {k:SK} (hs:b8 s0) (h8:s0.length≤8) {base bl bs start:Nat} {I:List aH→ag→Prop} (Y:FY C base bl bs start (2^20) s0 k I) {X0:ag} (h0:I [] X0) (K:AV→ag→Prop)
 (hK:∀X,I (qo σ s0 (cr σ s0 s0.length []) (cr σ s0 s0.length []).length) X→K (.tup []) X) :
 dW Tryz.prog C base 251 [.yld bl,.ptr bs 0 1 0 0] X0 K:=by
 refine am Tryz.func251 rfl (S.prim _ (by decide)) (by simp) (by kernel_rfl) ?_
 unfold Tryz.f251
 obtain ⟨L,hL⟩:∃L,L=cr σ s0 s0.length []:=⟨_,rfl⟩
 have hLm:∀d∈L,jn s0 d.d=true:=by
  intro d hd
  rw [hL] at hd
  rcases iT s0 _ _ d hd with h | ⟨x,hx,rfl⟩
  ·cases h
  ·unfold jn;rw [List.find?_isSome];exact ⟨x,hx,by simp⟩
 have hLl:L.length≤8:=by rw [hL];have:=lK (σ:=σ) s0 s0.length [];simp at this;omega
 have eo:=(ww S.tobB s0 k hs).eq
 rw [←hL] at eo hK
 obtain ⟨hbst,hstX⟩:=Y.low h0
 obtain ⟨v0,hv0⟩:∃v0,v0=aw (dS L) (L.map ar.cells):=⟨_,rfl⟩
 rw [←hv0] at eo
 have hv0l:v0.leaf=true:=by rw [hv0];simp
 have hv0c:v0.cells=[v0]:=by rw [hv0];simp
 have eb:=fun (H:ag) (K:AV→ag→Prop)=>Gl S v0 hv0l hv0c (base:=base) (H:=H) K
 have hsrc:∀M,ax (X0++M) bs 0 1 0=some [aw k (s0.map ah.cells)]:=fun M=>Y.src (Y.app M h0)
 refine cut (fun s X=>s 1=.ptr bs 0 1 0 0∧s 2=.ptr X0.length 0 1 0 0∧X=X0++[.rows 1 0 [[.yld bl]]]) ?_ ?_
 ·simp [aG]
  exact ⟨by intro x hx;simp only [AV.cells,List.mem_singleton] at hx;subst hx;rfl,rfl,rfl⟩
 rintro s X ⟨q1,q2,rfl⟩
 refine cut (fun s X=>s 1=.ptr bs 0 1 0 0∧s 2=.ptr X0.length 0 1 0 0∧s 13=.fn 308 [.ptr (X0.length+1) 0 1 0 0]∧X=X0++[.rows 1 0 [[.yld bl]],.rows 1 0 [[v0]]]) ?_ ?_
 ·simp [q1,q2,hsrc,eo,eb]
 clear q1 q2
 rintro s X ⟨q1,q2,q13,rfl⟩
 rw [cq,nR]
 refine il (f:=308) (caps:=[.ptr (X0.length+1) 0 1 0 0]) (by simp [q13]) fun l1 hr1=>?_
 refine EG S (s:=s0) Y (kL:=dS L) (L:=L) (by omega) h0 (by rw [hv0]) (by simp) rfl ?_ _ ?_
 rotate_left
 ·rintro X ⟨hI,g0,g1,g2⟩
  have hlen:(X0++[bQ.rows 1 0 [[AV.yld bl]],.rows 1 0 [[v0]]]).length=X0.length+2:=by simp
  rw [hlen,gf g2]
  simp
  exact hK _ (Y.set _ hI (by omega) g2 (by intro g rs h;cases h))
 rw [←hv0]
 intro LB BB hLB hBB j m X d hJ hmj hd
 obtain ⟨hI,g0,g1,g2⟩:=hJ
 have hLr:∀sz g rs,LB≠.rows sz g rs:=by intro sz g rs h;rw [←hLB] at h;cases h
 have hBr:∀sz g rs,BB≠.rows sz g rs:=by intro sz g rs h;rw [←hBB] at h;cases h
 have hXl:X0.length+2<X.length:=(List.getElem?_eq_some_iff.1 g2).1
 have hdm:d∈L:=List.mem_of_getElem? hd
 obtain ⟨hpg,_⟩:=d4 hs (hLm d hdm)
 have eg:=(uE S.tobB s0 k d hs.2.2).eq
 have ea:=(j4 S.tod9 (d3 s0 d.d) hpg).eq
 obtain ⟨p,hp⟩:∃p,p=d3 s0 d.d:=⟨_,rfl⟩
 obtain ⟨A,hA⟩:∃A,A=bj σ p:=⟨_,rfl⟩
 have hsucc:=EE (σ:=σ) (s:=s0) hmj hd
 have hlat:=zz (σ:=σ) hs hLm (j+1)
 rw [←hp] at eg ea hpg hsucc
 rw [←hA] at ea hsucc
 have hAl:A.length≤90000:=by rw [hA];exact gg hpg
 have hAo:∀x∈A,x.over.length≤2^10:=by rw [hA];exact rR S.permI hpg
 obtain ⟨vA,hvA⟩:∃vA,vA=aw .loose (A.map aH.cells):=⟨_,rfl⟩
 have hsl:AV.lst (A.map aH.cells) false=vA:=by rw [hvA];cases A<;>rfl
 rw [hsl] at ea
 have eba:=fun (H:ag) (K:AV→ag→Prop)=>Gk S vA (by rw [hvA];simp) (by rw [hvA];simp) (base:=base) (H:=H) K
 obtain ⟨W,hW⟩:∃W,W=X.set (X0.length+2) BB:=⟨_,rfl⟩
 have hWl:W.length=X.length:=by rw [hW];simp
 have hIW:I (qo σ s0 L j) W:=by rw [hW];exact Y.set BB hI (by omega) g2 (hLr _)
 have hgl:∀M,(X++M)[X0.length+2]?=some LB:=fun M=>by rw [List.getElem?_append_left hXl];exact g2
 have hsl2:∀M,(X++M).set (X0.length+2) BB=W++M:=fun M=>by rw [hW];exact List.set_append_left _ _ hXl
 have hsrcW:∀M,ax (W++M) bs 0 1 0=some [aw k (s0.map ah.cells)]:=fun M=>Y.src (Y.app M hIW)
 have hbX:base≤X.length:=by omega
 have gW0:W[X0.length]?=some (.rows 1 0 [[.yld bl]]):=by rw [hW,List.getElem?_set_ne (by omega)];exact g0
 have gW1:W[X0.length+1]?=some (.rows 1 0 [[v0]]):=by rw [hW,List.getElem?_set_ne (by omega)];exact g1
 have gW2:W[X0.length+2]?=some BB:=by rw [hW,List.getElem?_set_self hXl]
 have hd0:aP.length=32:=by decide
 have h32:d.d.length=32:=d.h
 have hdc:d.cells=dig d.d:=rfl
 have g2':=g2
 rw [←hLB] at g2'
 refine ir hr1 (hget:=g2') (by omega) rfl (by decide) (by kernel_rfl) (by kernel_rfl) ?_
 rw [hLB,hBB]
 have hb32:∀M,ax (W++bQ.rows 32 0 [d.cells]::M) X.length 0 32 0=some d.cells:=fun M=>by rw [←hWl];simp
 have hdr:List.drop 32 (dig aP)=[]:=by decide
 simp [q1,q2,ao,hd0,hdr,hgl,hsl2,hbX,hsrcW,hb32,eg,ea,eba,aE]
 refine ⟨by omega,?_⟩
 refine il (f:=309) (caps:=[.ptr (W.length+2) 0 1 0 0]) (by simp) fun l2 hr2=>?_
 refine EF S (s:=s0) Y (kA:=.loose) (A:=A) (by omega) hIW gW0 gW1 gW2 (by rw [←hvA]) (by simp) rfl ?_ _ ?_
 rotate_left
 ·rintro X3 ⟨hI3,f0,f1,f2,f3,f4⟩
  have hlen:(W++[bQ.rows 32 0 [d.cells],.rows 5 0 [p.cells],.rows 1 0 [[vA]]]).length=W.length+2+1:=by simp
  rw [hlen,gf f4]
  have hI4:=Y.set .dead hI3 (by omega) f4 (by intro g rs h;cases h)
  have hX3:W.length+2+1<X3.length:=(List.getElem?_eq_some_iff.1 f4).1
  have f2':(X3.set (W.length+2+1) .dead)[X0.length+2]?=some BB:=by rw [List.getElem?_set_ne (by omega)];exact f2
  have hI5:=Y.set LB hI4 (by omega) f2' (hBr _)
  rw [←List.length_reverse,List.take_length,←hsucc] at hI5
  simp [f2',hLB]
  refine ⟨rfl,hI5,?_,?_,?_⟩
  ·rw [List.getElem?_set_ne (by omega),List.getElem?_set_ne (by omega)];exact f0
  ·rw [List.getElem?_set_ne (by omega),List.getElem?_set_ne (by omega)];exact f1
  ·rw [List.getElem?_set_self (by simp;omega)]
 rw [←hvA]
 intro LB2 BB2 hLB2 hBB2 j2 m2 X3 x hK2 hm2 hx2
 obtain ⟨hI3,f0,f1,f2,f3,f4⟩:=hK2
 have hL2r:∀sz g rs,LB2≠.rows sz g rs:=by intro sz g rs h;rw [←hLB2] at h;cases h
 have hB2r:∀sz g rs,BB2≠.rows sz g rs:=by intro sz g rs h;rw [←hBB2] at h;cases h
 have hX3l:W.length+2+1<X3.length:=(List.getElem?_eq_some_iff.1 f4).1
 have hxm:x∈A:=List.mem_of_getElem? hx2
 have hrev:A.reverse[j2]?=some x:=by rw [List.getElem?_reverse (by omega),show A.length-1-j2=m2 by omega];exact hx2
 have htk:A.reverse.take (j2+1)=A.reverse.take j2++[x]:=by rw [List.take_add_one,hrev];rfl
 obtain ⟨V,hV⟩:∃V,V=X3.set (W.length+2+1) BB2:=⟨_,rfl⟩
 have hVl:V.length=X3.length:=by rw [hV];simp
 have hIV:I (qo σ s0 L j++A.reverse.take j2) V:=by rw [hV];exact Y.set BB2 hI3 (by omega) f4 (hL2r _)
 have hgl3:∀M,(X3++M)[W.length+2+1]?=some LB2:=fun M=>by rw [List.getElem?_append_left hX3l];exact f4
 have hsl3:∀M,(X3++M).set (W.length+2+1) BB2=V++M:=fun M=>by rw [hV];exact List.set_append_left _ _ hX3l
 have hPl:(qo σ s0 L j++A.reverse.take j2).length≤2^20:=by
  rw [hsucc] at hlat
  simp only [List.length_append,List.length_reverse,List.length_take] at hlat ⊢
  omega
 obtain ⟨X5,hI5,hkeep,ey⟩:=Y.yld x (Y.app [.rows 172 0 [x.cells]] hIV) hPl (hAo x hxm)
 have kV:∀{b:Nat} {blk:bQ},b≠W.length+2+1→X3[b]?=some blk→start≤b→(∀g rs,blk≠.rows 33 g rs)→X5[b]?=some blk:=by
  intro b blk hb hg hst hne
  have hbl:=(List.getElem?_eq_some_iff.1 hg).1
  refine hkeep b blk hst ?_ hne
  rw [List.getElem?_append_left (by omega),hV,List.getElem?_set_ne (Ne.symm hb)];exact hg
 have f4v:X5[W.length+2+1]?=some BB2:=hkeep _ _ (by omega) (by rw [List.getElem?_append_left (by omega),hV,List.getElem?_set_self hX3l]) (hB2r _)
 have hX5l:W.length+2+1<X5.length:=(List.getElem?_eq_some_iff.1 f4v).1
 have fy:∀M,ax (V++M) X0.length 0 1 0=some [.yld bl]:=fun M=>by
  have:V[X0.length]?=some (.rows 1 0 [[.yld bl]]):=by rw [hV,List.getElem?_set_ne (by omega)];exact f0
  exact bH (by simp [ax,this]) M
 have fx:∀M,ax (V++bQ.rows 172 0 [x.cells]::M) X3.length 0 172 0=some x.cells:=fun M=>by rw [←hVl];simp
 have f4':=f4
 rw [←hLB2] at f4'
 refine ir hr2 (hget:=f4') (by omega) rfl (by decide) (by kernel_rfl) (by kernel_rfl) ?_
 rw [hLB2,hBB2]
 have hb3:base≤X3.length:=by omega
 have q2b:X0.length=X0.length:=rfl
 simp [q2,ao,aE,hgl3,hsl3,hb3,fy,fx,ey,f4v,hLB2]
 have hI6:=Y.set LB2 hI5 (by omega) f4v (hB2r _)
 rw [List.append_assoc,←htk] at hI6
 refine ⟨rfl,hI6,?_,?_,?_,?_,?_⟩
 ·rw [List.getElem?_set_ne (by omega)];exact kV (by omega) f0 (by omega) (by intro g rs h;cases h)
 ·rw [List.getElem?_set_ne (by omega)];exact kV (by omega) f1 (by omega) (by intro g rs h;cases h)
 ·rw [List.getElem?_set_ne (by omega)];exact kV (by omega) f2 (by omega) (hBr _)
 ·rw [List.getElem?_set_ne (by omega)];exact kV (by omega) f3 (by omega) (by intro g rs h;cases h)
 ·rw [show W.length+3=W.length+2+1 from rfl,List.getElem?_set_self hX5l]
end Go.Proofs.Ev
namespace Go.Proofs.Ev
open Go.Proofs
variable {C:bG} {σ:aZ}
theorem ct {a b:aI} (h:aF a b=true):a=b:=by
 rw [kF] at h
 cases a;cases b
 simp only at h
 obtain ⟨rfl,rfl⟩:=h
 rfl
theorem Da (x:aI):dq (List.replicate 32 (.int .u8)++[.int .i64]) x.cells=true:=by
 have key:∀(ks:List LK) (cs:List AV),dq ks cs=true→dq (ks++[.int .i64]) (cs++[.int .i64 x.n])=true:=by
  intro ks
  induction ks with
  | nil =>
   intro cs h
   cases cs with
   | nil=>rfl
   | cons _ _=>cases h
  | cons k ks ih =>
   intro cs h
   cases cs with
   | nil=>cases h
   | cons c cs =>
    simp only [dq,Bool.and_eq_true] at h
    simp only [List.cons_append,dq,Bool.and_eq_true]
    exact ⟨h.1,ih cs h.2⟩
 have h1:=gq x.d;rw [x.h] at h1
 exact key _ _ h1
theorem jQ (S:aA C) (x:aI):i8 Tryz.prog C 27 (.agg x.cells)=true:=by
 simp only [i8,Tryz.underlying27,S.kId]
 exact Da x
theorem JJ (S:aA C) (a b:aI):fN Tryz.prog C 27 (.agg a.cells) (.agg b.cells)=some (aF a b):=by
 have h:=jk S a b
 simp only [bU] at h
 simp only [fN]
 cases he:pI Tryz.prog C 27 (.agg a.cells) (.agg b.cells) with
 | none=>rw [he] at h;cases h
 | some z=>rw [he] at h;simpa using h
def cC (l:List (aI×AV)):List (AV×AV):=l.map fun x=>(.agg x.1.cells,x.2)
def eH (l:List (aI×AV)) (d:aI):Option (Nat×AV) :=
 match l with
 | []=>none
 | x::l=>if aF x.1 d then some (0,x.2) else (eH l d).map fun p=>(p.1+1,p.2)
theorem nK (a b:aI):aF a b=aF b a:=by
 rw [Bool.eq_iff_iff,kF,kF]
 exact ⟨fun h=>⟨h.1.symm,h.2.symm⟩,fun h=>⟨h.1.symm,h.2.symm⟩⟩
theorem mn (S:aA C) (d:aI):∀(l:List (aI×AV)) (i:Nat),eh Tryz.prog C 27 (.agg d.cells) (cC l) i=some ((eH l d).map fun p=>(p.1+i,p.2))
 | [],i=>rfl
 | x::l,i=>by
  have ih:=mn S d l (i+1)
  rw [cC,List.map_cons,eh,JJ S,eH,nK d x.1]
  cases h:aF x.1 d with
  | true=>simp
  | false =>
   simp only [Bool.false_eq_true,if_false]
   show eh Tryz.prog C 27 (.agg d.cells) (cC l) (i+1)=_
   rw [ih]
   cases eH l d with
   | none=>rfl
   | some p=>simp;omega
theorem rC:∀{l:List (aI×AV)} {d:aI} {i:Nat} {v:AV},eH l d=some (i,v)→l[i]?=some (d,v)
 | [],_,_,_,h=>by cases h
 | x::l,d,i,v,h=>by
  rw [eH] at h
  cases hs:aF x.1 d with
  | true =>
   rw [hs,if_pos rfl] at h
   cases h
   rw [List.getElem?_cons_zero,←ct hs]
  | false =>
   rw [hs,if_neg (by decide)] at h
   cases hp:eH l d with
   | none=>rw [hp] at h;cases h
   | some p =>
    rw [hp] at h
    cases h
    exact rC (l:=l) hp
def gO (l:List aI) (d:aI):Bool:=l.any fun x=>aF x d
def oQ (l:List aI) (d:aI):List aI:=if gO l d then l else l++[d]
def iY (l:List aI):List (aI×AV):=l.map fun d=>(d,AV.bool true)
theorem xM:∀(l:List aI) (d:aI),(eH (iY l) d).isSome=gO l d∧∀p,eH (iY l) d=some p→p.2=AV.bool true
 | [],d=>by simp [iY,eH,gO]
 | x::l,d=>by
  have ih:=xM l d
  have hc:eH (iY (x::l)) d=if aF x d then some (0,AV.bool true) else (eH (iY l) d).map fun p=>(p.1+1,p.2):=rfl
  rw [hc]
  cases h:aF x d with
  | true=>exact ⟨by simp [gO,h],fun p hp=>by cases hp;rfl⟩
  | false =>
   simp only [Bool.false_eq_true,if_false]
   refine ⟨?_,fun p hp=>?_⟩
   ·rw [Option.isSome_map,ih.1];simp [gO,h]
   ·cases hq:eH (iY l) d with
    | none=>rw [hq] at hp;cases hp
    | some q=>rw [hq] at hp;cases hp;exact ih.2 q hq
theorem un (S:aA C) {X:ag} {m:Nat} {l:List aI} (hm:X[m]?=some (.map (cC (iY l)))) (d:aI):cu Tryz.prog C X 78 (.map m) (.agg d.cells) false=some (.bool (gO l d)):=by
 have hf:=mn S d (iY l) 0
 obtain ⟨h1,h2⟩:=xM l d
 simp only [cu,KK,jQ S,iw,hm,hf,if_true]
 cases hp:eH (iY l) d with
 | none=>rw [hp] at h1;simp at h1;simp [←h1]
 | some p=>rw [hp] at h1;simp at h1;simp [h2 p hp,←h1]
theorem DM (S:aA C) {base:Nat} {X:ag} {m:Nat} {l:List aI} (hb:base≤m) (hm:X[m]?=some (.map (cC (iY l)))) (d:aI) :
 dB Tryz.prog C base X 78 (.map m) (.agg d.cells) (.bool true)=some (X.set m (.map (cC (iY (oQ l d))))):=by
 have hf:=mn S d (iY l) 0
 obtain ⟨h1,h2⟩:=xM l d
 simp only [dB,KK,jQ S,hm,hf,hb,and_self,if_true]
 cases hp:eH (iY l) d with
 | none =>
  rw [hp] at h1
  have h0:gO l d=false:=by simpa using h1.symm
  simp [oQ,h0,cC,iY]
 | some p =>
  rw [hp] at h1
  have h0:gO l d=true:=by simpa using h1.symm
  obtain ⟨i,v⟩:=p
  have h3:=rC hp
  have h4:v=.bool true:=h2 _ hp
  subst h4
  have hent:(cC (iY l)).set i (.agg d.cells,.bool true)=cC (iY l):=by
   have he:(cC (iY l))[i]?=some (.agg d.cells,.bool true):=by rw [cC,List.getElem?_map,h3];rfl
   obtain ⟨hi,he⟩:=List.getElem?_eq_some_iff.1 he
   rw [←he,List.set_getElem_self]
  simp [oQ,h0,hent]
structure KR where
 k:aI
 b:Nat
 g:Nat
 l:List aI
def KR.v (t:KR):AV:=.sl t.b t.g 33 0 t.l.length
def KR.e (t:KR):aI×AV:=(t.k,t.v)
def KR.m (t:KR):aI×List aI:=(t.k,t.l)
def mV (M:List (aI×List aI)) (d y:aI):List (aI×List aI) :=
 match M with
 | []=>[(d,[y])]
 | x::M=>if aF x.1 d then (x.1,x.2++[y])::M else x::mV M d y
def yr (lo:Nat) (T:List KR) (X:ag):Prop:=(∀t∈T,lo≤t.b∧X[t.b]?=some (.rows 33 t.g (t.l.map aI.cells)))∧∀(i j:Nat) (t u:KR),T[i]?=some t→T[j]?=some u→i≠j→t.b≠u.b
theorem yr.keep {lo:Nat} {T:List KR} {X X':ag} (h:yr lo T X) (hX:∀(b g:Nat) (rs:List (List AV)),X[b]?=some (bQ.rows 33 g rs)→X'[b]?=some (bQ.rows 33 g rs)):yr lo T X' :=
 ⟨fun t ht=>⟨(h.1 t ht).1,hX _ _ _ (h.1 t ht).2⟩,h.2⟩
theorem wS {P:Program} {base:Nat} {ts:Array TypeId} {e:TypeId} {xd:TypeDesc} {sz by_:Nat} (h0:(ts[0]?).bind P.underlying=some (.slice e)) (h1:(ts[1]?).bind P.underlying=some xd) (hs:bF P e=some sz) (hb:bytesOf P e=some by_)
 (hz:(aQ P e).map (fun z=>z.cells.length)=some sz) (hp:0<sz) {X:ag} (hX:base≤X.length) {v x:AV} {rows ys:List (List AV)} (hv:(rows=[]∧v=.nils)∨∃b g,v=.sl b g sz 0 rows.length∧X[b]?=some (.rows sz g rows)∧base≤b)
 (hx:cQ X xd x=some ys) (hy:∀r∈ys,r.length=sz) (hne:ys≠[]) (hbound:(rows.length+ys.length)*(by_+1)≤2^45) :
 ∃b g X',bA P base X ts v.denil x=some (.sl b g sz 0 (rows.length+ys.length),X')∧X'[b]?=some (.rows sz g (rows++ys))∧(∀k,k≠b→k<X.length→X'[k]?=X[k]?)∧((∃g' l,v=.sl b g' sz 0 l)∨(v=.nils∧b=X.length))∧base≤b∧X.length≤X'.length:=by
 have hc:(ys.all fun r=>decide (r.length=sz))=true:=by simpa using hy
 unfold bA
 simp only [h0,h1,hs,hb,hx,hc,hp,hz,and_self,if_true]
 rcases hv with ⟨rfl,rfl⟩ | ⟨b,g,rfl,hg,hbb⟩
 ·simp only [AV.denil]
  rw [if_neg (by simpa using hne),if_pos ⟨trivial,by simpa using hbound,by simp⟩]
  refine ⟨X.length,c8 P e sz,_,rfl,by simp,fun k hk hkl=>by rw [List.getElem?_append_left hkl],.inr (by simp),hX,by simp⟩
 ·have hlt:b<X.length:=(List.getElem?_eq_some_iff.1 hg).1
  simp only [AV.denil,hg]
  rw [if_pos ⟨hbb,trivial,trivial,trivial,trivial,hbound⟩]
  exact ⟨b,_,_,rfl,by rw [List.getElem?_set_self hlt],fun k hk _=>by rw [List.getElem?_set_ne (Ne.symm hk)],.inl ⟨_,_,rfl⟩,hbb,by simp⟩
end Go.Proofs.Ev
namespace Go.Proofs.Ev
open Go.Proofs
variable {C:bG} {σ:aZ}
theorem vC {d y:aI} {b g:Nat}:∀{T:List KR} {i:Nat} {v:AV} {t:KR},eH (T.map KR.e) d=some (i,v)→T[i]?=some t→mV (T.map KR.m) d y=(T.set i ⟨d,b,g,t.l++[y]⟩).map KR.m
 | [],i,v,t,h,_=>by cases h
 | x::T,i,v,t,h,ht=>by
  have hc:eH ((x::T).map KR.e) d=if aF x.k d then some (0,x.v) else (eH (T.map KR.e) d).map fun p=>(p.1+1,p.2):=rfl
  have ha:mV ((x::T).map KR.m) d y=if aF x.k d then (x.k,x.l++[y])::T.map KR.m else x.m::mV (T.map KR.m) d y:=rfl
  rw [hc] at h
  rw [ha]
  cases hs:aF x.k d with
  | true =>
   rw [hs,if_pos rfl] at h
   cases h
   rw [List.getElem?_cons_zero] at ht
   cases ht
   rw [if_pos rfl,List.set_cons_zero,List.map_cons,ct hs];rfl
  | false =>
   rw [hs,if_neg (by decide)] at h
   rw [if_neg (by decide)]
   cases hp:eH (T.map KR.e) d with
   | none=>rw [hp] at h;cases h
   | some p =>
    rw [hp] at h
    cases h
    rw [List.getElem?_cons_succ] at ht
    rw [vC (b:=b) (g:=g) hp ht,List.set_cons_succ,List.map_cons]
theorem vB {d y:aI}:∀{T:List KR},eH (T.map KR.e) d=none→mV (T.map KR.m) d y=T.map KR.m++[(d,[y])]
 | [],_=>rfl
 | x::T,h=>by
  have hc:eH ((x::T).map KR.e) d=if aF x.k d then some (0,x.v) else (eH (T.map KR.e) d).map fun p=>(p.1+1,p.2):=rfl
  have ha:mV ((x::T).map KR.m) d y=if aF x.k d then (x.k,x.l++[y])::T.map KR.m else x.m::mV (T.map KR.m) d y:=rfl
  rw [hc] at h
  rw [ha]
  cases hs:aF x.k d with
  | true=>rw [hs,if_pos rfl] at h;cases h
  | false =>
   rw [hs,if_neg (by decide)] at h
   rw [if_neg (by decide),vB (by simpa using h)];rfl
structure KB (base lo b1 m1 b2 m2 n:Nat) (R:List aI) (M:List (aI×List aI)) (V:ag):Prop where
 p1:ax V b1 0 1 0=some [.map m1]
 r:V[m1]?=some (.map (cC (iY R)))
 p2:ax V b2 0 1 0=some [.map m2]
 o:∃T:List KR,V[m2]?=some (.map (cC (T.map KR.e)))∧T.map KR.m=M∧yr lo T V∧∀t∈T,t.l.length≤n
 ne:m1≠m2
 low:base≤m1∧base≤m2∧base≤lo∧lo≤V.length∧b1<lo∧m1<lo∧b2<lo∧m2<lo
theorem l6 {X X':ag} {b:Nat} {r:List AV} (h:ax X b 0 1 0=some r) (hk:∀blk,X[b]?=some blk→(∀g rs,blk≠bQ.rows 33 g rs)→X'[b]?=some blk):ax X' b 0 1 0=some r:=by
 unfold ax at h ⊢
 cases hb:X[b]? with
 | none=>rw [hb] at h;cases h
 | some blk =>
  rw [hb] at h
  cases blk with
  | rows e g rs =>
   simp only at h
   split at h
   ·rename_i hc
    obtain ⟨rfl,rfl⟩:=hc
    rw [hk _ hb (by intro g' rs' h';cases h')]
    simpa using h
   ·cases h
  | _=>cases h
theorem KB.keep {base lo b1 m1 b2 m2 n:Nat} {R:List aI} {M:List (aI×List aI)} {V V':ag} (h:KB base lo b1 m1 b2 m2 n R M V) (hl:V.length≤V'.length) (h1:∀b blk,b<lo→V[b]?=some blk→(b=b1∨b=m1∨b=b2∨b=m2)→V'[b]?=some blk)
 (h2:∀(b g:Nat) (rs:List (List AV)),V[b]?=some (bQ.rows 33 g rs)→V'[b]?=some (bQ.rows 33 g rs)):KB base lo b1 m1 b2 m2 n R M V':=by
 obtain ⟨a1,a2,a3,⟨T,t1,t2,t3,t4⟩,a5,a6,a7,a8,a9,c1,c2,c3,c4⟩:=h
 exact ⟨l6 a1 fun blk hb _=>h1 _ _ c1 hb (.inl rfl),h1 _ _ c2 a2 (.inr (.inl rfl)),l6 a3 fun blk hb _=>h1 _ _ c3 hb (.inr (.inr (.inl rfl))),⟨T,h1 _ _ c4 t1 (.inr (.inr (.inr rfl))),t2,t3.keep h2,t4⟩,a5,a6,a7,a8,by omega,c1,c2,c3,c4⟩
theorem KB.app {base lo b1 m1 b2 m2 n:Nat} {R:List aI} {M:List (aI×List aI)} {V:ag} (h:KB base lo b1 m1 b2 m2 n R M V) (L:ag):KB base lo b1 m1 b2 m2 n R M (V++L) :=
 h.keep (by simp) (fun b blk _ hb _=>by rw [List.getElem?_append_left (List.getElem?_eq_some_iff.1 hb).1];exact hb) fun b g rs hb=>by rw [List.getElem?_append_left (List.getElem?_eq_some_iff.1 hb).1];exact hb
set_option maxHeartbeats 2000000 in
theorem JK (S:aA C) {base lo b1 m1 b2 m2 n:Nat} {R:List aI} {M:List (aI×List aI)} {X V:ag} {B:bQ} (h:KB base lo b1 m1 b2 m2 n R M X) (hV:V=X++[B]) (hn:n≤2^32) (d y:aI) :
 ∃v i V1 sl V2 V3,gE Tryz.prog C base V 203 (.map m2) (.agg d.cells)=some (.tup [v,.int .i64 i],V1)∧bA Tryz.prog base V1 #[57,57] v.denil (.lst [y.cells] true)=some (sl,V2)∧
  gt base V2 (.map m2) (.int .i64 i) sl=some V3∧KB base lo b1 m1 b2 m2 (n+1) R (mV M d y) V3∧(∀b blk,b≠m2→V[b]?=some blk→(∀g rs,blk≠bQ.rows 33 g rs)∨b=X.length∨b<lo→V3[b]?=some blk)∧V.length≤V3.length:=by
 obtain ⟨a1,a2,a3,⟨T,t1,t2,t3,t4⟩,a5,a6,a7,a8,a9,c1,c2,c3,c4⟩:=h
 have oldX:∀t∈T,t.b<X.length:=fun t ht=>(List.getElem?_eq_some_iff.1 (t3.1 t ht).2).1
 have up:∀{b:Nat} {blk:bQ},X[b]?=some blk→V[b]?=some blk:=fun h=>by rw [hV,List.getElem?_append_left (List.getElem?_eq_some_iff.1 h).1];exact h
 replace a1:=by have:=bH a1 [B];rw [←hV] at this;exact this
 replace a3:=by have:=bH a3 [B];rw [←hV] at this;exact this
 replace a2:=up a2
 replace t1:=up t1
 replace t3:=t3.keep (X':=V) fun b g rs h=>up h
 have hVl:V.length=X.length+1:=by rw [hV];simp
 replace a9:lo≤V.length:=by omega
 have hmV:m2<V.length:=(List.getElem?_eq_some_iff.1 t1).1
 have hf:=mn S d (T.map KR.e) 0
 have hy:∀r∈[y.cells],r.length=33:=by simp
 cases hp:eH (T.map KR.e) d with
 | none =>
  rw [hp] at hf
  have hme:gE Tryz.prog C base V 203 (.map m2) (.agg d.cells)=some (.tup [.nils,.int .i64 (T.length:Int)],V.set m2 (.map (cC (T.map KR.e)++[(.agg d.cells,.nils)]))):=by
   simp only [gE,IL,jQ S,t1,hf,a7,and_self,if_true,Option.map_none]
   simp [cC]
  obtain ⟨b,g,V2,ha,hb,hk,hd,hbb,hl⟩:=wS (P:=Tryz.prog) (base:=base) (ts:=#[57,57]) (e:=27) (xd:=.slice 27) (X:=V.set m2 (.map (cC (T.map KR.e)++[(.agg d.cells,.nils)]))) (v:=.nils) (rows:=[]) (x:=.lst [y.cells] true) (ys:=[y.cells])
   (by simp) (by simp) jS A7 (by simp) (by decide) (by simp;omega) (.inl ⟨rfl,rfl⟩) rfl hy (by simp) (by simp)
  have hbl:b=V.length:=by
   rcases hd with ⟨_,_,hd⟩ | hd
   ·cases hd
   ·simpa using hd.2
  subst hbl
  have hm2:V2[m2]?=some (.map (cC (T.map KR.e)++[(.agg d.cells,.nils)])):=by rw [hk m2 (by omega) (by simpa using hmV),List.getElem?_set_self hmV]
  have hm2l:m2<V2.length:=(List.getElem?_eq_some_iff.1 hm2).1
  have hl2:V.length≤V2.length:=by simpa using hl
  have hkeep:∀b blk,b≠m2→V[b]?=some blk→(V2.set m2 (.map (cC ((T++[KR.mk d V.length g [y]]).map KR.e))))[b]?=some blk:=fun b blk hbm hbv=>by
   have hbl:=(List.getElem?_eq_some_iff.1 hbv).1
   rw [List.getElem?_set_ne (Ne.symm hbm),hk b (by omega) (by simpa using hbl),List.getElem?_set_ne (Ne.symm hbm)];exact hbv
  refine ⟨_,_,_,_,V2,V2.set m2 (.map (cC ((T++[KR.mk d V.length g [y]]).map KR.e))),hme,ha,?_,⟨l6 a1 fun blk hb _=>hkeep _ _ (fun h=>by rw [h] at hb;rw [h] at a1;simp [ax,t1] at a1) hb,hkeep _ _ a5 a2,l6 a3 fun blk hb _=>hkeep _ _ (fun h=>by rw [h] at a3;simp [ax,t1] at a3) hb,⟨T++[KR.mk d V.length g [y]],by rw [List.getElem?_set_self hm2l],?_,⟨?_,?_⟩,?_⟩,a5,a6,a7,a8,by simp;omega,c1,c2,c3,c4⟩,fun b blk hbm hbv _=>hkeep b blk hbm hbv,by simpa using hl2⟩
  ·simp only [gt,a7,hm2]
   simp [cC,KR.e,KR.v]
  ·rw [←t2,vB hp,List.map_append];rfl
  ·intro t ht
   rcases List.mem_append.1 ht with ht | ht
   ·obtain ⟨h1,h2⟩:=t3.1 t ht
    exact ⟨h1,hkeep _ _ (fun h=>by rw [h,t1] at h2;cases h2) h2⟩
   ·rw [List.mem_singleton] at ht
    subst ht
    refine ⟨a9,?_⟩
    rw [List.getElem?_set_ne (by show m2≠V.length;omega)];exact hb
  ·intro i j t u hi hj hij
   have old:∀(i:Nat) (t:KR),T[i]?=some t→t.b<V.length:=fun i t ht=>(List.getElem?_eq_some_iff.1 (t3.1 t (List.mem_of_getElem? ht)).2).1
   rcases Nat.lt_or_ge i T.length with hi' | hi'<;>rcases Nat.lt_or_ge j T.length with hj' | hj'
   ·rw [List.getElem?_append_left hi'] at hi;rw [List.getElem?_append_left hj'] at hj;exact t3.2 i j t u hi hj hij
   ·rw [List.getElem?_append_left hi'] at hi;rw [List.getElem?_append_right hj'] at hj
    have:=old i t hi
    cases hjj:j-T.length with
    | zero=>rw [hjj] at hj;cases hj;simp only;omega
    | succ q=>rw [hjj] at hj;cases hj
   ·rw [List.getElem?_append_right hi'] at hi;rw [List.getElem?_append_left hj'] at hj
    have:=old j u hj
    cases hii:i-T.length with
    | zero=>rw [hii] at hi;cases hi;simp only;omega
    | succ q=>rw [hii] at hi;cases hi
   ·have h1:=(List.getElem?_eq_some_iff.1 hi).1
    have h2:=(List.getElem?_eq_some_iff.1 hj).1
    simp at h1 h2;omega
  ·intro t ht
   rcases List.mem_append.1 ht with ht | ht
   ·have:=t4 t ht;omega
   ·rw [List.mem_singleton] at ht;subst ht;simp
 | some p =>
  obtain ⟨i,v⟩:=p
  rw [hp] at hf
  have hTi:=rC hp
  rw [List.getElem?_map] at hTi
  cases htt:T[i]? with
  | none=>rw [htt] at hTi;cases hTi
  | some t =>
   rw [htt] at hTi
   have hte:t.e=(d,v):=by simpa using hTi
   have htk:t.k=d:=congrArg Prod.fst hte
   have htv:t.v=v:=congrArg Prod.snd hte
   have hil:i<T.length:=(List.getElem?_eq_some_iff.1 htt).1
   have htm:=List.mem_of_getElem? htt
   obtain ⟨s1,s2⟩:=t3.1 t htm
   have hent:(cC (T.map KR.e)).set i (.agg d.cells,v)=cC (T.map KR.e):=by
    have he:(cC (T.map KR.e))[i]?=some (.agg d.cells,v):=by rw [cC,List.getElem?_map,List.getElem?_map,htt];simp [hte]
    obtain ⟨hi,he⟩:=List.getElem?_eq_some_iff.1 he
    rw [←he,List.set_getElem_self]
   have hme:gE Tryz.prog C base V 203 (.map m2) (.agg d.cells)=some (.tup [v,.int .i64 (i:Int)],V.set m2 (.map (cC (T.map KR.e)))):=by
    simp only [gE,IL,jQ S,t1,hf,a7,and_self,if_true,Option.map_some,Nat.add_zero,hent]
   have hVs:V.set m2 (.map (cC (T.map KR.e)))=V:=by
    obtain ⟨hi,he⟩:=List.getElem?_eq_some_iff.1 t1
    rw [←he,List.set_getElem_self]
   rw [hVs] at hme
   have hll:=t4 t htm
   obtain ⟨b,g,V2,ha,hb,hk,hd,hbb,hl⟩:=wS (P:=Tryz.prog) (base:=base) (ts:=#[57,57]) (e:=27) (xd:=.slice 27) (X:=V) (v:=v) (rows:=t.l.map aI.cells) (x:=.lst [y.cells] true) (ys:=[y.cells])
    (by simp) (by simp) jS A7 (by simp) (by decide) (by omega) (.inr ⟨t.b,t.g,by rw [←htv,KR.v,List.length_map],s2,by omega⟩) rfl hy (by simp) (by simp;omega)
   have hbt:b=t.b:=by
    rcases hd with ⟨_,_,hd⟩ | hd
    ·rw [←htv,KR.v] at hd;cases hd;rfl
    ·rw [←htv] at hd;cases hd.1
   subst hbt
   have hmb:m2≠t.b:=fun h=>by rw [←h,t1] at s2;cases s2
   have hm2:V2[m2]?=some (.map (cC (T.map KR.e))):=by rw [hk m2 hmb hmV];exact t1
   have hm2l:m2<V2.length:=(List.getElem?_eq_some_iff.1 hm2).1
   have hes:(cC (T.map KR.e))[i]?=some (.agg d.cells,v):=by rw [cC,List.getElem?_map,List.getElem?_map,htt];simp [hte]
   obtain ⟨t',ht'⟩:∃t',t'=KR.mk d t.b g (t.l++[y]):=⟨_,rfl⟩
   have htb:t'.b=t.b:=by rw [ht']
   have hen:(cC (T.map KR.e)).set i (.agg d.cells,.sl t.b g 33 0 ((t.l.map aI.cells).length+[y.cells].length))=cC ((T.set i t').map KR.e):=by
    rw [ht',List.map_set,cC,cC,List.map_set]
    simp [KR.e,KR.v]
   have hkeep:∀b blk,b≠m2→V[b]?=some blk→(∀g rs,blk≠bQ.rows 33 g rs)∨b=X.length∨b<lo→(V2.set m2 (.map (cC ((T.set i t').map KR.e))))[b]?=some blk:=fun b blk hbm hbv hne=>by
    have hbl:=(List.getElem?_eq_some_iff.1 hbv).1
    have hbt:b≠t.b:=fun h=>by
     rcases hne with hne | hne | hne
     ·rw [h,s2] at hbv;cases hbv;exact hne _ _ rfl
     ·have:=oldX t htm;omega
     ·omega
    rw [List.getElem?_set_ne (Ne.symm hbm),hk b hbt hbl];exact hbv
   have hne1:b1≠m2:=fun h=>by rw [h] at a1;simp [ax,t1] at a1
   have hne2:b2≠m2:=fun h=>by rw [h] at a3;simp [ax,t1] at a3
   refine ⟨_,_,_,_,V2,V2.set m2 (.map (cC ((T.set i t').map KR.e))),hme,ha,?_,⟨l6 a1 fun blk hb hn=>hkeep _ _ hne1 hb (.inl hn),hkeep _ _ a5 a2 (.inl (by intro g rs h;cases h)),l6 a3 fun blk hb hn=>hkeep _ _ hne2 hb (.inl hn),⟨T.set i t',by rw [List.getElem?_set_self hm2l],?_,⟨?_,?_⟩,?_⟩,a5,a6,a7,a8,by simp;omega,c1,c2,c3,c4⟩,fun b blk hbm hbv hn=>hkeep b blk hbm hbv hn,by simpa using hl⟩
   ·simp only [gt,a7,hm2]
    rw [if_pos ⟨trivial,by omega⟩]
    simp only [Int.toNat_natCast,hes,hen]
   ·rw [←t2,vC (b:=t.b) (g:=g) hp htt,ht']
   ·intro u hu
    obtain ⟨j,hj,rfl⟩:=List.getElem_of_mem hu
    by_cases hij:i=j
    ·subst hij
     rw [List.getElem_set_self,htb]
     refine ⟨s1,?_⟩
     rw [List.getElem?_set_ne hmb,hb,ht'];simp
    ·rw [List.getElem_set_ne hij]
     have hjl:j<T.length:=by simpa using hj
     obtain ⟨u1,u2⟩:=t3.1 T[j] (List.getElem_mem hjl)
     have hub:=t3.2 j i T[j] t (List.getElem?_eq_getElem hjl) htt (Ne.symm hij)
     refine ⟨u1,?_⟩
     rw [List.getElem?_set_ne (fun h=>by rw [←h,t1] at u2;cases u2),hk _ hub (List.getElem?_eq_some_iff.1 u2).1];exact u2
   ·intro j1 j2 u w hj1 hj2 hne
    have get:∀(j:Nat) (u:KR),(T.set i t')[j]?=some u→∃u':KR,T[j]?=some u'∧u'.b=u.b:=by
     intro j u hj
     by_cases hij:i=j
     ·subst hij
      rw [List.getElem?_set_self hil] at hj
      cases hj
      exact ⟨t,htt,htb.symm⟩
     ·rw [List.getElem?_set_ne hij] at hj
      exact ⟨u,hj,rfl⟩
    obtain ⟨u',hu1,hu2⟩:=get j1 u hj1
    obtain ⟨w',hw1,hw2⟩:=get j2 w hj2
    rw [←hu2,←hw2]
    exact t3.2 j1 j2 u' w' hu1 hw1 hne
   ·intro u hu
    rcases List.mem_or_eq_of_mem_set hu with hu | rfl
    ·have:=t4 u hu;omega
    ·rw [ht'];simp;omega
end Go.Proofs.Ev
namespace Go.Proofs.Ev
open Go.Proofs
variable {C:bG} {σ:aZ}
section
variable {P:Program} {base:Nat} (d:Option Tmp) (ty:TypeId) (pos:String) (af:Array Edge) (g:Option (Nat×Bool)) (s:Sl) (H:ag) (K:AV→ag→Prop)
@[simp ↓] theorem Ll (t:TypeId) (m k:Operand):dH P C base ⟨d,.mapEntry t m k,ty,pos,af,g⟩ s H K=qi (gE P C base H t (bX s m) (bX s k)) K:=Eq.trans rfl rfl
@[simp ↓] theorem I0 (t:TypeId) (m k x:Operand):dH P C base ⟨d,.entryStore t m k x,ty,pos,af,g⟩ s H K=vj (gt base H (bX s m) (bX s k) (bX s x)) K:=by rw [←nY];rfl
end
abbrev KS:=List aI×List (aI×List aI)
def jD (x:aH) (a:KS) (d:aI):KS:=(if x.kind=7 then oQ a.1 d else a.1,mV a.2 d x.id)
def jd (a:KS) (x:aH):KS:=if gO a.1 x.id then a else x.over.foldl (jD x) a
def qn (σ:aZ) (s:List ah):KS:=(qo σ s (cr σ s s.length []) (cr σ s s.length []).length).foldl jd ([],[])
theorem KB.more {base lo b1 m1 b2 m2 n n':Nat} {R:List aI} {M:List (aI×List aI)} {V:ag} (h:KB base lo b1 m1 b2 m2 n R M V) (hn:n≤n'):KB base lo b1 m1 b2 m2 n' R M V:=by
 obtain ⟨a1,a2,a3,⟨T,t1,t2,t3,t4⟩,a5,a6⟩:=h
 exact ⟨a1,a2,a3,⟨T,t1,t2,t3,fun t ht=>Nat.le_trans (t4 t ht) hn⟩,a5,a6⟩
theorem KB.setO {base lo b1 m1 b2 m2 n b:Nat} {R:List aI} {M:List (aI×List aI)} {V:ag} {blk:bQ} (x:bQ) (h:KB base lo b1 m1 b2 m2 n R M V) (hb:V[b]?=some blk) (hn:∀g rs,blk≠bQ.rows 33 g rs) (hne:b≠b1∧b≠m1∧b≠b2∧b≠m2):KB base lo b1 m1 b2 m2 n R M (V.set b x):=by
 refine h.keep (by simp) (fun b' blk' _ hb' hc=>?_) fun b' g rs hb'=>?_
 ·rw [List.getElem?_set_ne (by omega)];exact hb'
 ·rw [List.getElem?_set_ne]
  ·exact hb'
  ·rintro rfl
   rw [hb] at hb'
   exact hn _ _ (Option.some.inj hb')
theorem KB.ret {base lo b1 m1 b2 m2 n:Nat} {R:List aI} {M:List (aI×List aI)} {V:ag} (h:KB base lo b1 m1 b2 m2 n R M V) (d:aI):KB base lo b1 m1 b2 m2 n (oQ R d) M (V.set m1 (.map (cC (iY (oQ R d))))):=by
 obtain ⟨a1,a2,a3,⟨T,t1,t2,t3,t4⟩,a5,a6,a7,a8,a9,c1,c2,c3,c4⟩:=h
 have hm1:m1<V.length:=(List.getElem?_eq_some_iff.1 a2).1
 refine ⟨pY a1 a2,by rw [List.getElem?_set_self hm1],pY a3 a2,⟨T,by rw [List.getElem?_set_ne a5];exact t1,t2,t3.keep fun b g rs hb=>?_,t4⟩,a5,a6,a7,a8,by simpa using a9,c1,c2,c3,c4⟩
 rw [List.getElem?_set_ne]
 ·exact hb
 ·rintro rfl
  rw [a2] at hb;cases hb
def KI (H0:ag) (base lo b1 m1 b2 m2 bl bs:Nat) (LB:bQ) (v:AV) (l:List aH) (V:ag):Prop :=
 KB base lo b1 m1 b2 m2 (2^10*l.length) (l.foldl jd ([],[])).1 (l.foldl jd ([],[])).2 V∧V[bl]?=some LB∧ax V bs 0 1 0=some [v]∧∀(b:Nat) (blk:bQ),H0[b]?=some blk→V[b]?=some blk
theorem BU (S:cT C σ) {s0:List ah} {k:SK} (hs:b8 s0) (h8:s0.length≤8) {H0:ag} {base lo b1 m1 b2 m2 bl bs nb po:Nat} {l1:List AV} {ps:List Tmp} {asg bd:Code} {X:ag} (hnb:nb=bl) (hpo:po=bs)
 (hd:b1<bl∧m1<bl∧b2<bl∧m2<bl∧bs<bl∧bl<lo∧H0.length≤bl)
 (hy:∀(LB BB:bQ) (_:cL l1 ps asg bd=LB) (_:mZ l1 ps asg bd=BB) {l:List aH} {V:ag} (y:aH),KI H0 base lo b1 m1 b2 m2 bl bs LB (aw k (s0.map ah.cells)) l V→l.length≤2^20→y.over.length≤2^10→
  aD Tryz.prog C base (.yld bl) [.agg y.cells] V fun v V'=>v=.bool true∧KI H0 base lo b1 m1 b2 m2 bl bs LB (aw k (s0.map ah.cells)) (l++[y]) V'∧∀b blk,lo≤b→V[b]?=some blk→(∀g rs,blk≠bQ.rows 33 g rs)→V'[b]?=some blk)
 (h0:KI H0 base lo b1 m1 b2 m2 bl bs (cL l1 ps asg bd) (aw k (s0.map ah.cells)) [] (X++[cL l1 ps asg bd])) (K:AV→ag→Prop)
 (hK:∀V,KB base lo b1 m1 b2 m2 (2^30) (qn σ s0).1 (qn σ s0).2 V→V[bl]?=some (cL l1 ps asg bd)→(∀(b:Nat) (blk:bQ),H0[b]?=some blk→V[b]?=some blk)→K (.tup []) V) :
 dW Tryz.prog C base 251 [.yld nb,.ptr po 0 1 0 0] (X++[cL l1 ps asg bd]) K:=by
 subst hnb;subst hpo
 have hLm:∀d∈cr σ s0 s0.length [],jn s0 d.d=true:=by
  intro d hd
  rcases iT s0 _ _ d hd with h | ⟨x,hx,rfl⟩
  ·cases h
  ·unfold jn;rw [List.find?_isSome];exact ⟨x,hx,by simp⟩
 have hll:(cr σ s0 s0.length []).length≤8:=by have:=lK (σ:=σ) s0 s0.length [];simp at this;omega
 refine zB S (k:=k) hs h8 (start:=lo) (I:=KI H0 base lo b1 m1 b2 m2 nb po (cL l1 ps asg bd) (aw k (s0.map ah.cells))) ⟨?_,?_,?_,?_,?_⟩ h0 K ?_
 ·rintro l V L ⟨h1,h2,h3,h4⟩
  exact ⟨h1.app L,by rw [List.getElem?_append_left (List.getElem?_eq_some_iff.1 h2).1];exact h2,bH h3 L,fun b blk hb=>by have:=h4 b blk hb;rw [List.getElem?_append_left (List.getElem?_eq_some_iff.1 this).1];exact this⟩
 ·rintro l V b blk x ⟨h1,h2,h3,h4⟩ hb hg hn
  refine ⟨h1.setO x hg hn (by omega),by rw [List.getElem?_set_ne (by omega)];exact h2,?_,fun b' blk' hb'=>by have:=(List.getElem?_eq_some_iff.1 hb').1;rw [List.getElem?_set_ne (by omega)];exact h4 b' blk' hb'⟩
  unfold ax at h3 ⊢
  rw [List.getElem?_set_ne (by omega)];exact h3
 ·rintro l V ⟨h1,_,_⟩
  exact ⟨h1.low.2.2.1,h1.low.2.2.2.1⟩
 ·rintro l V ⟨_,_,h3,_⟩
  exact h3
 ·intro l V y h hl ho
  obtain ⟨V',⟨h1,h2⟩,e⟩:=aD.ex (hy _ _ rfl rfl y h hl ho)
  exact ⟨V',h1,h2,e⟩
 ·rintro V ⟨h1,h2,_,h4⟩
  have hlat:=zz (σ:=σ) hs hLm (cr σ s0 s0.length []).length
  exact hK V (h1.more (by omega)) h2 h4
set_option maxRecDepth 100000 in
set_option maxHeartbeats 8000000 in
theorem BV (S:cT C σ) {s0:List ah} {k:SK} (hs:b8 s0) (h8:s0.length≤8) {base:Nat} {H:ag} (hb:base≤H.length) :
 ∃V T,V[H.length+2]?=some (.map (cC (T.map KR.e)))∧T.map KR.m=(qn σ s0).2∧yr (H.length+6) T V∧(∀t∈T,t.l.length≤2^30)∧(∀(b:Nat) (blk:bQ),H[b]?=some blk→V[b]?=some blk)∧∀K:AV→ag→Prop,aD Tryz.prog C base (.fn 107 []) [aw k (s0.map ah.cells)] H K=K (.map (H.length+2)) V:=by
 suffices h:aD Tryz.prog C base (.fn 107 []) [aw k (s0.map ah.cells)] H (fun v' V=>v'=.map (H.length+2)∧∃T:List KR,V[H.length+2]?=some (.map (cC (T.map KR.e)))∧T.map KR.m=(qn σ s0).2∧yr (H.length+6) T V∧(∀t∈T,t.l.length≤2^30)∧∀(b:Nat) (blk:bQ),H[b]?=some blk→V[b]?=some blk) by
  obtain ⟨n,v1,V,h1,rfl,T,h2,h3,h4,h5,h6⟩:=h
  exact ⟨V,T,h2,h3,h4,h5,h6,fun K=>aD.eq ⟨n,_,_,h1,rfl,rfl⟩ K⟩
 refine bn (S.plainT _ (by decide)).1 (S.plainT _ (by decide)).2 (am Tryz.func107 rfl (S.prim _ (by decide)) (by simp) (by kernel_rfl) ?_)
 unfold Tryz.f107
 obtain ⟨v,hv⟩:∃v,v=aw k (s0.map ah.cells):=⟨_,rfl⟩
 have hvl:v.leaf=true:=by rw [hv];simp
 have hvc:v.cells=[v]:=by rw [hv];simp
 have el:=fun (X:ag) (K:AV→ag→Prop)=>EH S v hvl hvc (base:=base) (H:=X) K
 rw [←hv]
 refine cut (fun s X=>s 0=v∧X=H) ?_ ?_
 ·simp [aG]
 rintro s X ⟨q0,rfl⟩
 have hnm1:AV.nilm.cells.length=1:=rfl
 have hnm2:AV.nilm.cells.tail=[]:=rfl
 have hb1:base≤X.length+1:=by omega
 have hb3:base≤X.length+3:=by omega
 refine cut (fun s X'=>s 0=v∧s 3=.ptr (X.length+1) 0 1 0 0∧X'=X++[.map [],.rows 1 0 [[.map X.length]]]) ?_ ?_
 ·simp [q0,ao,hnm1,hnm2,hb1]
 rintro s X' ⟨q0,q3,rfl⟩
 refine cut (fun s X'=>s 0=v∧s 3=.ptr (X.length+1) 0 1 0 0∧s 4=.ptr (X.length+3) 0 1 0 0∧X'=X++[.map [],.rows 1 0 [[.map X.length]],.map [],.rows 1 0 [[.map (X.length+2)]]]) ?_ ?_
 ·simp [q0,q3,ao,hnm1,hnm2,hb3]
 rintro s X' ⟨q0,q3,q4,rfl⟩
 refine cut (fun s V=>∃b2:Nat,ax V b2 0 1 0=some [.map (X.length+2)]∧s 4=.ptr b2 0 1 0 0∧∃T:List KR,V[X.length+2]?=some (.map (cC (T.map KR.e)))∧T.map KR.m=(qn σ s0).2∧yr (X.length+6) T V∧(∀t∈T,t.l.length≤2^30)∧∀(b:Nat) (blk:bQ),X[b]?=some blk→V[b]?=some blk) ?_ ?_
 rotate_left
 ·rintro s V ⟨b2,h1,q4,T,h2,h3,h4,h5,h6⟩
  simp [q4,h1]
  exact ⟨T,h2,h3,h4,h5,h6⟩
 refine cut (fun s X'=>s 3=.ptr (X.length+1) 0 1 0 0∧s 4=.ptr (X.length+3) 0 1 0 0∧s 11=.fn 251 [.ptr (X.length+4) 0 1 0 0]∧X'=X++[.map [],.rows 1 0 [[.map X.length]],.map [],.rows 1 0 [[.map (X.length+2)]],.rows 1 0 [[v]]]) ?_ ?_
 ·simp [q0,q3,q4,el]
 clear q0 q3 q4
 rintro s X' ⟨q3,q4,q11,rfl⟩
 rw [cq,nR]
 refine il (f:=251) (caps:=[.ptr (X.length+4) 0 1 0 0]) (by simp [q11]) fun l1 hr1=>?_
 refine BU S (k:=k) (H0:=X) (base:=base) (lo:=X.length+6) (b1:=X.length+1) (m1:=X.length) (b2:=X.length+3) (m2:=X.length+2) (bl:=X.length+5) (bs:=X.length+4) hs h8 (by simp) rfl (by omega) ?_ ?_ _ ?_
 ·rw [←hv]
  rintro LB BB hLB hBB l V y ⟨hKB,hbl,hbs,hlo⟩ hl ho
  have hLr:∀sz g rs,LB≠.rows sz g rs:=by intro sz g rs h;rw [←hLB] at h;cases h
  have hBr:∀sz g rs,BB≠.rows sz g rs:=by intro sz g rs h;rw [←hBB] at h;cases h
  have hlow:=hKB.low
  have hblV:X.length+5<V.length:=(List.getElem?_eq_some_iff.1 hbl).1
  obtain ⟨W,hW⟩:∃W,W=V.set (X.length+5) BB:=⟨_,rfl⟩
  have hWl:W.length=V.length:=by rw [hW];simp
  have hblW:X.length+5<W.length:=by omega
  have hWV:W.set (X.length+5) LB=V:=by
   obtain ⟨hi,he⟩:=List.getElem?_eq_some_iff.1 hbl
   rw [hW,List.set_set,←he,List.set_getElem_self]
  obtain ⟨a,ha⟩:∃a,a=l.foldl jd ([],[]):=⟨_,rfl⟩
  have hfold:(l++[y]).foldl jd ([],[])=jd a y:=by rw [List.foldl_append,←ha];rfl
  have hKW:=hKB.setO BB hbl (hLr _) (by omega)
  rw [←hW] at hKW
  have hgW:W[X.length+5]?=some BB:=by rw [hW,List.getElem?_set_self hblV]
  have hbsW:ax W (X.length+4) 0 1 0=some [v]:=by
   unfold ax at hbs ⊢
   rw [hW,List.getElem?_set_ne (by omega)];exact hbs
  unfold KI
  rw [hfold]
  rw [←ha] at hKB hKW
  have hgl:∀M,(V++M)[X.length+5]?=some LB:=fun M=>by rw [List.getElem?_append_left hblV];exact hbl
  have hsl:∀M,(V++M).set (X.length+5) BB=W++M:=fun M=>by rw [hW];exact List.set_append_left _ _ hblV
  have hgWM:∀M,(W++M)[X.length+5]?=some BB:=fun M=>by rw [List.getElem?_append_left hblW];exact hgW
  have hsWM:∀M,(W++M).set (X.length+5) LB=V++M:=fun M=>by rw [List.set_append_left _ _ hblW,hWV]
  have hb1r:∀M,ax (W++M) (X.length+1) 0 1 0=some [.map X.length]:=fun M=>(hKW.app M).p1
  have elk:=fun M=>un S.toaA (hKW.app M).r y.id
  have fy:∀M,ax (W++bQ.rows 172 0 [y.cells]::M) V.length 0 172 0=some y.cells:=fun M=>by rw [←hWl];simp
  have hbV:base≤V.length:=by omega
  have hkW:∀b blk,X.length+6≤b→V[b]?=some blk→W[b]?=some blk:=fun b blk hb h=>by rw [hW,List.getElem?_set_ne (by omega)];exact h
  refine ir hr1 (hget:=by rw [hLB];exact hbl) (by omega) rfl (by decide) (by kernel_rfl) (by kernel_rfl) ?_
  rw [hLB,hBB]
  cases hh:gO a.1 y.id with
  | true =>
   have hst:jd a y=a:=by rw [jd,hh,if_pos rfl]
   rw [hst]
   simp [q3,ao,aE,hgl,hsl,hbV,hb1r,fy,elk,hh,hgWM,hsWM,hLB]
   refine ⟨rfl,⟨(hKB.app _).more (by simp;omega),bH hbs _,fun b blk hb=>by have:=hlo b blk hb;rw [List.getElem?_append_left (List.getElem?_eq_some_iff.1 this).1];exact this⟩,fun b blk hb hg _=>by rw [List.getElem?_append_left (List.getElem?_eq_some_iff.1 hg).1];exact hg⟩
  | false =>
   have hst:jd a y=y.over.foldl (jD y) a:=by rw [jd,hh,if_neg (by decide)]
   rw [hst]
   simp [q3,q4,ao,aE,hgl,hsl,hbV,hb1r,fy,elk,hh]
   refine az y.over.length (fun j s Z=>s 3=.ptr (X.length+1) 0 1 0 0∧s 4=.ptr (X.length+3) 0 1 0 0∧s 5=.ptr V.length 0 172 0 0∧s 18=aw y.overK (y.over.map aI.cells)∧s 19=.int .i64 y.over.length∧s 20=.int .i64 j∧
    KB base (X.length+6) (X.length+1) X.length (X.length+3) (X.length+2) (2^10*l.length+j) ((y.over.take j).foldl (jD y) a).1 ((y.over.take j).foldl (jD y) a).2 Z∧Z[X.length+5]?=some BB∧Z[V.length]?=some (.rows 172 0 [y.cells])∧ax Z (X.length+4) 0 1 0=some [v]∧
    (∀(b:Nat) (blk:bQ),X[b]?=some blk→Z[b]?=some blk)∧∀b blk,X.length+6≤b→V[b]?=some blk→(∀g rs,blk≠bQ.rows 33 g rs)→Z[b]?=some blk) ?_ ?_
   ·refine ⟨q3,q4,rfl,rfl,rfl,rfl,hKW.app _,hgWM _,by rw [←hWl];simp,bH hbsW _,fun b blk hb=>by have h1:=(List.getElem?_eq_some_iff.1 hb).1;have h2:=hlo b blk hb;rw [List.getElem?_append_left (by omega),hW,List.getElem?_set_ne (by omega)];exact h2,fun b blk hb hg _=>by rw [List.getElem?_append_left (by have:=(List.getElem?_eq_some_iff.1 hg).1;omega)];exact hkW b blk hb hg⟩
   rintro j s Z ⟨q3,q4,q5,q18,q19,q20,hKZ,hgZ,hyZ,hbsZ,hloZ,hkZ⟩ hj
   by_cases hjl:j<y.over.length
   rotate_left
   ·have h':j=y.over.length:=by omega
    subst h'
    rw [List.take_length] at hKZ
    have hZl:X.length+5<Z.length:=(List.getElem?_eq_some_iff.1 hgZ).1
    simp [q3,q4,q5,q18,q19,q20,hgZ,hLB]
    refine ⟨rfl,⟨(hKZ.setO LB hgZ (hBr _) (by omega)).more (by simp;omega),by rw [List.getElem?_set_self hZl],?_,fun b blk hb=>by have h1:=(List.getElem?_eq_some_iff.1 hb).1;rw [List.getElem?_set_ne (by omega)];exact hloZ b blk hb⟩,fun b blk hb hg hn=>by rw [List.getElem?_set_ne (by omega)];exact hkZ b blk hb hg hn⟩
    unfold ax at hbsZ ⊢
    rw [List.getElem?_set_ne (by omega)];exact hbsZ
   obtain ⟨z,hz⟩:∃z,z=y.over[j]:=⟨_,rfl⟩
   obtain ⟨vv,i,V1,sl,V2,V3,e1,e2,e3,hK3,hk3,hl3⟩:=JK S.toaA hKZ (B:=.rows 33 0 [z.cells]) rfl (by omega) z y.id
   have hfj:(y.over.take (j+1)).foldl (jD y) a=jD y ((y.over.take j).foldl (jD y) a) z:=by
    rw [List.take_add_one,List.getElem?_eq_getElem hjl,List.foldl_append,hz];rfl
   obtain ⟨ac,hac⟩:∃ac,ac=(y.over.take j).foldl (jD y) a:=⟨_,rfl⟩
   rw [←hac] at hKZ hK3 hfj
   have hyZM:∀M,ax (Z++M) V.length 0 172 0=some y.cells:=fun M=>bH (by simp [ax,hyZ]) M
   have hp2:∀M,ax (Z++M) (X.length+3) 0 1 0=some [.map (X.length+2)]:=fun M=>(hKZ.app M).p2
   have hZlen:V.length<Z.length:=(List.getElem?_eq_some_iff.1 hyZ).1
   have hup:∀{b:Nat} {blk:bQ},Z[b]?=some blk→(Z++[bQ.rows 33 0 [z.cells]])[b]?=some blk:=fun h=>by rw [List.getElem?_append_left (List.getElem?_eq_some_iff.1 h).1];exact h
   have hy3:V3[V.length]?=some (.rows 172 0 [y.cells]):=hk3 _ _ (by omega) (hup hyZ) (.inl (by intro g rs h;cases h))
   have hz3:V3[Z.length]?=some (.rows 33 0 [z.cells]):=hk3 _ _ (by omega) (by simp) (.inr (.inl rfl))
   have hg3:V3[X.length+5]?=some BB:=hk3 _ _ (by omega) (hup hgZ) (.inl (hBr _))
   have hbs3:ax V3 (X.length+4) 0 1 0=some [v]:=l6 hbsZ fun blk hb hn=>hk3 _ _ (by omega) (hup hb) (.inl hn)
   have hkk3:∀b blk,X.length+6≤b→V[b]?=some blk→(∀g rs,blk≠bQ.rows 33 g rs)→V3[b]?=some blk:=fun b blk hb hg hn=>hk3 _ _ (by omega) (hup (hkZ b blk hb hg hn)) (.inl hn)
   have hlo3:∀(b:Nat) (blk:bQ),X[b]?=some blk→V3[b]?=some blk:=fun b blk hb=>hk3 _ _ (by have:=(List.getElem?_eq_some_iff.1 hb).1;omega) (hup (hloZ b blk hb)) (.inr (.inr (by have:=(List.getElem?_eq_some_iff.1 hb).1;omega)))
   have hyr3:ax V3 V.length 0 172 0=some y.cells:=by simp [ax,hy3]
   have hzr3:ax V3 Z.length 0 33 0=some z.cells:=by simp [ax,hz3]
   have hp13:=hK3.p1
   have hbZ:base≤Z.length:=by omega
   have eu:=DM S.toaA (base:=base) hK3.low.1 hK3.r z
   by_cases hk7:y.kind=7
   ·simp [q3,q4,q5,q18,q19,q20,hjl,←hz,ao,aE,hbZ,hp2,hyZM,aj,au,e1,e2,e3,hyr3,hzr3,hp13,hk7,eu,ay hjl (by omega)]
    have hso:jD y ac z=(oQ ac.1 z,mV ac.2 z y.id):=by simp [jD,hk7]
    rw [hfj,hso]
    refine ⟨(hK3.ret z).more (by omega),hg3,by rw [List.getElem?_set_ne (by omega)];exact hy3,?_,fun b blk hb=>by have h1:=(List.getElem?_eq_some_iff.1 hb).1;rw [List.getElem?_set_ne (by omega)];exact hlo3 b blk hb,fun b blk hb hg hn=>by rw [List.getElem?_set_ne (by omega)];exact hkk3 b blk hb hg hn⟩
    unfold ax at hbs3 ⊢
    rw [List.getElem?_set_ne (by omega)];exact hbs3
   ·simp [q3,q4,q5,q18,q19,q20,hjl,←hz,ao,aE,hbZ,hp2,hyZM,aj,au,e1,e2,e3,hyr3,hzr3,hp13,hk7,ay hjl (by omega)]
    have hso:jD y ac z=(ac.1,mV ac.2 z y.id):=by simp [jD,hk7]
    rw [hfj,hso]
    exact ⟨hK3.more (by omega),hg3,hy3,hbs3,hlo3,hkk3⟩
 ·rw [←hv]
  refine ⟨⟨by simp [ax],by simp [cC,iY],by simp [ax],⟨[],by simp [cC],rfl,⟨by simp,by simp⟩,by simp⟩,by omega,by simp;omega⟩,by simp,by simp [ax],fun b blk hb=>by have h1:=(List.getElem?_eq_some_iff.1 hb).1;rw [List.append_assoc,List.getElem?_append_left h1];exact hb⟩
 ·intro V hKB hbl hlo
  have hlen:(X++[bQ.map [],.rows 1 0 [[.map X.length]],.map [],.rows 1 0 [[.map (X.length+2)]],.rows 1 0 [[v]]]).length=X.length+5:=by simp
  rw [hlen,gf hbl]
  have hKB2:=hKB.setO .dead hbl (by intro g rs h;cases h) (by omega)
  obtain ⟨T,h2,h3,h4,h5⟩:=hKB2.o
  simp
  exact ⟨_,hKB2.p2,q4,T,by simpa using h2,h3,h4,h5,fun b blk hb=>by have h1:=(List.getElem?_eq_some_iff.1 hb).1;rw [List.getElem?_set_ne (by omega)];exact hlo b blk hb⟩
end Go.Proofs.Ev
