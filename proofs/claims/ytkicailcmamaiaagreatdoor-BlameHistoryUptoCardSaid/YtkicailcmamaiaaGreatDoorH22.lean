/- Part 22 of the proof that quiltlaw38.BlameHistory returns true: no statement of its own. -/
import Derived.Test.YtkicailcmamaiaaGreatDoorH21
set_option linter.all false
namespace Go.Proofs.Ev
open Go.Proofs
variable {C:bD} {σ:aZ}
theorem D6 (S:ba C σ) (v:AV) (hv:v.leaf=true) (hc:v.cells=[v]) {base:Nat} {H:ae} (K:AV→ae→Prop) :
 aF Tryz.prog C base (.fn 174 []) [v] H K=K (.fn 254 [.ptr H.length 0 1 0 0]) (H++[.rows 1 0 [[v]]]):=by
 refine aF.eq (bW (S.plainT _ (by decide)).1 (S.plainT _ (by decide)).2 (aj Tryz.func174 rfl (S.prim _ (by decide)) (by simp) (by kernel_rfl) ?_)) K
 unfold Tryz.f174
 simp [aE,hv,hc]
def Iv (σ:aZ) (s:List ag) (I:List aG→ae→Prop) (bl y0:Nat) (v0:AV) (LB:bL) (L:List ar) (j:Nat) (X:ae):Prop :=
 I (qh σ s L j) X∧X[y0]?=some (.rows 1 0 [[.yld bl]])∧X[y0+1]?=some (.rows 1 0 [[v0]])∧X[y0+2]?=some LB
def Iw (I:List aG→ae→Prop) (bl y0:Nat) (v0:AV) (BB:bL) (a0:Nat) (vA:AV) (LB2:bL) (P A:List aG) (j:Nat) (X:ae):Prop :=
 I (P++A.reverse.take j) X∧X[y0]?=some (.rows 1 0 [[.yld bl]])∧X[y0+1]?=some (.rows 1 0 [[v0]])∧X[y0+2]?=some BB∧X[a0]?=some (.rows 1 0 [[vA]])∧X[a0+1]?=some LB2
theorem D5 (S:ba C σ) {s:List ag} {I:List aG→ae→Prop} {base bl bs start N:Nat} {k kL:SK} (Y:Fr C base bl bs start N s k I) {L:List ar} (hL:L.length≤2^20) {X0:ae} (h0:I [] X0)
 {l1:List AV} {ps:List Tmp} {asg bd:Code} {nb po:Nat} {X:ae} (hX:X=X0++[.rows 1 0 [[.yld bl]],.rows 1 0 [[am kL (L.map ar.cells)]]]) (hnb:nb=X0.length+2) (hpo:po=X0.length+1)
 (hy:∀(LB BB:bL) (_:cm l1 ps asg bd=LB) (_:mI l1 ps asg bd=BB) (j m:Nat) (X:ae) (d:ar),Iv σ s I bl X0.length (am kL (L.map ar.cells)) LB L j X→m+j+1=L.length→L[m]?=some d→
  aF Tryz.prog C base (.yld (X0.length+2)) [.int .i64 (m:Int),.agg d.cells] X fun v X'=>v=.bool true∧Iv σ s I bl X0.length (am kL (L.map ar.cells)) LB L (j+1) X')
 (K:AV→ae→Prop) (hK:∀X,Iv σ s I bl X0.length (am kL (L.map ar.cells)) (cm l1 ps asg bd) L L.length X→K (.tup []) X) :
 dU Tryz.prog C base 322 [.yld nb,.ptr po 0 1 0 0] (X++[cm l1 ps asg bd]) K:=by
 subst hnb;subst hpo
 refine AI S (l:=L) (k:=kL) (by omega) (I:=Iv σ s I bl X0.length (am kL (L.map ar.cells)) (cm l1 ps asg bd) L) ?_ (hy _ _ rfl rfl) ?_ K hK
 ·rintro j X ⟨_,_,h,_⟩
  simp [ax,h]
 ·refine ⟨?_,?_,?_,?_⟩
  ·have:=Y.app [.rows 1 0 [[.yld bl]],.rows 1 0 [[am kL (L.map ar.cells)]],cm l1 ps asg bd] h0
   rw [hX];simpa [qh] using this
  ·rw [hX];simp
  ·rw [hX];simp
  ·rw [hX];simp
theorem D4 (S:ba C σ) {s:List ag} {I:List aG→ae→Prop} {base bl bs start N:Nat} {k kA:SK} (Y:Fr C base bl bs start N s k I) {P A:List aG} (hA:A.length≤2^20) {W:ae} {y0:Nat} {v0:AV} {BB:bL} (h0:I P W) (g0:W[y0]?=some (.rows 1 0 [[.yld bl]])) (g1:W[y0+1]?=some (.rows 1 0 [[v0]])) (g2:W[y0+2]?=some BB)
 {l2:List AV} {ps:List Tmp} {asg bd:Code} {nb po:Nat} {X:ae} {r1 r2:bL} (hX:X=W++[r1,r2,.rows 1 0 [[am kA (A.map aG.cells)]]]) (hnb:nb=W.length+3) (hpo:po=W.length+2)
 (hy:∀(LB2 BB2:bL) (_:cm l2 ps asg bd=LB2) (_:mI l2 ps asg bd=BB2) (j m:Nat) (X:ae) (x:aG),Iw I bl y0 v0 BB (W.length+2) (am kA (A.map aG.cells)) LB2 P A j X→m+j+1=A.length→A[m]?=some x→
  aF Tryz.prog C base (.yld (W.length+3)) [.int .i64 (m:Int),.agg x.cells] X fun v X'=>v=.bool true∧Iw I bl y0 v0 BB (W.length+2) (am kA (A.map aG.cells)) LB2 P A (j+1) X')
 (K:AV→ae→Prop) (hK:∀X,Iw I bl y0 v0 BB (W.length+2) (am kA (A.map aG.cells)) (cm l2 ps asg bd) P A A.length X→K (.tup []) X) :
 dU Tryz.prog C base 323 [.yld nb,.ptr po 0 1 0 0] (X++[cm l2 ps asg bd]) K:=by
 subst hnb;subst hpo
 have kp:∀{j:Nat} {blk:bL} (M:ae),W[j]?=some blk→(W++M)[j]?=some blk:=fun M h=>by rw [List.getElem?_append_left (List.getElem?_eq_some_iff.1 h).1];exact h
 refine AH S (l:=A) (k:=kA) (by omega) (I:=Iw I bl y0 v0 BB (W.length+2) (am kA (A.map aG.cells)) (cm l2 ps asg bd) P A) ?_ (hy _ _ rfl rfl) ?_ K hK
 ·rintro j X ⟨_,_,_,_,h,_⟩
  simp [ax,h]
 ·refine ⟨?_,?_,?_,?_,?_,?_⟩
  ·have:=Y.app [r1,r2,.rows 1 0 [[am kA (A.map aG.cells)]],cm l2 ps asg bd] h0
   rw [hX];simpa using this
  ·rw [hX,List.append_assoc];exact kp _ g0
  ·rw [hX,List.append_assoc];exact kp _ g1
  ·rw [hX,List.append_assoc];exact kp _ g2
  ·rw [hX];simp
  ·rw [hX,show W.length+2+1=W.length+3 from rfl,List.append_assoc,bq];rfl
theorem rH (hp:∀l,(σ.i l).Perm l) {p:aA} (h:p.Good):∀x∈bK σ p,x.over.length≤2^10:=by
 intro x hx
 obtain ⟨y,hy,rfl⟩:=List.mem_map.1 hx
 have h1:=h.fit.atomOver y hy
 have h2:(ss σ p.dig y).over=σ.i (y.over.map fun z=>bi z p.dig):=rfl
 rw [h2,(hp _).length_eq,List.length_map];exact h1
theorem zr {s:List ag} (hs:cr s) {L:List ar} (hL:∀d∈L,fU s d.d=true) (j:Nat):(qh σ s L j).length≤90000*L.length:=by
 have h:=iv (f:=fun d:ar=>(bK σ (bY s d.d)).reverse) (b:=90000) (l:=L.reverse.take j) fun d hd=>by
  rw [List.length_reverse]
  exact gc (bX hs (hL d (List.mem_reverse.1 (List.mem_of_mem_take hd)))).1
 have h2:(L.reverse.take j).length≤L.length:=by simp;omega
 have h3:90000*(L.reverse.take j).length≤90000*L.length:=Nat.mul_le_mul_left _ h2
 unfold qh
 omega
set_option maxRecDepth 100000 in
set_option maxHeartbeats 8000000 in
theorem zs (S:ba C σ) {s0:List ag} {k:SK} (hs:cr s0) (h8:s0.length≤8) {base bl bs start:Nat} {I:List aG→ae→Prop} (Y:Fr C base bl bs start (2^20) s0 k I) {X0:ae} (h0:I [] X0) (K:AV→ae→Prop)
 (hK:∀X,I (qh σ s0 (cn σ s0 s0.length []) (cn σ s0 s0.length []).length) X→K (.tup []) X) :
 dU Tryz.prog C base 254 [.yld bl,.ptr bs 0 1 0 0] X0 K:=by
 refine aj Tryz.func254 rfl (S.prim _ (by decide)) (by simp) (by kernel_rfl) ?_
 unfold Tryz.f254
 obtain ⟨L,hL⟩:∃L,L=cn σ s0 s0.length []:=⟨_,rfl⟩
 have hLm:∀d∈L,fU s0 d.d=true:=by
  intro d hd
  rw [hL] at hd
  rcases lG s0 _ _ d hd with h | ⟨x,hx,rfl⟩
  ·cases h
  ·unfold fU;rw [List.find?_isSome];exact ⟨x,hx,by simp⟩
 have hLl:L.length≤8:=by rw [hL];have:=eQ (σ:=σ) s0 s0.length [];simp at this;omega
 have eo:=(ro S.tobw s0 k hs).eq
 rw [←hL] at eo hK
 obtain ⟨hbst,hstX⟩:=Y.low h0
 obtain ⟨v0,hv0⟩:∃v0,v0=am (gO L) (L.map ar.cells):=⟨_,rfl⟩
 rw [←hv0] at eo
 have hv0l:v0.leaf=true:=by rw [hv0];simp
 have hv0c:v0.cells=[v0]:=by rw [hv0];simp
 have eb:=fun (H:ae) (K:AV→ae→Prop)=>FM S v0 hv0l hv0c (base:=base) (H:=H) K
 have hsrc:∀M,ax (X0++M) bs 0 1 0=some [am k (s0.map ag.cells)]:=fun M=>Y.src (Y.app M h0)
 refine cut (fun s X=>s 1=.ptr bs 0 1 0 0∧s 2=.ptr X0.length 0 1 0 0∧X=X0++[.rows 1 0 [[.yld bl]]]) ?_ ?_
 ·simp [aE]
  exact ⟨by intro x hx;simp only [AV.cells,List.mem_singleton] at hx;subst hx;rfl,rfl,rfl⟩
 rintro s X ⟨q1,q2,rfl⟩
 refine cut (fun s X=>s 1=.ptr bs 0 1 0 0∧s 2=.ptr X0.length 0 1 0 0∧s 13=.fn 322 [.ptr (X0.length+1) 0 1 0 0]∧X=X0++[.rows 1 0 [[.yld bl]],.rows 1 0 [[v0]]]) ?_ ?_
 ·simp [q1,q2,hsrc,eo,eb]
 clear q1 q2
 rintro s X ⟨q1,q2,q13,rfl⟩
 rw [fI,lU]
 refine gw (f:=322) (caps:=[.ptr (X0.length+1) 0 1 0 0]) (by simp [q13]) fun l1 hr1=>?_
 refine D5 S (s:=s0) Y (kL:=gO L) (L:=L) (by omega) h0 (by rw [hv0]) (by simp) rfl ?_ _ ?_
 rotate_left
 ·rintro X ⟨hI,g0,g1,g2⟩
  have hlen:(X0++[bL.rows 1 0 [[AV.yld bl]],.rows 1 0 [[v0]]]).length=X0.length+2:=by simp
  rw [hlen,fo g2]
  simp
  exact hK _ (Y.set _ hI (by omega) g2 (by intro g rs h;cases h))
 rw [←hv0]
 intro LB BB hLB hBB j m X d hJ hmj hd
 obtain ⟨hI,g0,g1,g2⟩:=hJ
 have hLr:∀sz g rs,LB≠.rows sz g rs:=by intro sz g rs h;rw [←hLB] at h;cases h
 have hBr:∀sz g rs,BB≠.rows sz g rs:=by intro sz g rs h;rw [←hBB] at h;cases h
 have hXl:X0.length+2<X.length:=(List.getElem?_eq_some_iff.1 g2).1
 have hdm:d∈L:=List.mem_of_getElem? hd
 obtain ⟨hpg,_⟩:=bX hs (hLm d hdm)
 have eg:=(uB S.tobw s0 k d hs.2.2).eq
 have ea:=(lM S.tofg (bY s0 d.d) hpg).eq
 obtain ⟨p,hp⟩:∃p,p=bY s0 d.d:=⟨_,rfl⟩
 obtain ⟨A,hA⟩:∃A,A=bK σ p:=⟨_,rfl⟩
 have hsucc:=D3 (σ:=σ) (s:=s0) hmj hd
 have hlat:=zr (σ:=σ) hs hLm (j+1)
 rw [←hp] at eg ea hpg hsucc
 rw [←hA] at ea hsucc
 have hAl:A.length≤90000:=by rw [hA];exact gc hpg
 have hAo:∀x∈A,x.over.length≤2^10:=by rw [hA];exact rH S.permI hpg
 obtain ⟨vA,hvA⟩:∃vA,vA=am .loose (A.map aG.cells):=⟨_,rfl⟩
 have hsl:AV.lst (A.map aG.cells) false=vA:=by rw [hvA];cases A<;>rfl
 rw [hsl] at ea
 have eba:=fun (H:ae) (K:AV→ae→Prop)=>FL S vA (by rw [hvA];simp) (by rw [hvA];simp) (base:=base) (H:=H) K
 obtain ⟨W,hW⟩:∃W,W=X.set (X0.length+2) BB:=⟨_,rfl⟩
 have hWl:W.length=X.length:=by rw [hW];simp
 have hIW:I (qh σ s0 L j) W:=by rw [hW];exact Y.set BB hI (by omega) g2 (hLr _)
 have hgl:∀M,(X++M)[X0.length+2]?=some LB:=fun M=>by rw [List.getElem?_append_left hXl];exact g2
 have hsl2:∀M,(X++M).set (X0.length+2) BB=W++M:=fun M=>by rw [hW];exact List.set_append_left _ _ hXl
 have hsrcW:∀M,ax (W++M) bs 0 1 0=some [am k (s0.map ag.cells)]:=fun M=>Y.src (Y.app M hIW)
 have hbX:base≤X.length:=by omega
 have gW0:W[X0.length]?=some (.rows 1 0 [[.yld bl]]):=by rw [hW,List.getElem?_set_ne (by omega)];exact g0
 have gW1:W[X0.length+1]?=some (.rows 1 0 [[v0]]):=by rw [hW,List.getElem?_set_ne (by omega)];exact g1
 have gW2:W[X0.length+2]?=some BB:=by rw [hW,List.getElem?_set_self hXl]
 have hd0:aJ.length=32:=by decide
 have h32:d.d.length=32:=d.h
 have hdc:d.cells=dig d.d:=rfl
 have g2':=g2
 rw [←hLB] at g2'
 refine gy hr1 (hget:=g2') (by omega) rfl (by decide) (by kernel_rfl) (by kernel_rfl) ?_
 rw [hLB,hBB]
 have hb32:∀M,ax (W++bL.rows 32 0 [d.cells]::M) X.length 0 32 0=some d.cells:=fun M=>by rw [←hWl];simp
 have hdr:List.drop 32 (dig aJ)=[]:=by decide
 simp [q1,q2,ao,hd0,hdr,hgl,hsl2,hbX,hsrcW,hb32,eg,ea,eba,aD]
 refine ⟨by omega,?_⟩
 refine gw (f:=323) (caps:=[.ptr (W.length+2) 0 1 0 0]) (by simp) fun l2 hr2=>?_
 refine D4 S (s:=s0) Y (kA:=.loose) (A:=A) (by omega) hIW gW0 gW1 gW2 (by rw [←hvA]) (by simp) rfl ?_ _ ?_
 rotate_left
 ·rintro X3 ⟨hI3,f0,f1,f2,f3,f4⟩
  have hlen:(W++[bL.rows 32 0 [d.cells],.rows 5 0 [p.cells],.rows 1 0 [[vA]]]).length=W.length+2+1:=by simp
  rw [hlen,fo f4]
  have hI4:=Y.set .dead hI3 (by omega) f4 (by intro g rs h;cases h)
  have hX3:W.length+2+1<X3.length:=(List.getElem?_eq_some_iff.1 f4).1
  have f2':(X3.set (W.length+2+1) .dead)[X0.length+2]?=some BB:=by rw [List.getElem?_set_ne (by omega)];exact f2
  have hI5:=Y.set LB hI4 (by omega) f2' (hBr _)
  rw [←List.length_reverse,List.take_length,←hsucc] at hI5
  simp [f2',hLB]
  refine ⟨rfl,hI5,?_,?_,?_⟩
  ·rw [List.getElem?_set_ne (by omega),List.getElem?_set_ne (by omega)];exact f0
  ·rw [List.getElem?_set_ne (by omega),List.getElem?_set_ne (by omega)];exact f1
  ·rw [List.getElem?_set_self (by simp;omega)]
 rw [←hvA]
 intro LB2 BB2 hLB2 hBB2 j2 m2 X3 x hK2 hm2 hx2
 obtain ⟨hI3,f0,f1,f2,f3,f4⟩:=hK2
 have hL2r:∀sz g rs,LB2≠.rows sz g rs:=by intro sz g rs h;rw [←hLB2] at h;cases h
 have hB2r:∀sz g rs,BB2≠.rows sz g rs:=by intro sz g rs h;rw [←hBB2] at h;cases h
 have hX3l:W.length+2+1<X3.length:=(List.getElem?_eq_some_iff.1 f4).1
 have hxm:x∈A:=List.mem_of_getElem? hx2
 have hrev:A.reverse[j2]?=some x:=by rw [List.getElem?_reverse (by omega),show A.length-1-j2=m2 by omega];exact hx2
 have htk:A.reverse.take (j2+1)=A.reverse.take j2++[x]:=by rw [List.take_add_one,hrev];rfl
 obtain ⟨V,hV⟩:∃V,V=X3.set (W.length+2+1) BB2:=⟨_,rfl⟩
 have hVl:V.length=X3.length:=by rw [hV];simp
 have hIV:I (qh σ s0 L j++A.reverse.take j2) V:=by rw [hV];exact Y.set BB2 hI3 (by omega) f4 (hL2r _)
 have hgl3:∀M,(X3++M)[W.length+2+1]?=some LB2:=fun M=>by rw [List.getElem?_append_left hX3l];exact f4
 have hsl3:∀M,(X3++M).set (W.length+2+1) BB2=V++M:=fun M=>by rw [hV];exact List.set_append_left _ _ hX3l
 have hPl:(qh σ s0 L j++A.reverse.take j2).length≤2^20:=by
  rw [hsucc] at hlat
  simp only [List.length_append,List.length_reverse,List.length_take] at hlat ⊢
  omega
 obtain ⟨X5,hI5,hkeep,ey⟩:=Y.yld x (Y.app [.rows 172 0 [x.cells]] hIV) hPl (hAo x hxm)
 have kV:∀{b:Nat} {blk:bL},b≠W.length+2+1→X3[b]?=some blk→start≤b→(∀g rs,blk≠.rows 33 g rs)→X5[b]?=some blk:=by
  intro b blk hb hg hst hne
  have hbl:=(List.getElem?_eq_some_iff.1 hg).1
  refine hkeep b blk hst ?_ hne
  rw [List.getElem?_append_left (by omega),hV,List.getElem?_set_ne (Ne.symm hb)];exact hg
 have f4v:X5[W.length+2+1]?=some BB2:=hkeep _ _ (by omega) (by rw [List.getElem?_append_left (by omega),hV,List.getElem?_set_self hX3l]) (hB2r _)
 have hX5l:W.length+2+1<X5.length:=(List.getElem?_eq_some_iff.1 f4v).1
 have fy:∀M,ax (V++M) X0.length 0 1 0=some [.yld bl]:=fun M=>by
  have:V[X0.length]?=some (.rows 1 0 [[.yld bl]]):=by rw [hV,List.getElem?_set_ne (by omega)];exact f0
  exact bM (by simp [ax,this]) M
 have fx:∀M,ax (V++bL.rows 172 0 [x.cells]::M) X3.length 0 172 0=some x.cells:=fun M=>by rw [←hVl];simp
 have f4':=f4
 rw [←hLB2] at f4'
 refine gy hr2 (hget:=f4') (by omega) rfl (by decide) (by kernel_rfl) (by kernel_rfl) ?_
 rw [hLB2,hBB2]
 have hb3:base≤X3.length:=by omega
 have q2b:X0.length=X0.length:=rfl
 simp [q2,ao,aD,hgl3,hsl3,hb3,fy,fx,ey,f4v,hLB2]
 have hI6:=Y.set LB2 hI5 (by omega) f4v (hB2r _)
 rw [List.append_assoc,←htk] at hI6
 refine ⟨rfl,hI6,?_,?_,?_,?_,?_⟩
 ·rw [List.getElem?_set_ne (by omega)];exact kV (by omega) f0 (by omega) (by intro g rs h;cases h)
 ·rw [List.getElem?_set_ne (by omega)];exact kV (by omega) f1 (by omega) (by intro g rs h;cases h)
 ·rw [List.getElem?_set_ne (by omega)];exact kV (by omega) f2 (by omega) (hBr _)
 ·rw [List.getElem?_set_ne (by omega)];exact kV (by omega) f3 (by omega) (by intro g rs h;cases h)
 ·rw [show W.length+3=W.length+2+1 from rfl,List.getElem?_set_self hX5l]
end Go.Proofs.Ev
namespace Go.Proofs.Ev
open Go.Proofs
variable {C:bD} {σ:aZ}
theorem cj {a b:aC} (h:aB a b=true):a=b:=by
 rw [il] at h
 cases a;cases b
 simp only at h
 obtain ⟨rfl,rfl⟩:=h
 rfl
theorem sF (x:aC):di (List.replicate 32 (.int .u8)++[.int .i64]) x.cells=true:=by
 have key:∀(ks:List LK) (cs:List AV),di ks cs=true→di (ks++[.int .i64]) (cs++[.int .i64 x.n])=true:=by
  intro ks
  induction ks with
  | nil =>
   intro cs h
   cases cs with
   | nil=>rfl
   | cons _ _=>cases h
  | cons k ks ih =>
   intro cs h
   cases cs with
   | nil=>cases h
   | cons c cs =>
    simp only [di,Bool.and_eq_true] at h
    simp only [List.cons_append,di,Bool.and_eq_true]
    exact ⟨h.1,ih cs h.2⟩
 have h1:=fE x.d;rw [x.h] at h1
 exact key _ _ h1
theorem mp (S:az C) (x:aC):iZ Tryz.prog C 27 (.agg x.cells)=true:=by
 simp only [iZ,Tryz.underlying27,S.kId]
 exact sF x
theorem I6 (S:az C) (a b:aC):fP Tryz.prog C 27 (.agg a.cells) (.agg b.cells)=some (aB a b):=by
 have h:=gZ S a b
 simp only [bP] at h
 simp only [fP]
 cases he:qK Tryz.prog C 27 (.agg a.cells) (.agg b.cells) with
 | none=>rw [he] at h;cases h
 | some z=>rw [he] at h;simpa using h
def dL (l:List (aC×AV)):List (AV×AV):=l.map fun x=>(.agg x.1.cells,x.2)
def fG (l:List (aC×AV)) (d:aC):Option (Nat×AV) :=
 match l with
 | []=>none
 | x::l=>if aB x.1 d then some (0,x.2) else (fG l d).map fun p=>(p.1+1,p.2)
theorem nM (a b:aC):aB a b=aB b a:=by
 rw [Bool.eq_iff_iff,il,il]
 exact ⟨fun h=>⟨h.1.symm,h.2.symm⟩,fun h=>⟨h.1.symm,h.2.symm⟩⟩
theorem oY (S:az C) (d:aC):∀(l:List (aC×AV)) (i:Nat),d6 Tryz.prog C 27 (.agg d.cells) (dL l) i=some ((fG l d).map fun p=>(p.1+i,p.2))
 | [],i=>rfl
 | x::l,i=>by
  have ih:=oY S d l (i+1)
  rw [dL,List.map_cons,d6,I6 S,fG,nM d x.1]
  cases h:aB x.1 d with
  | true=>simp
  | false =>
   simp only [Bool.false_eq_true,if_false]
   show d6 Tryz.prog C 27 (.agg d.cells) (dL l) (i+1)=_
   rw [ih]
   cases fG l d with
   | none=>rfl
   | some p=>simp;omega
theorem rk:∀{l:List (aC×AV)} {d:aC} {i:Nat} {v:AV},fG l d=some (i,v)→l[i]?=some (d,v)
 | [],_,_,_,h=>by cases h
 | x::l,d,i,v,h=>by
  rw [fG] at h
  cases hs:aB x.1 d with
  | true =>
   rw [hs,if_pos rfl] at h
   cases h
   rw [List.getElem?_cons_zero,←cj hs]
  | false =>
   rw [hs,if_neg (by decide)] at h
   cases hp:fG l d with
   | none=>rw [hp] at h;cases h
   | some p =>
    rw [hp] at h
    cases h
    exact rk (l:=l) hp
def mR (l:List aC) (d:aC):Bool:=l.any fun x=>aB x d
def wX (l:List aC) (d:aC):List aC:=if mR l d then l else l++[d]
def lL (l:List aC):List (aC×AV):=l.map fun d=>(d,AV.bool true)
theorem xU:∀(l:List aC) (d:aC),(fG (lL l) d).isSome=mR l d∧∀p,fG (lL l) d=some p→p.2=AV.bool true
 | [],d=>by simp [lL,fG,mR]
 | x::l,d=>by
  have ih:=xU l d
  have hc:fG (lL (x::l)) d=if aB x d then some (0,AV.bool true) else (fG (lL l) d).map fun p=>(p.1+1,p.2):=rfl
  rw [hc]
  cases h:aB x d with
  | true=>exact ⟨by simp [mR,h],fun p hp=>by cases hp;rfl⟩
  | false =>
   simp only [Bool.false_eq_true,if_false]
   refine ⟨?_,fun p hp=>?_⟩
   ·rw [Option.isSome_map,ih.1];simp [mR,h]
   ·cases hq:fG (lL l) d with
    | none=>rw [hq] at hp;cases hp
    | some q=>rw [hq] at hp;cases hp;exact ih.2 q hq
theorem GJ (S:az C) {X:ae} {m:Nat} {l:List aC} (hm:X[m]?=some (.map (dL (lL l)))) (d:aC):cU Tryz.prog C X 78 (.map m) (.agg d.cells) false=some (.bool (mR l d)):=by
 have hf:=oY S d (lL l) 0
 obtain ⟨h1,h2⟩:=xU l d
 simp only [cU,Kd,mp S,iY,hm,hf,if_true]
 cases hp:fG (lL l) d with
 | none=>rw [hp] at h1;simp at h1;simp [←h1]
 | some p=>rw [hp] at h1;simp at h1;simp [h2 p hp,←h1]
theorem Kf (S:az C) {base:Nat} {X:ae} {m:Nat} {l:List aC} (hb:base≤m) (hm:X[m]?=some (.map (dL (lL l)))) (d:aC) :
 dS Tryz.prog C base X 78 (.map m) (.agg d.cells) (.bool true)=some (X.set m (.map (dL (lL (wX l d))))):=by
 have hf:=oY S d (lL l) 0
 obtain ⟨h1,h2⟩:=xU l d
 simp only [dS,Kd,mp S,hm,hf,hb,and_self,if_true]
 cases hp:fG (lL l) d with
 | none =>
  rw [hp] at h1
  have h0:mR l d=false:=by simpa using h1.symm
  simp [wX,h0,dL,lL]
 | some p =>
  rw [hp] at h1
  have h0:mR l d=true:=by simpa using h1.symm
  obtain ⟨i,v⟩:=p
  have h3:=rk hp
  have h4:v=.bool true:=h2 _ hp
  subst h4
  have hent:(dL (lL l)).set i (.agg d.cells,.bool true)=dL (lL l):=by
   have he:(dL (lL l))[i]?=some (.agg d.cells,.bool true):=by rw [dL,List.getElem?_map,h3];rfl
   obtain ⟨hi,he⟩:=List.getElem?_eq_some_iff.1 he
   rw [←he,List.set_getElem_self]
  simp [wX,h0,hent]
structure KR where
 k:aC
 b:Nat
 g:Nat
 l:List aC
def KR.v (t:KR):AV:=.sl t.b t.g 33 0 t.l.length
def KR.e (t:KR):aC×AV:=(t.k,t.v)
def KR.m (t:KR):aC×List aC:=(t.k,t.l)
def mY (M:List (aC×List aC)) (d y:aC):List (aC×List aC) :=
 match M with
 | []=>[(d,[y])]
 | x::M=>if aB x.1 d then (x.1,x.2++[y])::M else x::mY M d y
def yz (lo:Nat) (T:List KR) (X:ae):Prop:=(∀t∈T,lo≤t.b∧X[t.b]?=some (.rows 33 t.g (t.l.map aC.cells)))∧∀(i j:Nat) (t u:KR),T[i]?=some t→T[j]?=some u→i≠j→t.b≠u.b
theorem yz.keep {lo:Nat} {T:List KR} {X X':ae} (h:yz lo T X) (hX:∀(b g:Nat) (rs:List (List AV)),X[b]?=some (bL.rows 33 g rs)→X'[b]?=some (bL.rows 33 g rs)):yz lo T X' :=
 ⟨fun t ht=>⟨(h.1 t ht).1,hX _ _ _ (h.1 t ht).2⟩,h.2⟩
theorem xc {P:Program} {base:Nat} {ts:Array TypeId} {e:TypeId} {xd:TypeDesc} {sz by_:Nat} (h0:(ts[0]?).bind P.underlying=some (.slice e)) (h1:(ts[1]?).bind P.underlying=some xd) (hs:br P e=some sz) (hb:bytesOf P e=some by_)
 (hz:(aN P e).map (fun z=>z.cells.length)=some sz) (hp:0<sz) {X:ae} (hX:base≤X.length) {v x:AV} {rows ys:List (List AV)} (hv:(rows=[]∧v=.nils)∨∃b g,v=.sl b g sz 0 rows.length∧X[b]?=some (.rows sz g rows)∧base≤b)
 (hx:cq X xd x=some ys) (hy:∀r∈ys,r.length=sz) (hne:ys≠[]) (hbound:(rows.length+ys.length)*(by_+1)≤2^45) :
 ∃b g X',bg P base X ts v.denil x=some (.sl b g sz 0 (rows.length+ys.length),X')∧X'[b]?=some (.rows sz g (rows++ys))∧(∀k,k≠b→k<X.length→X'[k]?=X[k]?)∧((∃g' l,v=.sl b g' sz 0 l)∨(v=.nils∧b=X.length))∧base≤b∧X.length≤X'.length:=by
 have hc:(ys.all fun r=>decide (r.length=sz))=true:=by simpa using hy
 unfold bg
 simp only [h0,h1,hs,hb,hx,hc,hp,hz,and_self,if_true]
 rcases hv with ⟨rfl,rfl⟩ | ⟨b,g,rfl,hg,hbb⟩
 ·simp only [AV.denil]
  rw [if_neg (by simpa using hne),if_pos ⟨trivial,by simpa using hbound,by simp⟩]
  refine ⟨X.length,cY P e sz,_,rfl,by simp,fun k hk hkl=>by rw [List.getElem?_append_left hkl],.inr (by simp),hX,by simp⟩
 ·have hlt:b<X.length:=(List.getElem?_eq_some_iff.1 hg).1
  simp only [AV.denil,hg]
  rw [if_pos ⟨hbb,trivial,trivial,trivial,trivial,hbound⟩]
  exact ⟨b,_,_,rfl,by rw [List.getElem?_set_self hlt],fun k hk _=>by rw [List.getElem?_set_ne (Ne.symm hk)],.inl ⟨_,_,rfl⟩,hbb,by simp⟩
end Go.Proofs.Ev
namespace Go.Proofs.Ev
open Go.Proofs
variable {C:bD} {σ:aZ}
theorem vC {d y:aC} {b g:Nat}:∀{T:List KR} {i:Nat} {v:AV} {t:KR},fG (T.map KR.e) d=some (i,v)→T[i]?=some t→mY (T.map KR.m) d y=(T.set i ⟨d,b,g,t.l++[y]⟩).map KR.m
 | [],i,v,t,h,_=>by cases h
 | x::T,i,v,t,h,ht=>by
  have hc:fG ((x::T).map KR.e) d=if aB x.k d then some (0,x.v) else (fG (T.map KR.e) d).map fun p=>(p.1+1,p.2):=rfl
  have ha:mY ((x::T).map KR.m) d y=if aB x.k d then (x.k,x.l++[y])::T.map KR.m else x.m::mY (T.map KR.m) d y:=rfl
  rw [hc] at h
  rw [ha]
  cases hs:aB x.k d with
  | true =>
   rw [hs,if_pos rfl] at h
   cases h
   rw [List.getElem?_cons_zero] at ht
   cases ht
   rw [if_pos rfl,List.set_cons_zero,List.map_cons,cj hs];rfl
  | false =>
   rw [hs,if_neg (by decide)] at h
   rw [if_neg (by decide)]
   cases hp:fG (T.map KR.e) d with
   | none=>rw [hp] at h;cases h
   | some p =>
    rw [hp] at h
    cases h
    rw [List.getElem?_cons_succ] at ht
    rw [vC (b:=b) (g:=g) hp ht,List.set_cons_succ,List.map_cons]
theorem vB {d y:aC}:∀{T:List KR},fG (T.map KR.e) d=none→mY (T.map KR.m) d y=T.map KR.m++[(d,[y])]
 | [],_=>rfl
 | x::T,h=>by
  have hc:fG ((x::T).map KR.e) d=if aB x.k d then some (0,x.v) else (fG (T.map KR.e) d).map fun p=>(p.1+1,p.2):=rfl
  have ha:mY ((x::T).map KR.m) d y=if aB x.k d then (x.k,x.l++[y])::T.map KR.m else x.m::mY (T.map KR.m) d y:=rfl
  rw [hc] at h
  rw [ha]
  cases hs:aB x.k d with
  | true=>rw [hs,if_pos rfl] at h;cases h
  | false =>
   rw [hs,if_neg (by decide)] at h
   rw [if_neg (by decide),vB (by simpa using h)];rfl
structure KB (base lo b1 m1 b2 m2 n:Nat) (R:List aC) (M:List (aC×List aC)) (V:ae):Prop where
 p1:ax V b1 0 1 0=some [.map m1]
 r:V[m1]?=some (.map (dL (lL R)))
 p2:ax V b2 0 1 0=some [.map m2]
 o:∃T:List KR,V[m2]?=some (.map (dL (T.map KR.e)))∧T.map KR.m=M∧yz lo T V∧∀t∈T,t.l.length≤n
 ne:m1≠m2
 low:base≤m1∧base≤m2∧base≤lo∧lo≤V.length∧b1<lo∧m1<lo∧b2<lo∧m2<lo
theorem mf {X X':ae} {b:Nat} {r:List AV} (h:ax X b 0 1 0=some r) (hk:∀blk,X[b]?=some blk→(∀g rs,blk≠bL.rows 33 g rs)→X'[b]?=some blk):ax X' b 0 1 0=some r:=by
 unfold ax at h ⊢
 cases hb:X[b]? with
 | none=>rw [hb] at h;cases h
 | some blk =>
  rw [hb] at h
  cases blk with
  | rows e g rs =>
   simp only at h
   split at h
   ·rename_i hc
    obtain ⟨rfl,rfl⟩:=hc
    rw [hk _ hb (by intro g' rs' h';cases h')]
    simpa using h
   ·cases h
  | _=>cases h
theorem KB.keep {base lo b1 m1 b2 m2 n:Nat} {R:List aC} {M:List (aC×List aC)} {V V':ae} (h:KB base lo b1 m1 b2 m2 n R M V) (hl:V.length≤V'.length) (h1:∀b blk,b<lo→V[b]?=some blk→(b=b1∨b=m1∨b=b2∨b=m2)→V'[b]?=some blk)
 (h2:∀(b g:Nat) (rs:List (List AV)),V[b]?=some (bL.rows 33 g rs)→V'[b]?=some (bL.rows 33 g rs)):KB base lo b1 m1 b2 m2 n R M V':=by
 obtain ⟨a1,a2,a3,⟨T,t1,t2,t3,t4⟩,a5,a6,a7,a8,a9,c1,c2,c3,c4⟩:=h
 exact ⟨mf a1 fun blk hb _=>h1 _ _ c1 hb (.inl rfl),h1 _ _ c2 a2 (.inr (.inl rfl)),mf a3 fun blk hb _=>h1 _ _ c3 hb (.inr (.inr (.inl rfl))),⟨T,h1 _ _ c4 t1 (.inr (.inr (.inr rfl))),t2,t3.keep h2,t4⟩,a5,a6,a7,a8,by omega,c1,c2,c3,c4⟩
theorem KB.app {base lo b1 m1 b2 m2 n:Nat} {R:List aC} {M:List (aC×List aC)} {V:ae} (h:KB base lo b1 m1 b2 m2 n R M V) (L:ae):KB base lo b1 m1 b2 m2 n R M (V++L) :=
 h.keep (by simp) (fun b blk _ hb _=>by rw [List.getElem?_append_left (List.getElem?_eq_some_iff.1 hb).1];exact hb) fun b g rs hb=>by rw [List.getElem?_append_left (List.getElem?_eq_some_iff.1 hb).1];exact hb
set_option maxHeartbeats 2000000 in
theorem I7 (S:az C) {base lo b1 m1 b2 m2 n:Nat} {R:List aC} {M:List (aC×List aC)} {X V:ae} {B:bL} (h:KB base lo b1 m1 b2 m2 n R M X) (hV:V=X++[B]) (hn:n≤2^32) (d y:aC) :
 ∃v i V1 sl V2 V3,gE Tryz.prog C base V 197 (.map m2) (.agg d.cells)=some (.tup [v,.int .i64 i],V1)∧bg Tryz.prog base V1 #[48,48] v.denil (.lst [y.cells] true)=some (sl,V2)∧
  gl base V2 (.map m2) (.int .i64 i) sl=some V3∧KB base lo b1 m1 b2 m2 (n+1) R (mY M d y) V3∧(∀b blk,b≠m2→V[b]?=some blk→(∀g rs,blk≠bL.rows 33 g rs)∨b=X.length∨b<lo→V3[b]?=some blk)∧V.length≤V3.length:=by
 obtain ⟨a1,a2,a3,⟨T,t1,t2,t3,t4⟩,a5,a6,a7,a8,a9,c1,c2,c3,c4⟩:=h
 have oldX:∀t∈T,t.b<X.length:=fun t ht=>(List.getElem?_eq_some_iff.1 (t3.1 t ht).2).1
 have up:∀{b:Nat} {blk:bL},X[b]?=some blk→V[b]?=some blk:=fun h=>by rw [hV,List.getElem?_append_left (List.getElem?_eq_some_iff.1 h).1];exact h
 replace a1:=by have:=bM a1 [B];rw [←hV] at this;exact this
 replace a3:=by have:=bM a3 [B];rw [←hV] at this;exact this
 replace a2:=up a2
 replace t1:=up t1
 replace t3:=t3.keep (X':=V) fun b g rs h=>up h
 have hVl:V.length=X.length+1:=by rw [hV];simp
 replace a9:lo≤V.length:=by omega
 have hmV:m2<V.length:=(List.getElem?_eq_some_iff.1 t1).1
 have hf:=oY S d (T.map KR.e) 0
 have hy:∀r∈[y.cells],r.length=33:=by simp
 cases hp:fG (T.map KR.e) d with
 | none =>
  rw [hp] at hf
  have hme:gE Tryz.prog C base V 197 (.map m2) (.agg d.cells)=some (.tup [.nils,.int .i64 (T.length:Int)],V.set m2 (.map (dL (T.map KR.e)++[(.agg d.cells,.nils)]))):=by
   simp only [gE,Ib,mp S,t1,hf,a7,and_self,if_true,Option.map_none]
   simp [dL]
  obtain ⟨b,g,V2,ha,hb,hk,hd,hbb,hl⟩:=xc (P:=Tryz.prog) (base:=base) (ts:=#[48,48]) (e:=27) (xd:=.slice 27) (X:=V.set m2 (.map (dL (T.map KR.e)++[(.agg d.cells,.nils)]))) (v:=.nils) (rows:=[]) (x:=.lst [y.cells] true) (ys:=[y.cells])
   (by simp) (by simp) kJ Do (by simp) (by decide) (by simp;omega) (.inl ⟨rfl,rfl⟩) rfl hy (by simp) (by simp)
  have hbl:b=V.length:=by
   rcases hd with ⟨_,_,hd⟩ | hd
   ·cases hd
   ·simpa using hd.2
  subst hbl
  have hm2:V2[m2]?=some (.map (dL (T.map KR.e)++[(.agg d.cells,.nils)])):=by rw [hk m2 (by omega) (by simpa using hmV),List.getElem?_set_self hmV]
  have hm2l:m2<V2.length:=(List.getElem?_eq_some_iff.1 hm2).1
  have hl2:V.length≤V2.length:=by simpa using hl
  have hkeep:∀b blk,b≠m2→V[b]?=some blk→(V2.set m2 (.map (dL ((T++[KR.mk d V.length g [y]]).map KR.e))))[b]?=some blk:=fun b blk hbm hbv=>by
   have hbl:=(List.getElem?_eq_some_iff.1 hbv).1
   rw [List.getElem?_set_ne (Ne.symm hbm),hk b (by omega) (by simpa using hbl),List.getElem?_set_ne (Ne.symm hbm)];exact hbv
  refine ⟨_,_,_,_,V2,V2.set m2 (.map (dL ((T++[KR.mk d V.length g [y]]).map KR.e))),hme,ha,?_,⟨mf a1 fun blk hb _=>hkeep _ _ (fun h=>by rw [h] at hb;rw [h] at a1;simp [ax,t1] at a1) hb,hkeep _ _ a5 a2,mf a3 fun blk hb _=>hkeep _ _ (fun h=>by rw [h] at a3;simp [ax,t1] at a3) hb,⟨T++[KR.mk d V.length g [y]],by rw [List.getElem?_set_self hm2l],?_,⟨?_,?_⟩,?_⟩,a5,a6,a7,a8,by simp;omega,c1,c2,c3,c4⟩,fun b blk hbm hbv _=>hkeep b blk hbm hbv,by simpa using hl2⟩
  ·simp only [gl,a7,hm2]
   simp [dL,KR.e,KR.v]
  ·rw [←t2,vB hp,List.map_append];rfl
  ·intro t ht
   rcases List.mem_append.1 ht with ht | ht
   ·obtain ⟨h1,h2⟩:=t3.1 t ht
    exact ⟨h1,hkeep _ _ (fun h=>by rw [h,t1] at h2;cases h2) h2⟩
   ·rw [List.mem_singleton] at ht
    subst ht
    refine ⟨a9,?_⟩
    rw [List.getElem?_set_ne (by show m2≠V.length;omega)];exact hb
  ·intro i j t u hi hj hij
   have old:∀(i:Nat) (t:KR),T[i]?=some t→t.b<V.length:=fun i t ht=>(List.getElem?_eq_some_iff.1 (t3.1 t (List.mem_of_getElem? ht)).2).1
   rcases Nat.lt_or_ge i T.length with hi' | hi'<;>rcases Nat.lt_or_ge j T.length with hj' | hj'
   ·rw [List.getElem?_append_left hi'] at hi;rw [List.getElem?_append_left hj'] at hj;exact t3.2 i j t u hi hj hij
   ·rw [List.getElem?_append_left hi'] at hi;rw [List.getElem?_append_right hj'] at hj
    have:=old i t hi
    cases hjj:j-T.length with
    | zero=>rw [hjj] at hj;cases hj;simp only;omega
    | succ q=>rw [hjj] at hj;cases hj
   ·rw [List.getElem?_append_right hi'] at hi;rw [List.getElem?_append_left hj'] at hj
    have:=old j u hj
    cases hii:i-T.length with
    | zero=>rw [hii] at hi;cases hi;simp only;omega
    | succ q=>rw [hii] at hi;cases hi
   ·have h1:=(List.getElem?_eq_some_iff.1 hi).1
    have h2:=(List.getElem?_eq_some_iff.1 hj).1
    simp at h1 h2;omega
  ·intro t ht
   rcases List.mem_append.1 ht with ht | ht
   ·have:=t4 t ht;omega
   ·rw [List.mem_singleton] at ht;subst ht;simp
 | some p =>
  obtain ⟨i,v⟩:=p
  rw [hp] at hf
  have hTi:=rk hp
  rw [List.getElem?_map] at hTi
  cases htt:T[i]? with
  | none=>rw [htt] at hTi;cases hTi
  | some t =>
   rw [htt] at hTi
   have hte:t.e=(d,v):=by simpa using hTi
   have htk:t.k=d:=congrArg Prod.fst hte
   have htv:t.v=v:=congrArg Prod.snd hte
   have hil:i<T.length:=(List.getElem?_eq_some_iff.1 htt).1
   have htm:=List.mem_of_getElem? htt
   obtain ⟨s1,s2⟩:=t3.1 t htm
   have hent:(dL (T.map KR.e)).set i (.agg d.cells,v)=dL (T.map KR.e):=by
    have he:(dL (T.map KR.e))[i]?=some (.agg d.cells,v):=by rw [dL,List.getElem?_map,List.getElem?_map,htt];simp [hte]
    obtain ⟨hi,he⟩:=List.getElem?_eq_some_iff.1 he
    rw [←he,List.set_getElem_self]
   have hme:gE Tryz.prog C base V 197 (.map m2) (.agg d.cells)=some (.tup [v,.int .i64 (i:Int)],V.set m2 (.map (dL (T.map KR.e)))):=by
    simp only [gE,Ib,mp S,t1,hf,a7,and_self,if_true,Option.map_some,Nat.add_zero,hent]
   have hVs:V.set m2 (.map (dL (T.map KR.e)))=V:=by
    obtain ⟨hi,he⟩:=List.getElem?_eq_some_iff.1 t1
    rw [←he,List.set_getElem_self]
   rw [hVs] at hme
   have hll:=t4 t htm
   obtain ⟨b,g,V2,ha,hb,hk,hd,hbb,hl⟩:=xc (P:=Tryz.prog) (base:=base) (ts:=#[48,48]) (e:=27) (xd:=.slice 27) (X:=V) (v:=v) (rows:=t.l.map aC.cells) (x:=.lst [y.cells] true) (ys:=[y.cells])
    (by simp) (by simp) kJ Do (by simp) (by decide) (by omega) (.inr ⟨t.b,t.g,by rw [←htv,KR.v,List.length_map],s2,by omega⟩) rfl hy (by simp) (by simp;omega)
   have hbt:b=t.b:=by
    rcases hd with ⟨_,_,hd⟩ | hd
    ·rw [←htv,KR.v] at hd;cases hd;rfl
    ·rw [←htv] at hd;cases hd.1
   subst hbt
   have hmb:m2≠t.b:=fun h=>by rw [←h,t1] at s2;cases s2
   have hm2:V2[m2]?=some (.map (dL (T.map KR.e))):=by rw [hk m2 hmb hmV];exact t1
   have hm2l:m2<V2.length:=(List.getElem?_eq_some_iff.1 hm2).1
   have hes:(dL (T.map KR.e))[i]?=some (.agg d.cells,v):=by rw [dL,List.getElem?_map,List.getElem?_map,htt];simp [hte]
   obtain ⟨t',ht'⟩:∃t',t'=KR.mk d t.b g (t.l++[y]):=⟨_,rfl⟩
   have htb:t'.b=t.b:=by rw [ht']
   have hen:(dL (T.map KR.e)).set i (.agg d.cells,.sl t.b g 33 0 ((t.l.map aC.cells).length+[y.cells].length))=dL ((T.set i t').map KR.e):=by
    rw [ht',List.map_set,dL,dL,List.map_set]
    simp [KR.e,KR.v]
   have hkeep:∀b blk,b≠m2→V[b]?=some blk→(∀g rs,blk≠bL.rows 33 g rs)∨b=X.length∨b<lo→(V2.set m2 (.map (dL ((T.set i t').map KR.e))))[b]?=some blk:=fun b blk hbm hbv hne=>by
    have hbl:=(List.getElem?_eq_some_iff.1 hbv).1
    have hbt:b≠t.b:=fun h=>by
     rcases hne with hne | hne | hne
     ·rw [h,s2] at hbv;cases hbv;exact hne _ _ rfl
     ·have:=oldX t htm;omega
     ·omega
    rw [List.getElem?_set_ne (Ne.symm hbm),hk b hbt hbl];exact hbv
   have hne1:b1≠m2:=fun h=>by rw [h] at a1;simp [ax,t1] at a1
   have hne2:b2≠m2:=fun h=>by rw [h] at a3;simp [ax,t1] at a3
   refine ⟨_,_,_,_,V2,V2.set m2 (.map (dL ((T.set i t').map KR.e))),hme,ha,?_,⟨mf a1 fun blk hb hn=>hkeep _ _ hne1 hb (.inl hn),hkeep _ _ a5 a2 (.inl (by intro g rs h;cases h)),mf a3 fun blk hb hn=>hkeep _ _ hne2 hb (.inl hn),⟨T.set i t',by rw [List.getElem?_set_self hm2l],?_,⟨?_,?_⟩,?_⟩,a5,a6,a7,a8,by simp;omega,c1,c2,c3,c4⟩,fun b blk hbm hbv hn=>hkeep b blk hbm hbv hn,by simpa using hl⟩
   ·simp only [gl,a7,hm2]
    rw [if_pos ⟨trivial,by omega⟩]
    simp only [Int.toNat_natCast,hes,hen]
   ·rw [←t2,vC (b:=t.b) (g:=g) hp htt,ht']
   ·intro u hu
    obtain ⟨j,hj,rfl⟩:=List.getElem_of_mem hu
    by_cases hij:i=j
    ·subst hij
     rw [List.getElem_set_self,htb]
     refine ⟨s1,?_⟩
     rw [List.getElem?_set_ne hmb,hb,ht'];simp
    ·rw [List.getElem_set_ne hij]
     have hjl:j<T.length:=by simpa using hj
     obtain ⟨u1,u2⟩:=t3.1 T[j] (List.getElem_mem hjl)
     have hub:=t3.2 j i T[j] t (List.getElem?_eq_getElem hjl) htt (Ne.symm hij)
     refine ⟨u1,?_⟩
     rw [List.getElem?_set_ne (fun h=>by rw [←h,t1] at u2;cases u2),hk _ hub (List.getElem?_eq_some_iff.1 u2).1];exact u2
   ·intro j1 j2 u w hj1 hj2 hne
    have get:∀(j:Nat) (u:KR),(T.set i t')[j]?=some u→∃u':KR,T[j]?=some u'∧u'.b=u.b:=by
     intro j u hj
     by_cases hij:i=j
     ·subst hij
      rw [List.getElem?_set_self hil] at hj
      cases hj
      exact ⟨t,htt,htb.symm⟩
     ·rw [List.getElem?_set_ne hij] at hj
      exact ⟨u,hj,rfl⟩
    obtain ⟨u',hu1,hu2⟩:=get j1 u hj1
    obtain ⟨w',hw1,hw2⟩:=get j2 w hj2
    rw [←hu2,←hw2]
    exact t3.2 j1 j2 u' w' hu1 hw1 hne
   ·intro u hu
    rcases List.mem_or_eq_of_mem_set hu with hu | rfl
    ·have:=t4 u hu;omega
    ·rw [ht'];simp;omega
end Go.Proofs.Ev
namespace Go.Proofs.Ev
open Go.Proofs
variable {C:bD} {σ:aZ}
section
variable {P:Program} {base:Nat} (d:Option Tmp) (ty:TypeId) (pos:String) (af:Array Edge) (g:Option (Nat×Bool)) (s:Sl) (H:ae) (K:AV→ae→Prop)
@[simp ↓] theorem KU (t:TypeId) (m k:Operand):dy P C base ⟨d,.mapEntry t m k,ty,pos,af,g⟩ s H K=qf (gE P C base H t (bU s m) (bU s k)) K:=Eq.trans rfl rfl
@[simp ↓] theorem Ip (t:TypeId) (m k x:Operand):dy P C base ⟨d,.entryStore t m k x,ty,pos,af,g⟩ s H K=vl (gl base H (bU s m) (bU s k) (bU s x)) K:=by rw [←nT];rfl
end
abbrev KS:=List aC×List (aC×List aC)
def jA (x:aG) (a:KS) (d:aC):KS:=(if x.kind=7 then wX a.1 d else a.1,mY a.2 d x.id)
def iT (a:KS) (x:aG):KS:=if mR a.1 x.id then a else x.over.foldl (jA x) a
def ow (σ:aZ) (s:List ag):KS:=(qh σ s (cn σ s s.length []) (cn σ s s.length []).length).foldl iT ([],[])
theorem KB.more {base lo b1 m1 b2 m2 n n':Nat} {R:List aC} {M:List (aC×List aC)} {V:ae} (h:KB base lo b1 m1 b2 m2 n R M V) (hn:n≤n'):KB base lo b1 m1 b2 m2 n' R M V:=by
 obtain ⟨a1,a2,a3,⟨T,t1,t2,t3,t4⟩,a5,a6⟩:=h
 exact ⟨a1,a2,a3,⟨T,t1,t2,t3,fun t ht=>Nat.le_trans (t4 t ht) hn⟩,a5,a6⟩
theorem KB.setO {base lo b1 m1 b2 m2 n b:Nat} {R:List aC} {M:List (aC×List aC)} {V:ae} {blk:bL} (x:bL) (h:KB base lo b1 m1 b2 m2 n R M V) (hb:V[b]?=some blk) (hn:∀g rs,blk≠bL.rows 33 g rs) (hne:b≠b1∧b≠m1∧b≠b2∧b≠m2):KB base lo b1 m1 b2 m2 n R M (V.set b x):=by
 refine h.keep (by simp) (fun b' blk' _ hb' hc=>?_) fun b' g rs hb'=>?_
 ·rw [List.getElem?_set_ne (by omega)];exact hb'
 ·rw [List.getElem?_set_ne]
  ·exact hb'
  ·rintro rfl
   rw [hb] at hb'
   exact hn _ _ (Option.some.inj hb')
theorem KB.ret {base lo b1 m1 b2 m2 n:Nat} {R:List aC} {M:List (aC×List aC)} {V:ae} (h:KB base lo b1 m1 b2 m2 n R M V) (d:aC):KB base lo b1 m1 b2 m2 n (wX R d) M (V.set m1 (.map (dL (lL (wX R d))))):=by
 obtain ⟨a1,a2,a3,⟨T,t1,t2,t3,t4⟩,a5,a6,a7,a8,a9,c1,c2,c3,c4⟩:=h
 have hm1:m1<V.length:=(List.getElem?_eq_some_iff.1 a2).1
 refine ⟨pT a1 a2,by rw [List.getElem?_set_self hm1],pT a3 a2,⟨T,by rw [List.getElem?_set_ne a5];exact t1,t2,t3.keep fun b g rs hb=>?_,t4⟩,a5,a6,a7,a8,by simpa using a9,c1,c2,c3,c4⟩
 rw [List.getElem?_set_ne]
 ·exact hb
 ·rintro rfl
  rw [a2] at hb;cases hb
def KI (H0:ae) (base lo b1 m1 b2 m2 bl bs:Nat) (LB:bL) (v:AV) (l:List aG) (V:ae):Prop :=
 KB base lo b1 m1 b2 m2 (2^10*l.length) (l.foldl iT ([],[])).1 (l.foldl iT ([],[])).2 V∧V[bl]?=some LB∧ax V bs 0 1 0=some [v]∧∀(b:Nat) (blk:bL),H0[b]?=some blk→V[b]?=some blk
theorem Bw (S:ba C σ) {s0:List ag} {k:SK} (hs:cr s0) (h8:s0.length≤8) {H0:ae} {base lo b1 m1 b2 m2 bl bs nb po:Nat} {l1:List AV} {ps:List Tmp} {asg bd:Code} {X:ae} (hnb:nb=bl) (hpo:po=bs)
 (hd:b1<bl∧m1<bl∧b2<bl∧m2<bl∧bs<bl∧bl<lo∧H0.length≤bl)
 (hy:∀(LB BB:bL) (_:cm l1 ps asg bd=LB) (_:mI l1 ps asg bd=BB) {l:List aG} {V:ae} (y:aG),KI H0 base lo b1 m1 b2 m2 bl bs LB (am k (s0.map ag.cells)) l V→l.length≤2^20→y.over.length≤2^10→
  aF Tryz.prog C base (.yld bl) [.agg y.cells] V fun v V'=>v=.bool true∧KI H0 base lo b1 m1 b2 m2 bl bs LB (am k (s0.map ag.cells)) (l++[y]) V'∧∀b blk,lo≤b→V[b]?=some blk→(∀g rs,blk≠bL.rows 33 g rs)→V'[b]?=some blk)
 (h0:KI H0 base lo b1 m1 b2 m2 bl bs (cm l1 ps asg bd) (am k (s0.map ag.cells)) [] (X++[cm l1 ps asg bd])) (K:AV→ae→Prop)
 (hK:∀V,KB base lo b1 m1 b2 m2 (2^30) (ow σ s0).1 (ow σ s0).2 V→V[bl]?=some (cm l1 ps asg bd)→(∀(b:Nat) (blk:bL),H0[b]?=some blk→V[b]?=some blk)→K (.tup []) V) :
 dU Tryz.prog C base 254 [.yld nb,.ptr po 0 1 0 0] (X++[cm l1 ps asg bd]) K:=by
 subst hnb;subst hpo
 have hLm:∀d∈cn σ s0 s0.length [],fU s0 d.d=true:=by
  intro d hd
  rcases lG s0 _ _ d hd with h | ⟨x,hx,rfl⟩
  ·cases h
  ·unfold fU;rw [List.find?_isSome];exact ⟨x,hx,by simp⟩
 have hll:(cn σ s0 s0.length []).length≤8:=by have:=eQ (σ:=σ) s0 s0.length [];simp at this;omega
 refine zs S (k:=k) hs h8 (start:=lo) (I:=KI H0 base lo b1 m1 b2 m2 nb po (cm l1 ps asg bd) (am k (s0.map ag.cells))) ⟨?_,?_,?_,?_,?_⟩ h0 K ?_
 ·rintro l V L ⟨h1,h2,h3,h4⟩
  exact ⟨h1.app L,by rw [List.getElem?_append_left (List.getElem?_eq_some_iff.1 h2).1];exact h2,bM h3 L,fun b blk hb=>by have:=h4 b blk hb;rw [List.getElem?_append_left (List.getElem?_eq_some_iff.1 this).1];exact this⟩
 ·rintro l V b blk x ⟨h1,h2,h3,h4⟩ hb hg hn
  refine ⟨h1.setO x hg hn (by omega),by rw [List.getElem?_set_ne (by omega)];exact h2,?_,fun b' blk' hb'=>by have:=(List.getElem?_eq_some_iff.1 hb').1;rw [List.getElem?_set_ne (by omega)];exact h4 b' blk' hb'⟩
  unfold ax at h3 ⊢
  rw [List.getElem?_set_ne (by omega)];exact h3
 ·rintro l V ⟨h1,_,_⟩
  exact ⟨h1.low.2.2.1,h1.low.2.2.2.1⟩
 ·rintro l V ⟨_,_,h3,_⟩
  exact h3
 ·intro l V y h hl ho
  obtain ⟨V',⟨h1,h2⟩,e⟩:=aF.ex (hy _ _ rfl rfl y h hl ho)
  exact ⟨V',h1,h2,e⟩
 ·rintro V ⟨h1,h2,_,h4⟩
  have hlat:=zr (σ:=σ) hs hLm (cn σ s0 s0.length []).length
  exact hK V (h1.more (by omega)) h2 h4
set_option maxRecDepth 100000 in
set_option maxHeartbeats 8000000 in
theorem Bx (S:ba C σ) {s0:List ag} {k:SK} (hs:cr s0) (h8:s0.length≤8) {base:Nat} {H:ae} (hb:base≤H.length) :
 ∃V T,V[H.length+2]?=some (.map (dL (T.map KR.e)))∧T.map KR.m=(ow σ s0).2∧yz (H.length+6) T V∧(∀t∈T,t.l.length≤2^30)∧(∀(b:Nat) (blk:bL),H[b]?=some blk→V[b]?=some blk)∧∀K:AV→ae→Prop,aF Tryz.prog C base (.fn 113 []) [am k (s0.map ag.cells)] H K=K (.map (H.length+2)) V:=by
 suffices h:aF Tryz.prog C base (.fn 113 []) [am k (s0.map ag.cells)] H (fun v' V=>v'=.map (H.length+2)∧∃T:List KR,V[H.length+2]?=some (.map (dL (T.map KR.e)))∧T.map KR.m=(ow σ s0).2∧yz (H.length+6) T V∧(∀t∈T,t.l.length≤2^30)∧∀(b:Nat) (blk:bL),H[b]?=some blk→V[b]?=some blk) by
  obtain ⟨n,v1,V,h1,rfl,T,h2,h3,h4,h5,h6⟩:=h
  exact ⟨V,T,h2,h3,h4,h5,h6,fun K=>aF.eq ⟨n,_,_,h1,rfl,rfl⟩ K⟩
 refine bW (S.plainT _ (by decide)).1 (S.plainT _ (by decide)).2 (aj Tryz.func113 rfl (S.prim _ (by decide)) (by simp) (by kernel_rfl) ?_)
 unfold Tryz.f113
 obtain ⟨v,hv⟩:∃v,v=am k (s0.map ag.cells):=⟨_,rfl⟩
 have hvl:v.leaf=true:=by rw [hv];simp
 have hvc:v.cells=[v]:=by rw [hv];simp
 have el:=fun (X:ae) (K:AV→ae→Prop)=>D6 S v hvl hvc (base:=base) (H:=X) K
 rw [←hv]
 refine cut (fun s X=>s 0=v∧X=H) ?_ ?_
 ·simp [aE]
 rintro s X ⟨q0,rfl⟩
 have hnm1:AV.nilm.cells.length=1:=rfl
 have hnm2:AV.nilm.cells.tail=[]:=rfl
 have hb1:base≤X.length+1:=by omega
 have hb3:base≤X.length+3:=by omega
 refine cut (fun s X'=>s 0=v∧s 3=.ptr (X.length+1) 0 1 0 0∧X'=X++[.map [],.rows 1 0 [[.map X.length]]]) ?_ ?_
 ·simp [q0,ao,hnm1,hnm2,hb1]
 rintro s X' ⟨q0,q3,rfl⟩
 refine cut (fun s X'=>s 0=v∧s 3=.ptr (X.length+1) 0 1 0 0∧s 4=.ptr (X.length+3) 0 1 0 0∧X'=X++[.map [],.rows 1 0 [[.map X.length]],.map [],.rows 1 0 [[.map (X.length+2)]]]) ?_ ?_
 ·simp [q0,q3,ao,hnm1,hnm2,hb3]
 rintro s X' ⟨q0,q3,q4,rfl⟩
 refine cut (fun s V=>∃b2:Nat,ax V b2 0 1 0=some [.map (X.length+2)]∧s 4=.ptr b2 0 1 0 0∧∃T:List KR,V[X.length+2]?=some (.map (dL (T.map KR.e)))∧T.map KR.m=(ow σ s0).2∧yz (X.length+6) T V∧(∀t∈T,t.l.length≤2^30)∧∀(b:Nat) (blk:bL),X[b]?=some blk→V[b]?=some blk) ?_ ?_
 rotate_left
 ·rintro s V ⟨b2,h1,q4,T,h2,h3,h4,h5,h6⟩
  simp [q4,h1]
  exact ⟨T,h2,h3,h4,h5,h6⟩
 refine cut (fun s X'=>s 3=.ptr (X.length+1) 0 1 0 0∧s 4=.ptr (X.length+3) 0 1 0 0∧s 11=.fn 254 [.ptr (X.length+4) 0 1 0 0]∧X'=X++[.map [],.rows 1 0 [[.map X.length]],.map [],.rows 1 0 [[.map (X.length+2)]],.rows 1 0 [[v]]]) ?_ ?_
 ·simp [q0,q3,q4,el]
 clear q0 q3 q4
 rintro s X' ⟨q3,q4,q11,rfl⟩
 rw [fI,lU]
 refine gw (f:=254) (caps:=[.ptr (X.length+4) 0 1 0 0]) (by simp [q11]) fun l1 hr1=>?_
 refine Bw S (k:=k) (H0:=X) (base:=base) (lo:=X.length+6) (b1:=X.length+1) (m1:=X.length) (b2:=X.length+3) (m2:=X.length+2) (bl:=X.length+5) (bs:=X.length+4) hs h8 (by simp) rfl (by omega) ?_ ?_ _ ?_
 ·rw [←hv]
  rintro LB BB hLB hBB l V y ⟨hKB,hbl,hbs,hlo⟩ hl ho
  have hLr:∀sz g rs,LB≠.rows sz g rs:=by intro sz g rs h;rw [←hLB] at h;cases h
  have hBr:∀sz g rs,BB≠.rows sz g rs:=by intro sz g rs h;rw [←hBB] at h;cases h
  have hlow:=hKB.low
  have hblV:X.length+5<V.length:=(List.getElem?_eq_some_iff.1 hbl).1
  obtain ⟨W,hW⟩:∃W,W=V.set (X.length+5) BB:=⟨_,rfl⟩
  have hWl:W.length=V.length:=by rw [hW];simp
  have hblW:X.length+5<W.length:=by omega
  have hWV:W.set (X.length+5) LB=V:=by
   obtain ⟨hi,he⟩:=List.getElem?_eq_some_iff.1 hbl
   rw [hW,List.set_set,←he,List.set_getElem_self]
  obtain ⟨a,ha⟩:∃a,a=l.foldl iT ([],[]):=⟨_,rfl⟩
  have hfold:(l++[y]).foldl iT ([],[])=iT a y:=by rw [List.foldl_append,←ha];rfl
  have hKW:=hKB.setO BB hbl (hLr _) (by omega)
  rw [←hW] at hKW
  have hgW:W[X.length+5]?=some BB:=by rw [hW,List.getElem?_set_self hblV]
  have hbsW:ax W (X.length+4) 0 1 0=some [v]:=by
   unfold ax at hbs ⊢
   rw [hW,List.getElem?_set_ne (by omega)];exact hbs
  unfold KI
  rw [hfold]
  rw [←ha] at hKB hKW
  have hgl:∀M,(V++M)[X.length+5]?=some LB:=fun M=>by rw [List.getElem?_append_left hblV];exact hbl
  have hsl:∀M,(V++M).set (X.length+5) BB=W++M:=fun M=>by rw [hW];exact List.set_append_left _ _ hblV
  have hgWM:∀M,(W++M)[X.length+5]?=some BB:=fun M=>by rw [List.getElem?_append_left hblW];exact hgW
  have hsWM:∀M,(W++M).set (X.length+5) LB=V++M:=fun M=>by rw [List.set_append_left _ _ hblW,hWV]
  have hb1r:∀M,ax (W++M) (X.length+1) 0 1 0=some [.map X.length]:=fun M=>(hKW.app M).p1
  have elk:=fun M=>GJ S.toaz (hKW.app M).r y.id
  have fy:∀M,ax (W++bL.rows 172 0 [y.cells]::M) V.length 0 172 0=some y.cells:=fun M=>by rw [←hWl];simp
  have hbV:base≤V.length:=by omega
  have hkW:∀b blk,X.length+6≤b→V[b]?=some blk→W[b]?=some blk:=fun b blk hb h=>by rw [hW,List.getElem?_set_ne (by omega)];exact h
  refine gy hr1 (hget:=by rw [hLB];exact hbl) (by omega) rfl (by decide) (by kernel_rfl) (by kernel_rfl) ?_
  rw [hLB,hBB]
  cases hh:mR a.1 y.id with
  | true =>
   have hst:iT a y=a:=by rw [iT,hh,if_pos rfl]
   rw [hst]
   simp [q3,ao,aD,hgl,hsl,hbV,hb1r,fy,elk,hh,hgWM,hsWM,hLB]
   refine ⟨rfl,⟨(hKB.app _).more (by simp;omega),bM hbs _,fun b blk hb=>by have:=hlo b blk hb;rw [List.getElem?_append_left (List.getElem?_eq_some_iff.1 this).1];exact this⟩,fun b blk hb hg _=>by rw [List.getElem?_append_left (List.getElem?_eq_some_iff.1 hg).1];exact hg⟩
  | false =>
   have hst:iT a y=y.over.foldl (jA y) a:=by rw [iT,hh,if_neg (by decide)]
   rw [hst]
   simp [q3,q4,ao,aD,hgl,hsl,hbV,hb1r,fy,elk,hh]
   refine ay y.over.length (fun j s Z=>s 3=.ptr (X.length+1) 0 1 0 0∧s 4=.ptr (X.length+3) 0 1 0 0∧s 5=.ptr V.length 0 172 0 0∧s 18=am y.overK (y.over.map aC.cells)∧s 19=.int .i64 y.over.length∧s 20=.int .i64 j∧
    KB base (X.length+6) (X.length+1) X.length (X.length+3) (X.length+2) (2^10*l.length+j) ((y.over.take j).foldl (jA y) a).1 ((y.over.take j).foldl (jA y) a).2 Z∧Z[X.length+5]?=some BB∧Z[V.length]?=some (.rows 172 0 [y.cells])∧ax Z (X.length+4) 0 1 0=some [v]∧
    (∀(b:Nat) (blk:bL),X[b]?=some blk→Z[b]?=some blk)∧∀b blk,X.length+6≤b→V[b]?=some blk→(∀g rs,blk≠bL.rows 33 g rs)→Z[b]?=some blk) ?_ ?_
   ·refine ⟨q3,q4,rfl,rfl,rfl,rfl,hKW.app _,hgWM _,by rw [←hWl];simp,bM hbsW _,fun b blk hb=>by have h1:=(List.getElem?_eq_some_iff.1 hb).1;have h2:=hlo b blk hb;rw [List.getElem?_append_left (by omega),hW,List.getElem?_set_ne (by omega)];exact h2,fun b blk hb hg _=>by rw [List.getElem?_append_left (by have:=(List.getElem?_eq_some_iff.1 hg).1;omega)];exact hkW b blk hb hg⟩
   rintro j s Z ⟨q3,q4,q5,q18,q19,q20,hKZ,hgZ,hyZ,hbsZ,hloZ,hkZ⟩ hj
   by_cases hjl:j<y.over.length
   rotate_left
   ·have h':j=y.over.length:=by omega
    subst h'
    rw [List.take_length] at hKZ
    have hZl:X.length+5<Z.length:=(List.getElem?_eq_some_iff.1 hgZ).1
    simp [q3,q4,q5,q18,q19,q20,hgZ,hLB]
    refine ⟨rfl,⟨(hKZ.setO LB hgZ (hBr _) (by omega)).more (by simp;omega),by rw [List.getElem?_set_self hZl],?_,fun b blk hb=>by have h1:=(List.getElem?_eq_some_iff.1 hb).1;rw [List.getElem?_set_ne (by omega)];exact hloZ b blk hb⟩,fun b blk hb hg hn=>by rw [List.getElem?_set_ne (by omega)];exact hkZ b blk hb hg hn⟩
    unfold ax at hbsZ ⊢
    rw [List.getElem?_set_ne (by omega)];exact hbsZ
   obtain ⟨z,hz⟩:∃z,z=y.over[j]:=⟨_,rfl⟩
   obtain ⟨vv,i,V1,sl,V2,V3,e1,e2,e3,hK3,hk3,hl3⟩:=I7 S.toaz hKZ (B:=.rows 33 0 [z.cells]) rfl (by omega) z y.id
   have hfj:(y.over.take (j+1)).foldl (jA y) a=jA y ((y.over.take j).foldl (jA y) a) z:=by
    rw [List.take_add_one,List.getElem?_eq_getElem hjl,List.foldl_append,hz];rfl
   obtain ⟨ac,hac⟩:∃ac,ac=(y.over.take j).foldl (jA y) a:=⟨_,rfl⟩
   rw [←hac] at hKZ hK3 hfj
   have hyZM:∀M,ax (Z++M) V.length 0 172 0=some y.cells:=fun M=>bM (by simp [ax,hyZ]) M
   have hp2:∀M,ax (Z++M) (X.length+3) 0 1 0=some [.map (X.length+2)]:=fun M=>(hKZ.app M).p2
   have hZlen:V.length<Z.length:=(List.getElem?_eq_some_iff.1 hyZ).1
   have hup:∀{b:Nat} {blk:bL},Z[b]?=some blk→(Z++[bL.rows 33 0 [z.cells]])[b]?=some blk:=fun h=>by rw [List.getElem?_append_left (List.getElem?_eq_some_iff.1 h).1];exact h
   have hy3:V3[V.length]?=some (.rows 172 0 [y.cells]):=hk3 _ _ (by omega) (hup hyZ) (.inl (by intro g rs h;cases h))
   have hz3:V3[Z.length]?=some (.rows 33 0 [z.cells]):=hk3 _ _ (by omega) (by simp) (.inr (.inl rfl))
   have hg3:V3[X.length+5]?=some BB:=hk3 _ _ (by omega) (hup hgZ) (.inl (hBr _))
   have hbs3:ax V3 (X.length+4) 0 1 0=some [v]:=mf hbsZ fun blk hb hn=>hk3 _ _ (by omega) (hup hb) (.inl hn)
   have hkk3:∀b blk,X.length+6≤b→V[b]?=some blk→(∀g rs,blk≠bL.rows 33 g rs)→V3[b]?=some blk:=fun b blk hb hg hn=>hk3 _ _ (by omega) (hup (hkZ b blk hb hg hn)) (.inl hn)
   have hlo3:∀(b:Nat) (blk:bL),X[b]?=some blk→V3[b]?=some blk:=fun b blk hb=>hk3 _ _ (by have:=(List.getElem?_eq_some_iff.1 hb).1;omega) (hup (hloZ b blk hb)) (.inr (.inr (by have:=(List.getElem?_eq_some_iff.1 hb).1;omega)))
   have hyr3:ax V3 V.length 0 172 0=some y.cells:=by simp [ax,hy3]
   have hzr3:ax V3 Z.length 0 33 0=some z.cells:=by simp [ax,hz3]
   have hp13:=hK3.p1
   have hbZ:base≤Z.length:=by omega
   have eu:=Kf S.toaz (base:=base) hK3.low.1 hK3.r z
   by_cases hk7:y.kind=7
   ·simp [q3,q4,q5,q18,q19,q20,hjl,←hz,ao,aD,hbZ,hp2,hyZM,ah,aq,e1,e2,e3,hyr3,hzr3,hp13,hk7,eu,au hjl (by omega)]
    have hso:jA y ac z=(wX ac.1 z,mY ac.2 z y.id):=by simp [jA,hk7]
    rw [hfj,hso]
    refine ⟨(hK3.ret z).more (by omega),hg3,by rw [List.getElem?_set_ne (by omega)];exact hy3,?_,fun b blk hb=>by have h1:=(List.getElem?_eq_some_iff.1 hb).1;rw [List.getElem?_set_ne (by omega)];exact hlo3 b blk hb,fun b blk hb hg hn=>by rw [List.getElem?_set_ne (by omega)];exact hkk3 b blk hb hg hn⟩
    unfold ax at hbs3 ⊢
    rw [List.getElem?_set_ne (by omega)];exact hbs3
   ·simp [q3,q4,q5,q18,q19,q20,hjl,←hz,ao,aD,hbZ,hp2,hyZM,ah,aq,e1,e2,e3,hyr3,hzr3,hp13,hk7,au hjl (by omega)]
    have hso:jA y ac z=(ac.1,mY ac.2 z y.id):=by simp [jA,hk7]
    rw [hfj,hso]
    exact ⟨hK3.more (by omega),hg3,hy3,hbs3,hlo3,hkk3⟩
 ·rw [←hv]
  refine ⟨⟨by simp [ax],by simp [dL,lL],by simp [ax],⟨[],by simp [dL],rfl,⟨by simp,by simp⟩,by simp⟩,by omega,by simp;omega⟩,by simp,by simp [ax],fun b blk hb=>by have h1:=(List.getElem?_eq_some_iff.1 hb).1;rw [List.append_assoc,List.getElem?_append_left h1];exact hb⟩
 ·intro V hKB hbl hlo
  have hlen:(X++[bL.map [],.rows 1 0 [[.map X.length]],.map [],.rows 1 0 [[.map (X.length+2)]],.rows 1 0 [[v]]]).length=X.length+5:=by simp
  rw [hlen,fo hbl]
  have hKB2:=hKB.setO .dead hbl (by intro g rs h;cases h) (by omega)
  obtain ⟨T,h2,h3,h4,h5⟩:=hKB2.o
  simp
  exact ⟨_,hKB2.p2,q4,T,by simpa using h2,h3,h4,h5,fun b blk hb=>by have h1:=(List.getElem?_eq_some_iff.1 hb).1;rw [List.getElem?_set_ne (by omega)];exact hlo b blk hb⟩
end Go.Proofs.Ev
