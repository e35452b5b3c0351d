/- Part 24 of the proof that quiltlaw38.BlameTouching returns true: no statement of its own. -/
import Derived.Test.YtbpaeodbnleoaaaGreatDoorT23
import Derived.Test.YtbpaeodbnleoaaaGreatDoorT7
set_option linter.all false
namespace Go.Proofs.Ev
open Go.Proofs
variable {C:bG} {σ:aZ}
theorem Gs {P:Program} {f:FuncId} {caps args:List AV} {A:AV→Prop} {base:Nat} {H:ag} (h:∃v,(∃n,dp P C n base (.fn f caps) args H=some (v,H))∧A v):∃v,A v∧∀K:AV→ag→Prop,aD P C base (.fn f caps) args H K=K v H:=by
 obtain ⟨v,⟨n,hn⟩,ha⟩:=h
 exact ⟨v,ha,aD.eq ⟨n,v,H,hn,rfl,rfl⟩⟩
def gC (base sz:Nat) (X:ag) (v:AV) (rows:List (List AV)):Prop:=(rows=[]∧v=.nils)∨(rows≠[]∧∃b g,v=.sl b g sz 0 rows.length∧X[b]?=some (.rows sz g rows)∧base≤b)
theorem gC.keep {base sz:Nat} {X X':ag} {v:AV} {rows:List (List AV)} (h:gC base sz X v rows) (hk:∀(b g:Nat) (rs:List (List AV)),base≤b→X[b]?=some (bQ.rows sz g rs)→X'[b]?=some (bQ.rows sz g rs)):gC base sz X' v rows:=by
 rcases h with h | ⟨h0,b,g,h1,h2,h3⟩
 ·exact .inl h
 ·exact .inr ⟨h0,b,g,h1,hk _ _ _ h3 h2,h3⟩
theorem gC.app {base sz:Nat} {X:ag} {v:AV} {rows:List (List AV)} (h:gC base sz X v rows) (L:ag):gC base sz (X++L) v rows :=
 h.keep fun b g rs _ hb=>by rw [List.getElem?_append_left (List.getElem?_eq_some_iff.1 hb).1];exact hb
theorem gC.freeze {base k sz d:Nat} {X:ag} {v:AV} {rows:List (List AV)} (h:gC base sz X v rows) (hk:k≤base) (hc:AV.closedss rows=true):aJ X k (d+1) v=some (aw (dS rows) rows):=by
 rcases h with ⟨rfl,rfl⟩ | ⟨h0,b,g,rfl,h2,h3⟩
 ·simp [dS,aw]
 ·cases rows with
  | nil=>exact absurd rfl h0
  | cons r rows=>rw [fF h2 (by omega) hc];rfl
theorem gC.append {P:Program} {base lo:Nat} {ts:Array TypeId} {e:TypeId} {xd:TypeDesc} {sz by_:Nat} (h0:(ts[0]?).bind P.underlying=some (.slice e)) (h1:(ts[1]?).bind P.underlying=some xd) (hs:bF P e=some sz) (hb:bytesOf P e=some by_)
 (hz:(aQ P e).map (fun z=>z.cells.length)=some sz) (hp:0<sz) (hbl:base≤lo) {X:ag} (hX:lo≤X.length) {v x:AV} {rows ys:List (List AV)} (hv:gC lo sz X v rows)
 (hx:cQ X xd x=some ys) (hy:∀r∈ys,r.length=sz) (hne:ys≠[]) (hbound:(rows.length+ys.length)*(by_+1)≤2^45) :
 ∃v' X',bA P base X ts v.denil x=some (v',X')∧gC lo sz X' v' (rows++ys)∧X.length≤X'.length∧(∃b g l,v'=.sl b g sz 0 l)∧∀k blk,X[k]?=some blk→(∀b g l,v=.sl b g sz 0 l→k≠b)→X'[k]?=some blk∧∀b g l,v'=.sl b g sz 0 l→k≠b:=by
 obtain ⟨b,g,X',ha,hg,hk,hd,hbb,hl⟩:=wS h0 h1 hs hb hz hp (base:=base) (by omega) (by
  rcases hv with h | ⟨_,b,g,h1,h2,h3⟩
  ·exact .inl h
  ·exact .inr ⟨b,g,h1,h2,by omega⟩) hx hy hne hbound
 have hlb:lo≤b:=by
  rcases hd with ⟨g',l,hd⟩ | ⟨_,hd⟩
  ·rcases hv with ⟨_,h⟩ | ⟨_,b',g2,h1,h2,h3⟩
   ·rw [hd] at h;cases h
   ·rw [hd] at h1;cases h1;exact h3
  ·omega
 refine ⟨_,X',ha,.inr ⟨by simp [hne],b,g,by simp,hg,hlb⟩,hl,⟨_,_,_,rfl⟩,fun k blk hkb hn=>?_⟩
 have hkl:=(List.getElem?_eq_some_iff.1 hkb).1
 have hkne:k≠b:=by
  rcases hd with ⟨g',l,hd⟩ | ⟨_,hd⟩
  ·exact hn _ _ _ hd
  ·omega
 exact ⟨by rw [hk k hkne hkl];exact hkb,fun b' g' l' h=>by cases h;exact hkne⟩
theorem D8 {p:aC} (hp:p.Good):aR p≠[]:=by
 obtain ⟨_,hc0,_⟩:=hp.head
 rw [hp.atoms]
 cases hc:p.changes with
 | nil=>rw [hc] at hc0;exact absurd rfl hc0
 | cons c l =>
  have h1:=(uo c 0 (hp.good (c:=c) (by rw [hc];simp)).lnn).2
  have h2:=kS l ([]++cg c 0)
  intro h0
  rw [bk,List.length_nil] at h0
  rw [h0] at h2
  exact h1 (List.length_eq_zero_iff.1 (by simpa using h2))
theorem DW {p:aC} (hp:p.Good):bj σ p≠[]:=by
 intro h
 unfold bj at h
 exact D8 hp (List.map_eq_nil_iff.1 h)
def dC (σ:aZ) (s:List ah):List aH:=(s.map fun x=>bj σ x.patch).flatten
theorem DS (s:List ah) (x:ah):dC σ (s++[x])=dC σ s++bj σ x.patch:=by simp [dC]
theorem yy {s:List ah} (hs:b8 s):(dC σ s).length≤90000*s.length:=iz fun x hx=>gg (hs.1 x hx)
theorem CM (S:bY C σ) {base:Nat} {H:ag} (K:AV→ag→Prop):aD Tryz.prog C base (.fn 59 []) [.nils,.fn 60 []] H K=K (.tup []) H:=by
 have ei:∀K:AV→ag→Prop,aD Tryz.prog C base (.fn 169 []) [.nils,.int .i64 0,.int .i64 0,.fn 60 []] H K=K (.tup []) H:=by
  intro K
  refine aD.eq (bn (S.plainU _ (by decide)).1 (S.plainU _ (by decide)).2 (am Tryz.func169 rfl (S.prim _ (by decide)) (by simp) (by kernel_rfl) ?_)) K
  unfold Tryz.f169
  simp [aG]
  refine az 0 (fun i s X=>s 2=.int .i64 0∧s 8=.int .i64 1∧X=H) ⟨rfl,rfl,rfl⟩ ?_
  rintro i s X ⟨q2,q8,rfl⟩ _
  simp [q2,q8]
 have es:∀K:AV→ag→Prop,aD Tryz.prog C base (.fn 108 []) [.nils,.int .i64 0,.fn 60 []] H K=K (.tup []) H:=by
  intro K
  refine aD.eq (bn (S.plainU _ (by decide)).1 (S.plainU _ (by decide)).2 (am Tryz.func108 rfl (S.prim _ (by decide)) (by simp) (by kernel_rfl) ?_)) K
  unfold Tryz.f108
  simp [aG]
  refine az 0 (fun i s X=>s 0=.nils∧s 1=.int .i64 0∧s 2=.fn 60 []∧s 6=.int .i64 20∧s 7=.int .i64 0∧s 8=.int .i64 20∧X=H) ⟨rfl,rfl,rfl,rfl,rfl,rfl,rfl⟩ ?_
  rintro i s X ⟨q0,q1,q2,q6,q7,q8,rfl⟩ _
  simp [q0,q1,q2,q6,q7,q8,ei]
  refine az 0 (fun i s X'=>s 1=.int .i64 0∧s 6=.int .i64 20∧X'=X) ⟨q1,q6,rfl⟩ ?_
  rintro i s X' ⟨q1,q6,rfl⟩ _
  simp [q1,q6]
 refine aD.eq (bn (S.plainU _ (by decide)).1 (S.plainU _ (by decide)).2 (am Tryz.func59 rfl (S.prim _ (by decide)) (by simp) (by kernel_rfl) ?_)) K
 unfold Tryz.f59
 simp [aG,es]
end Go.Proofs.Ev
namespace Go.Proofs.Ev
open Go.Proofs
variable {C:bG} {σ:aZ}
def jE (σ:aZ) (s:List ah) (d:aI):Bool:=(fR (qn σ s).2 d).isEmpty
def iR (σ:aZ) (s:List ah) (L:List aH):List aI:=(L.filter fun x=>jE σ s x.id).map fun x=>x.id
theorem B1 (s:List ah) (L:List aH) (x:aH):iR σ s (L++[x])=iR σ s L++if jE σ s x.id then [x.id] else []:=by
 unfold iR;rw [List.filter_append];cases h:jE σ s x.id<;>simp [h]
theorem wd (s:List ah) (L:List aH):(iR σ s L).length≤L.length:=by
 unfold iR;rw [List.length_map];exact List.length_filter_le _ _
theorem nD {s:List ah} (hs:b8 s) (h8:s.length≤8) {L:List aH} (h:L.Perm (dC σ s)):L.length≤720000:=by
 have h1:=yy (σ:=σ) hs;have:=h.length_eq;omega
end Go.Proofs.Ev
namespace Go.Proofs.Ev
structure sS where
 entry:aI
 parent:aI
 name:List UInt8
def sS.cells (x:sS):List AV:=x.entry.cells++(x.parent.cells++([.str x.name]))
@[simp] theorem sS.len (x:sS):x.cells.length=67:=by simp [sS.cells]
@[simp] theorem sS.leafs (x:sS):x.cells.all AV.leaf=true:=by simp only [sS.cells,List.all_append,List.all_cons,aI.leafs,ar.leafs,List.all_nil,lQ,np,nq,lG,Bool.and_self,Bool.true_and,Bool.and_true]
@[simp] theorem sS.takeAll (x:sS):x.cells.take 67=x.cells:=List.take_of_length_le (by simp)
@[simp] theorem sS.closed (x:sS):AV.closeds x.cells=true:=by
 simp [sS.cells,cZ,AV.closeds,AV.closed]
end Go.Proofs.Ev
namespace Go.Proofs.Ev
open Go.Proofs
variable {C:bG} {σ:aZ}
end Go.Proofs.Ev
namespace Go.Proofs.Ev
open Go.Proofs
variable {C:bG} {σ:aZ}
end Go.Proofs.Ev
namespace Go.Proofs.Ev
open Go.Proofs
variable {C:bG} {σ:aZ}
end Go.Proofs.Ev
namespace Go.Proofs.Ev
open Go.Proofs
variable {C:bG} {σ:aZ}
def rq (a:aH):sS:=⟨a.id,a.parent,a.name⟩
theorem Hq (a:aH):ed Tryz.prog 39 [(0,.agg a.id.cells),(1,.agg a.parent.cells),(2,.str a.name)]=some (.agg (rq a).cells):=by
 have h2:a.id.cells.length=33:=by simp
 have h3:a.parent.cells.length=33:=by simp
 have h5:aO.cells.length=33:=by simp
 have l2:=a.id.leafs
 have l3:=a.parent.leafs
 have a1:(aO.cells++aO.cells++[AV.str []]).drop 33=aO.cells++[.str []]:=by rw [List.append_assoc,dY (n:=33) h5 (by decide)];rfl
 have a2:(a.id.cells++(aO.cells++[AV.str []])).drop 66=[.str []]:=by rw [dY (n:=33) h2 (by decide),dY (n:=33) h5 (by decide)];rfl
 have a3:(a.id.cells++(a.parent.cells++[AV.str []])).take 66=a.id.cells++a.parent.cells:=by rw [←List.append_assoc,List.take_append_of_le_length (by simp)];exact List.take_of_length_le (by simp)
 simp [aE,h2,h3,a1,a2,a3,sS.cells,rq]
end Go.Proofs.Ev
namespace Go.Proofs.Ev
open Go.Proofs
variable {C:bG} {σ:aZ}
section
variable {P:Program} {N base:Nat}
end
end Go.Proofs.Ev
namespace Go.Proofs.Ev
open Go.Proofs
variable {C:bG} {σ:aZ}
theorem vF (S:bY C σ) (v:AV) (hv:v.leaf=true) (hc:v.cells=[v]) {base:Nat} {H:ag} (K:AV→ag→Prop) :
 aD Tryz.prog C base (.fn 22 []) [v] H K=K (.fn 54 [.ptr H.length 0 1 0 0]) (H++[.rows 1 0 [[v]]]):=by
 refine aD.eq (bn (S.plainU _ (by decide)).1 (S.plainU _ (by decide)).2 (am Tryz.func22 rfl (S.prim _ (by decide)) (by simp) (by kernel_rfl) ?_)) K
 unfold Tryz.f22
 simp [aG,hv,hc]
def fT (σ:aZ) (s:List ah) (L:List ar):List aH:=(L.map fun d=>bj σ (d3 s d.d)).flatten
theorem wn {s:List ah} {L:List ar} {j:Nat} {d:ar} (h:L[j]?=some d):fT σ s (L.take (j+1))=fT σ s (L.take j)++bj σ (d3 s d.d):=by
 unfold fT;rw [List.take_add_one,h];simp
theorem uu {s:List ah} (hs:b8 s) {L:List ar} (hL:∀d∈L,jn s d.d=true):(fT σ s L).length≤90000*L.length :=
 iz fun d hd=>gg (d4 hs (hL d hd)).1
set_option maxRecDepth 100000 in
set_option maxHeartbeats 4000000 in
theorem rS (S:bY C σ) {s0:List ah} {k:SK} (hs:b8 s0) (h8:s0.length≤8) {base bl bs:Nat} {I:List aH→ag→Prop} (happ:∀l X L,I l X→I l (X++L)) (hb:∀l X,I l X→base≤X.length∧ax X bs 0 1 0=some [aw k (s0.map ah.cells)])
 (hy:∀l X x,I l X→l.length≤2^20→x.over.length≤2^10→aD Tryz.prog C base (.yld bl) [.agg (aH.cells x)] X fun v X'=>v=.bool true∧I (l++[x]) X')
 {X0:ag} (h0:I [] X0) (K:AV→ag→Prop) (hK:∀X,I (fT σ s0 (cr σ s0 s0.length [])) X→K (.tup []) X) :
 dW Tryz.prog C base 54 [.yld bl,.ptr bs 0 1 0 0] X0 K:=by
 refine am Tryz.func54 rfl (S.prim _ (by decide)) (by simp) (by kernel_rfl) ?_
 unfold Tryz.f54
 obtain ⟨L,hL⟩:∃L,L=cr σ s0 s0.length []:=⟨_,rfl⟩
 have hLm:∀d∈L,jn s0 d.d=true:=by
  intro d hd
  rw [hL] at hd
  rcases iT s0 _ _ d hd with h | ⟨x,hx,rfl⟩
  ·cases h
  ·unfold jn;rw [List.find?_isSome];exact ⟨x,hx,by simp⟩
 have hLl:L.length≤8:=by rw [hL];have:=lK (σ:=σ) s0 s0.length [];simp at this;omega
 have eo:=(ww S.tobB s0 k hs).eq
 rw [←hL] at eo hK
 have hOl:∀j,(fT σ s0 (L.take j)).length≤720000:=fun j=>by
  have h1:=uu (σ:=σ) hs (L:=L.take j) fun d hd=>hLm d (List.mem_of_mem_take hd)
  have h2:(L.take j).length≤8:=by simp;omega
  omega
 obtain ⟨_,hb0⟩:=hb [] X0 h0
 simp [aG,hb0,eo]
 refine az L.length (fun j s X=>s 0=.yld bl∧s 1=.ptr bs 0 1 0 0∧s 12=aw (dS L) (L.map ar.cells)∧s 13=.int .i64 L.length∧s 14=.int .i64 j∧I (fT σ s0 (L.take j)) X) ?_ ?_
 ·exact ⟨rfl,rfl,rfl,rfl,rfl,h0⟩
 rintro j s X ⟨q0,q1,q12,q13,q14,hI⟩ hj
 by_cases h:j<L.length
 rotate_left
 ·have h':j=L.length:=by omega
  subst h'
  rw [List.take_length] at hI
  simp [q0,q1,q12,q13,q14]
  exact hK X hI
 obtain ⟨d,hd⟩:∃d,d=L[j]:=⟨_,rfl⟩
 have hdm:d∈L:=by rw [hd];exact List.getElem_mem h
 have hsu:=wn (σ:=σ) (s:=s0) (L:=L) (j:=j) (d:=d) (by rw [hd];exact List.getElem?_eq_getElem h)
 obtain ⟨hbX,_⟩:=hb _ X hI
 obtain ⟨hpg,_⟩:=d4 hs (hLm d hdm)
 have eg:=(uE S.tobB s0 k d hs.2.2).eq
 have ea:=(j4 S.tod9 (d3 s0 d.d) hpg).eq
 have hAl:=gg (σ:=σ) hpg
 have hAo:=rR S.permI hpg
 obtain ⟨p,hp⟩:∃p,p=d3 s0 d.d:=⟨_,rfl⟩
 rw [←hp] at eg ea hAl hAo hsu
 obtain ⟨A,hA⟩:∃A,A=bj σ p:=⟨_,rfl⟩
 rw [←hA] at ea hAl hAo hsu
 have hd0:aP.length=32:=by decide
 have hdr:List.drop 32 (dig aP)=[]:=by decide
 have hbM:∀M,ax (X++M) bs 0 1 0=some [aw k (s0.map ah.cells)]:=fun M=>(hb _ _ (happ _ X M hI)).2
 have hdM:∀M,ax (X++bQ.rows 32 0 [d.cells]::M) X.length 0 32 0=some d.cells:=fun M=>by simp
 have hO:=hOl j
 simp [q0,q1,q12,q13,q14,h,←hd,ao,aE,hd0,hdr,hbX,hbM,hdM,eg,ea]
 refine ⟨by omega,az A.length (fun i s Y=>s 0=.yld bl∧s 1=.ptr bs 0 1 0 0∧s 12=aw (dS L) (L.map ar.cells)∧s 13=.int .i64 L.length∧s 14=.int .i64 j∧s 29=.lst (A.map aH.cells) false∧s 30=.int .i64 A.length∧s 31=.int .i64 i∧I (fT σ s0 (L.take j)++A.take i) Y) ?_ ?_⟩
 ·refine ⟨q0,q1,q12,q13,q14,rfl,rfl,rfl,?_⟩
  have:=happ _ X [.rows 32 0 [d.cells],.rows 5 0 [p.cells]] hI
  simpa using this
 clear q0 q1 q12 q13 q14 hI hbX hbM hdM
 rintro i s Y ⟨q0,q1,q12,q13,q14,q29,q30,q31,hI⟩ hi
 by_cases hiA:i<A.length
 rotate_left
 ·have h':i=A.length:=by omega
  subst h'
  rw [List.take_length,←hsu] at hI
  simp [q0,q1,q12,q13,q14,q29,q30,q31,ay h (by omega)]
  exact ⟨h,hI⟩
 obtain ⟨a,ha⟩:∃a,a=A[i]:=⟨_,rfl⟩
 obtain ⟨hbY,_⟩:=hb _ Y hI
 have haM:∀M,ax (Y++bQ.rows 172 0 [a.cells]::M) Y.length 0 172 0=some a.cells:=fun M=>by simp
 obtain ⟨Z,hZ,ey⟩:=aD.ex (hy _ _ a (happ _ Y [.rows 172 0 [a.cells]] hI) (by simp;omega) (hAo a (by rw [ha];exact List.getElem_mem hiA)))
 have hap:fT σ s0 (L.take j)++A.take i++[a]=fT σ s0 (L.take j)++A.take (i+1):=by
  rw [List.append_assoc,List.take_add_one,List.getElem?_eq_getElem hiA,ha];rfl
 rw [hap] at hZ
 simp [q0,q1,q12,q13,q14,q29,q30,q31,hiA,←ha,ao,aE,hbY,haM,ey,ay hiA (by omega)]
 exact hZ
def eS (file:aI) (l:List aH):List sS:=(l.filter fun a=>decide (a.kind=2)&&aF a.file file).map rq
theorem xq (file:aI) (l:List aH) (a:aH):eS file (l++[a])=eS file l++if a.kind=2∧aF a.file file=true then [rq a] else []:=by
 unfold eS;rw [List.filter_append]
 by_cases h:a.kind=2<;>cases h2:aF a.file file<;>simp [h,h2]
theorem zn (file:aI) (l:List aH):(eS file l).length≤l.length:=by
 unfold eS;rw [List.length_map];exact List.length_filter_le _ _
structure I3 (base lo bl bs fb ob:Nat) (LB:bQ) (v0:AV) (file:aI) (l:List aH) (X:ag):Prop where
 hbl:X[bl]?=some LB
 hbs:ax X bs 0 1 0=some [v0]
 hfb:ax X fb 0 33 0=some file.cells
 o:∃v,X[ob]?=some (.rows 1 0 [[v]])∧gC lo 67 X v ((eS file l).map sS.cells)
 low:base≤lo∧base≤ob∧base≤bl∧bl<lo∧bs<lo∧fb<lo∧ob<lo∧lo≤X.length∧bl≠ob∧bl≠bs∧bl≠fb∧ob≠bs∧ob≠fb
theorem I3.app {base lo bl bs fb ob:Nat} {LB:bQ} {v0:AV} {file:aI} {l:List aH} {X:ag} (h:I3 base lo bl bs fb ob LB v0 file l X) (M:ag):I3 base lo bl bs fb ob LB v0 file l (X++M):=by
 obtain ⟨h1,h2,h3,⟨v,h4,h5⟩,h6⟩:=h
 have hk:∀{b:Nat} {blk:bQ},X[b]?=some blk→(X++M)[b]?=some blk:=fun h=>by rw [List.getElem?_append_left (List.getElem?_eq_some_iff.1 h).1];exact h
 exact ⟨hk h1,bH h2 M,bH h3 M,⟨v,hk h4,h5.app M⟩,by simp;omega⟩
theorem GT (S:bY C σ) {s0:List ah} {k:SK} (hs:b8 s0) (h8:s0.length≤8) {base lo bl bs fb ob nb po:Nat} {file:aI} {l1:List AV} {ps:List Tmp} {asg bd:Code} {X:ag} (hnb:nb=bl) (hpo:po=bs)
 (hy:∀(LB BB:bQ) (_:cL l1 ps asg bd=LB) (_:mZ l1 ps asg bd=BB) (l:List aH) (V:ag) (y:aH),I3 base lo bl bs fb ob LB (aw k (s0.map ah.cells)) file l V→l.length≤2^20→
  aD Tryz.prog C base (.yld bl) [.agg y.cells] V fun v V'=>v=.bool true∧I3 base lo bl bs fb ob LB (aw k (s0.map ah.cells)) file (l++[y]) V')
 (h0:I3 base lo bl bs fb ob (cL l1 ps asg bd) (aw k (s0.map ah.cells)) file [] (X++[cL l1 ps asg bd])) (K:AV→ag→Prop)
 (hK:∀V,I3 base lo bl bs fb ob (cL l1 ps asg bd) (aw k (s0.map ah.cells)) file (fT σ s0 (cr σ s0 s0.length [])) V→K (.tup []) V) :
 dW Tryz.prog C base 54 [.yld nb,.ptr po 0 1 0 0] (X++[cL l1 ps asg bd]) K:=by
 subst hnb;subst hpo
 exact rS S (k:=k) hs h8 (I:=I3 base lo nb po fb ob (cL l1 ps asg bd) (aw k (s0.map ah.cells)) file) (fun l X L h=>h.app L) (fun l X h=>⟨by have:=h.low;omega,h.hbs⟩) (fun l X x h hl _=>hy _ _ rfl rfl l X x h hl) h0 K hK
set_option maxRecDepth 100000 in
set_option maxHeartbeats 4000000 in
theorem Cm (S:bY C σ) (s0:List ah) (k:SK) (file:aI) (hs:b8 s0) (h8:s0.length≤8) (he:kX σ s0 file 1=0) :
 cE Tryz.prog C 8 [] [aw k (s0.map ah.cells),.agg file.cells] (.tup [aw (dS (eS file (fT σ s0 (cr σ s0 s0.length [])))) ((eS file (fT σ s0 (cr σ s0 s0.length []))).map sS.cells),.int .i64 0]):=by
 refine aB (S.pureU _ (by decide)) fun H=>am Tryz.func8 rfl (S.prim _ (by decide)) (by simp) (by kernel_rfl) ?_
 unfold Tryz.f8
 have ef:=(wx S.tocT s0 k file 1 hs).eq
 rw [he] at ef
 obtain ⟨v,hv⟩:∃v,v=aw k (s0.map ah.cells):=⟨_,rfl⟩
 have hvl:v.leaf=true:=by rw [hv];simp
 have hvc:v.cells=[v]:=by rw [hv];simp
 have ep:=fun (X:ag) (K:AV→ag→Prop)=>vF S v hvl hvc (base:=H.length) (H:=X) K
 rw [←hv] at ef ⊢
 obtain ⟨O,hO⟩:∃O,O=fT σ s0 (cr σ s0 s0.length []):=⟨_,rfl⟩
 rw [←hO]
 refine cut (fun s X=>s 0=v∧s 3=.ptr H.length 0 33 0 0∧X=H++[.rows 33 0 [file.cells]]) ?_ ?_
 ·simp [aG]
 rintro s X ⟨q0,q3,rfl⟩
 refine cut (fun s X=>s 0=v∧s 3=.ptr H.length 0 33 0 0∧X=H++[.rows 33 0 [file.cells]]) ?_ ?_
 ·simp [q0,q3,ef]
 clear q0 q3
 rintro s X ⟨q0,q3,rfl⟩
 refine cut (fun s X=>s 0=v∧s 3=.ptr H.length 0 33 0 0∧s 7=.ptr (H.length+1) 0 1 0 0∧X=H++[.rows 33 0 [file.cells],.rows 1 0 [[.nils]]]) ?_ ?_
 ·simp [q0,q3]
 clear q0 q3
 rintro s X ⟨q0,q3,q7,rfl⟩
 refine cut (fun s X=>s 7=.ptr (H.length+1) 0 1 0 0∧∃w,X[H.length+1]?=some (.rows 1 0 [[w]])∧gC (H.length+4) 67 X w ((eS file O).map sS.cells)) ?_ ?_
 rotate_left
 ·rintro s X ⟨q7,w,hw,hS⟩
  have hf:=hS.freeze (k:=H.length) (d:=1) (by omega) (aM sS.closed _)
  have hk:dS ((eS file O).map sS.cells)=dS (eS file O):=by unfold dS;cases eS file O<;>rfl
  rw [hk] at hf
  have hr:ax X (H.length+1) 0 1 0=some [w]:=by simp [ax,hw]
  simp [q7,hr]
  exact bN hf (by simp)
 refine cut (fun s X=>s 3=.ptr H.length 0 33 0 0∧s 7=.ptr (H.length+1) 0 1 0 0∧s 16=.fn 54 [.ptr (H.length+2) 0 1 0 0]∧X=H++[.rows 33 0 [file.cells],.rows 1 0 [[.nils]],.rows 1 0 [[v]]]) ?_ ?_
 ·simp [q0,q3,q7,ep]
 clear q0 q3 q7
 rintro s X ⟨q3,q7,q16,rfl⟩
 rw [cq,nR]
 refine il (f:=54) (caps:=[.ptr (H.length+2) 0 1 0 0]) (by simp [q16]) fun l1 hr1=>?_
 obtain ⟨X0,hX0⟩:∃X0,X0=H++[.rows 33 0 [file.cells],.rows 1 0 [[.nils]],.rows 1 0 [[v]]]:=⟨_,rfl⟩
 have hX0l:X0.length=H.length+3:=by rw [hX0];simp
 rw [←hX0,hX0l]
 have g0:X0[H.length]?=some (.rows 33 0 [file.cells]):=by rw [hX0,tg];rfl
 have g1:X0[H.length+1]?=some (.rows 1 0 [[.nils]]):=by rw [hX0,bt];rfl
 have g2:X0[H.length+2]?=some (.rows 1 0 [[v]]):=by rw [hX0,bt];rfl
 refine GT S (k:=k) (base:=H.length) (lo:=H.length+4) (bl:=H.length+3) (bs:=H.length+2) (fb:=H.length) (ob:=H.length+1) (file:=file) hs h8 rfl rfl ?_ ?_ _ ?_
 ·rw [←hv]
  rintro LB BB hLB hBB l V y hF hl
  have hLr:∀sz g rs,LB≠.rows sz g rs:=by intro sz g rs h;rw [←hLB] at h;cases h
  have hBr:∀sz g rs,BB≠.rows sz g rs:=by intro sz g rs h;rw [←hBB] at h;cases h
  obtain ⟨hbl,hbs,hfb,⟨w,hw,hS⟩,hlow⟩:=hF
  have hblV:H.length+3<V.length:=(List.getElem?_eq_some_iff.1 hbl).1
  obtain ⟨W,hW⟩:∃W,W=V.set (H.length+3) BB:=⟨_,rfl⟩
  have hWl:W.length=V.length:=by rw [hW];simp
  have hgl:∀M,(V++M)[H.length+3]?=some LB:=fun M=>by rw [List.getElem?_append_left hblV];exact hbl
  have hsl:∀M,(V++M).set (H.length+3) BB=W++M:=fun M=>by rw [hW];exact List.set_append_left _ _ hblV
  have hWb:∀M,(W++M)[H.length+3]?=some BB:=fun M=>by rw [List.getElem?_append_left (by omega),hW,List.getElem?_set_self hblV]
  have up:∀{b:Nat} {blk:bQ},b≠H.length+3→V[b]?=some blk→W[b]?=some blk:=fun hb h=>by rw [hW,List.getElem?_set_ne (Ne.symm hb)];exact h
  have upr:∀{b e:Nat} {r:List AV},b≠H.length+3→ax V b 0 e 0=some r→ax W b 0 e 0=some r:=fun hb h=>by
   unfold ax at h ⊢
   rw [hW,List.getElem?_set_ne (Ne.symm hb)];exact h
  have hfW:∀M,ax (W++M) H.length 0 33 0=some file.cells:=fun M=>bH (upr (by omega) hfb) M
  have hyW:∀M,ax (W++bQ.rows 172 0 [y.cells]::M) V.length 0 172 0=some y.cells:=fun M=>by rw [←hWl];simp
  have hwW:∀M,ax (W++M) (H.length+1) 0 1 0=some [w]:=fun M=>bH (upr (by omega) (by simp [ax,hw])) M
  have hSW:gC (H.length+4) 67 W w ((eS file l).map sS.cells):=hS.keep fun b g rs hb h=>up (by omega) h
  have hbV:H.length≤V.length:=by omega
  have hsn:=xq file l y
  have hfl:=zn file l
  have e:=jk S.toaA
  have back:∀{Z:ag},Z[H.length+3]?=some BB→(∀(b:Nat) (blk:bQ),V[b]?=some blk→b≠H.length+3→b≠H.length+1→b<H.length+4→Z[b]?=some blk)→(∃u,Z[H.length+1]?=some (.rows 1 0 [[u]])∧gC (H.length+4) 67 Z u ((eS file (l++[y])).map sS.cells))→
   I3 H.length (H.length+4) (H.length+3) (H.length+2) H.length (H.length+1) LB v file (l++[y]) (Z.set (H.length+3) LB):=by
   rintro Z hZ hk ⟨u,hu,hSu⟩
   have hZl:=(List.getElem?_eq_some_iff.1 hZ).1
   have dn:∀{b e:Nat} {r:List AV},b≠H.length+3→b≠H.length+1→b<H.length+4→ax V b 0 e 0=some r→ax (Z.set (H.length+3) LB) b 0 e 0=some r:=fun {b e r} hb1 hb2 hb3 h=>by
    unfold ax at h ⊢
    rw [List.getElem?_set_ne (Ne.symm hb1)]
    cases hx:V[b]? with
    | none=>rw [hx] at h;cases h
    | some blk=>rw [hx] at h;rw [hk b blk hx hb1 hb2 hb3];exact h
   refine ⟨by rw [List.getElem?_set_self hZl],dn (by omega) (by omega) (by omega) hbs,dn (by omega) (by omega) (by omega) hfb,⟨u,by rw [List.getElem?_set_ne (by omega)];exact hu,hSu.keep fun b g rs hb h=>by rw [List.getElem?_set_ne (by omega)];exact h⟩,by simp;omega⟩
  refine ir hr1 (hget:=by rw [hLB];exact hbl) (by omega) rfl (by decide) (by kernel_rfl) (by kernel_rfl) ?_
  rw [hLB,hBB]
  have keep0:∀(M:ag) (b:Nat) (blk:bQ),V[b]?=some blk→b≠H.length+3→(W++M)[b]?=some blk:=fun M b blk h hb=>by
   have:=up hb h
   rw [List.getElem?_append_left (List.getElem?_eq_some_iff.1 this).1];exact this
  by_cases hk2:y.kind=2
  rotate_left
  ·rw [if_neg (by intro h;exact hk2 h.1),List.append_nil] at hsn
   have hk2b:(y.kind==2)=false:=by simpa using hk2
   simp [q3,q7,ao,aE,hbV,hgl,hsl,hyW,hk2b,an,hWb,hLB]
   exact ⟨rfl,back (Z:=W++[bQ.rows 172 0 [y.cells]]) (hWb _) (fun b blk h h1 h2 h3=>keep0 _ b blk h h1) ⟨w,keep0 _ _ _ hw (by omega),by rw [hsn];exact hSW.app _⟩⟩
  cases hf2:aF y.file file with
  | false =>
   rw [if_neg (by intro h;rw [hf2] at h;cases h.2),List.append_nil] at hsn
   simp [q3,q7,ao,aE,hbV,hgl,hsl,hyW,hk2,an,hfW,e,hf2,hWb,hLB]
   exact ⟨rfl,back (Z:=W++[bQ.rows 172 0 [y.cells]]) (hWb _) (fun b blk h h1 h2 h3=>keep0 _ b blk h h1) ⟨w,keep0 _ _ _ hw (by omega),by rw [hsn];exact hSW.app _⟩⟩
  | true =>
   rw [if_pos ⟨hk2,hf2⟩] at hsn
   have nb:=Hq y
   obtain ⟨nc,hnc⟩:∃nc,nc=(rq y).cells:=⟨_,rfl⟩
   rw [←hnc] at nb
   have hncl:nc.length=67:=by rw [hnc];simp
   have hnca:∀x∈nc,x.leaf=true:=by rw [hnc];exact List.all_eq_true.1 (rq y).leafs
   obtain ⟨u,Z,ea,hS',hl',⟨b',g',l',hu'⟩,hk'⟩:=(hSW.app [.rows 172 0 [y.cells]]).append (P:=Tryz.prog) (base:=H.length) (ts:=#[35,35]) (e:=39) (xd:=.slice 39) (x:=.lst [nc] true) (ys:=[nc])
    (by simp) (by simp) O3 P6 (by simp) (by decide) (by omega) (by simp;omega) rfl (by simp [hncl]) (by simp) (by simp;omega)
   have hwnot:∀b g l,w=.sl b g 67 0 l→H.length+4≤b:=by
    intro b g l h1
    rcases hS with ⟨_,h2⟩ | ⟨_,b2,g2,h2,h3,h4⟩
    ·rw [h1] at h2;cases h2
    ·rw [h1] at h2;cases h2;exact h4
   have hkz:∀(b:Nat) (blk:bQ),V[b]?=some blk→b≠H.length+3→b<H.length+4→Z[b]?=some blk:=fun b blk h h1 h2=>(hk' b blk (keep0 _ b blk h h1) fun b2 g l h3=>by have:=hwnot b2 g l h3;omega).1
   have hZ1:Z[H.length+1]?=some (.rows 1 0 [[w]]):=hkz _ _ hw (by omega) (by omega)
   have hZb:Z[H.length+3]?=some BB:=(hk' _ _ (hWb _) fun b2 g l h3=>by have:=hwnot b2 g l h3;omega).1
   have hZl:H.length+1<Z.length:=(List.getElem?_eq_some_iff.1 hZ1).1
   have hul:u.leaf=true∧u.cells=[u]:=by rw [hu'];exact ⟨rfl,rfl⟩
   have hb1:H.length≤H.length+1:=by omega
   simp [-P5,q3,q7,ao,aE,hbV,hgl,hsl,hyW,hk2,an,hfW,e,hf2,hwW,nb,aj,au,hncl,hnca,ea,hZ1,hul.1,hul.2,hZb,hLB]
   refine ⟨hnca,rfl,back (Z:=Z.set (H.length+1) (.rows 1 0 [[u]])) (by rw [List.getElem?_set_ne (by omega)];exact hZb) (fun b blk h h1 h2 h3=>by rw [List.getElem?_set_ne (by omega)];exact hkz b blk h h1 h3) ⟨u,by rw [List.getElem?_set_self hZl],?_⟩⟩
   have hS2:=hS'.keep (X':=Z.set (H.length+1) (.rows 1 0 [[u]])) fun b g rs hb h=>by rw [List.getElem?_set_ne (by omega)];exact h
   rw [hsn,List.map_append,List.map_singleton,←hnc];exact hS2
 ·rw [←hv]
  exact ⟨by rw [List.getElem?_append_right (by omega),hX0l];simp,bH (by simp [ax,g2]) _,bH (by simp [ax,g0]) _,⟨.nils,by rw [List.getElem?_append_left (by omega)];exact g1,.inl ⟨rfl,rfl⟩⟩,by simp;omega⟩
 ·rintro V ⟨hbl,hbs,hfb,⟨w,hw,hS⟩,hlow⟩
  rw [gf hbl]
  simp
  rw [←hO] at hS
  exact ⟨q7,w,hw,hS.keep fun b g rs hb h=>by rw [List.getElem?_set_ne (by omega)];exact h⟩
end Go.Proofs.Ev
namespace Go.Proofs.Ev
open Go.Proofs
variable {C:bG} {σ:aZ}
structure lp (C:bG) (σ:aZ):Prop extends bY C σ where
 pureW:∀f,f∈[6]→C.pure f=true
def mO (l:List (aI×Bool)):List (aI×AV):=l.map fun x=>(x.1,.bool x.2)
def qK (l:List (aI×Bool)) (d:aI) (b:Bool):List (aI×Bool) :=
 match l with
 | []=>[(d,b)]
 | x::l=>if aF x.1 d then (d,b)::l else x::qK l d b
def iB (l:List (aI×Bool)) (d:aI):Bool :=
 match l with
 | []=>false
 | x::l=>if aF x.1 d then x.2 else iB l d
theorem xN:∀(l:List (aI×Bool)) (d:aI),(eH (mO l) d=none→iB l d=false∧∀b,qK l d b=l++[(d,b)])∧(∀i v,eH (mO l) d=some (i,v)→v=.bool (iB l d)∧∀b,qK l d b=l.set i (d,b))
 | [],d=>by simp [mO,eH,iB,qK]
 | x::l,d=>by
  obtain ⟨h1,h2⟩:=xN l d
  have hc:eH (mO (x::l)) d=if aF x.1 d then some (0,.bool x.2) else (eH (mO l) d).map fun p=>(p.1+1,p.2):=rfl
  rw [hc,iB]
  cases hs:aF x.1 d with
  | true =>
   refine ⟨fun h=>by simp at h,fun i v h=>?_⟩
   simp at h
   obtain ⟨rfl,rfl⟩:=h
   refine ⟨by simp,fun b=>?_⟩
   rw [qK,hs];simp
  | false =>
   simp only [Bool.false_eq_true,if_false]
   refine ⟨fun h=>?_,fun i v h=>?_⟩
   ·obtain ⟨a,b⟩:=h1 (by simpa using h)
    refine ⟨a,fun c=>?_⟩
    rw [qK,hs,b c];simp
   ·cases hp:eH (mO l) d with
    | none=>rw [hp] at h;cases h
    | some p =>
     rw [hp] at h
     cases h
     obtain ⟨a,b⟩:=h2 p.1 p.2 hp
     refine ⟨a,fun c=>?_⟩
     rw [qK,hs,b c];simp
theorem Hf (S:aA C) {X:ag} {m:Nat} {l:List (aI×Bool)} (hm:X[m]?=some (.map (cC (mO l)))) (d:aI):cu Tryz.prog C X 78 (.map m) (.agg d.cells) false=some (.bool (iB l d)):=by
 have hf:=mn S d (mO l) 0
 obtain ⟨h1,h2⟩:=xN l d
 simp only [cu,KK,jQ S,iw,hm,hf,if_true]
 cases hp:eH (mO l) d with
 | none=>rw [(h1 hp).1];simp
 | some p=>rw [←(h2 p.1 p.2 hp).1];simp
theorem KL (S:aA C) {base:Nat} {X:ag} {m:Nat} {l:List (aI×Bool)} (hb:base≤m) (hm:X[m]?=some (.map (cC (mO l)))) (d:aI) (b:Bool) :
 dB Tryz.prog C base X 78 (.map m) (.agg d.cells) (.bool b)=some (X.set m (.map (cC (mO (qK l d b))))):=by
 have hf:=mn S d (mO l) 0
 obtain ⟨h1,h2⟩:=xN l d
 simp only [dB,KK,jQ S,hm,hf,hb,and_self,if_true]
 cases hp:eH (mO l) d with
 | none =>
  rw [(h1 hp).2 b]
  simp [cC,mO]
 | some p =>
  rw [(h2 p.1 p.2 hp).2 b]
  simp [cC,mO,List.map_set]
def xg (file:aI) (T:List (aI×Bool)) (x:aH):Bool:=if x.kind=7 then x.over.any (iB T) else aF x.file file
def ol (file:aI) (a:List (aI×Bool)×List ar) (x:aH):List (aI×Bool)×List ar :=
 (qK a.1 x.id (xg file a.1 x),if xg file a.1 x=true∧(a.2.getLast?.map (·.d))≠some x.id.d then a.2++[x.id.dv] else a.2)
def fV (file:aI) (l:List aH):List (aI×Bool)×List ar:=l.foldl (ol file) ([],[])
theorem rK (file:aI) (l:List aH) (x:aH):fV file (l++[x])=ol file (fV file l) x:=by unfold fV;rw [List.foldl_append];rfl
theorem AF (file:aI) (l:List aH):(fV file l).2.length≤l.length:=by
 have key:∀(l:List aH) (a:List (aI×Bool)×List ar),(l.foldl (ol file) a).2.length≤a.2.length+l.length:=by
  intro l
  induction l with
  | nil=>intro a;simp
  | cons x l ih =>
   intro a
   have h1:=ih (ol file a x)
   have h2:(ol file a x).2.length≤a.2.length+1:=by
    unfold ol;simp only;split<;>simp
   simp only [List.foldl_cons,List.length_cons];omega
 have:=key l ([],[])
 simpa [fV] using this
structure FR (base lo bl bs fb mb m ob:Nat) (LB:bQ) (v0:AV) (file:aI) (l:List aH) (X:ag):Prop where
 hbl:X[bl]?=some LB
 hbs:ax X bs 0 1 0=some [v0]
 hfb:ax X fb 0 33 0=some file.cells
 hmb:ax X mb 0 1 0=some [.map m]
 hm:X[m]?=some (.map (cC (mO (fV file l).1)))
 o:∃v,X[ob]?=some (.rows 1 0 [[v]])∧gC lo 32 X v ((fV file l).2.map ar.cells)
 low:base≤lo∧base≤ob∧base≤bl∧base≤m∧bl<lo∧bs<lo∧fb<lo∧mb<lo∧m<lo∧ob<lo∧lo≤X.length∧bl≠ob∧bl≠bs∧bl≠fb∧bl≠mb∧bl≠m∧ob≠bs∧ob≠fb∧ob≠mb∧ob≠m∧m≠bs∧m≠fb∧m≠mb
theorem FR.app {base lo bl bs fb mb m ob:Nat} {LB:bQ} {v0:AV} {file:aI} {l:List aH} {X:ag} (h:FR base lo bl bs fb mb m ob LB v0 file l X) (M:ag):FR base lo bl bs fb mb m ob LB v0 file l (X++M):=by
 obtain ⟨h1,h2,h3,h4,h5,⟨v,h6,h7⟩,h8⟩:=h
 have hk:∀{b:Nat} {blk:bQ},X[b]?=some blk→(X++M)[b]?=some blk:=fun h=>by rw [List.getElem?_append_left (List.getElem?_eq_some_iff.1 h).1];exact h
 exact ⟨hk h1,bH h2 M,bH h3 M,bH h4 M,hk h5,⟨v,hk h6,h7.app M⟩,by simp;omega⟩
theorem IJ (S:bY C σ) {s0:List ah} {k:SK} (hs:b8 s0) (h8:s0.length≤8) {base lo bl bs fb mb m ob nb po:Nat} {file:aI} {l1:List AV} {ps:List Tmp} {asg bd:Code} {X:ag} (hnb:nb=bl) (hpo:po=bs)
 (hy:∀(LB BB:bQ) (_:cL l1 ps asg bd=LB) (_:mZ l1 ps asg bd=BB) (l:List aH) (V:ag) (y:aH),FR base lo bl bs fb mb m ob LB (aw k (s0.map ah.cells)) file l V→l.length≤2^20→y.over.length≤2^10→
  aD Tryz.prog C base (.yld bl) [.agg y.cells] V fun v V'=>v=.bool true∧FR base lo bl bs fb mb m ob LB (aw k (s0.map ah.cells)) file (l++[y]) V')
 (h0:FR base lo bl bs fb mb m ob (cL l1 ps asg bd) (aw k (s0.map ah.cells)) file [] (X++[cL l1 ps asg bd])) (K:AV→ag→Prop)
 (hK:∀V,FR base lo bl bs fb mb m ob (cL l1 ps asg bd) (aw k (s0.map ah.cells)) file (fT σ s0 (cr σ s0 s0.length [])) V→K (.tup []) V) :
 dW Tryz.prog C base 54 [.yld nb,.ptr po 0 1 0 0] (X++[cL l1 ps asg bd]) K:=by
 subst hnb;subst hpo
 exact rS S (k:=k) hs h8 (I:=FR base lo nb po fb mb m ob (cL l1 ps asg bd) (aw k (s0.map ah.cells)) file) (fun l X L h=>h.app L) (fun l X h=>⟨by have:=h.low;omega,h.hbs⟩) (fun l X x h hl ho=>hy _ _ rfl rfl l X x h hl ho) h0 K hK
end Go.Proofs.Ev
namespace Go.Proofs.Ev
open Go.Proofs
variable {σ:aZ}
theorem zJ (z d:aI) (b:Bool):∀T:List (aI×Bool),iB (qK T d b) z=if aF d z then b else iB T z
 | []=>by simp [qK,iB]
 | x::T=>by
  rw [qK]
  cases hx:aF x.1 d with
  | true =>
   simp only [if_true,iB,ct hx]
   cases aF d z<;>simp
  | false =>
   simp only [Bool.false_eq_true,if_false,iB,zJ z d b T]
   cases hz:aF x.1 z with
   | true =>
    have:aF d z=false:=by rw [←ct hz,nK];exact hx
    simp [this]
   | false=>simp
def mQ (O:List aH):Prop:=∀l x r,O=l++x::r→x.kind=7→∀o∈x.over,∀y∈O,y.id=o→y∈l
structure FW (G:aI→Option aH) (O:List aH):Prop where
 to:∀o y,G o=some y→y∈O∧y.id=o
 of:∀y∈O,G y.id=some y
variable {G:aI→Option aH} {O:List aH} {file:aI}
theorem C8 (hG:FW G O) (he:mQ O) {l r:List aH} {x:aH} (hO:O=l++x::r) {T:List (aI×Bool)} (hT:∀z,iB T z=true↔∃y∈l,y.id=z∧pK G file y):xg file T x=true↔pK G file x:=by
 unfold xg
 by_cases hk:x.kind=7
 ·rw [if_pos hk,List.any_eq_true]
  constructor
  ·rintro ⟨o,ho,h⟩
   obtain ⟨y,hy,rfl,hc⟩:=(hT o).1 h
   exact .back x _ y hk ho (hG.of y (by rw [hO];simp [hy])) hc
  ·intro hc
   cases hc with
   | own _ h _=>exact absurd hk h
   | back _ o y _ ho hy hc =>
    obtain ⟨h1,h2⟩:=hG.to o y hy
    exact ⟨o,ho,(hT o).2 ⟨y,he l x r hO hk o ho y h1 h2,h2,hc⟩⟩
 ·rw [if_neg hk]
  constructor
  ·exact fun h=>.own x hk h
  ·intro hc
   cases hc with
   | own _ _ h=>exact h
   | back _ _ _ h _ _ _=>exact absurd h hk
theorem DK (hG:FW G O) (he:mQ O):∀n,n≤O.length→∀z,iB (fV file (O.take n)).1 z=true↔∃y∈O.take n,y.id=z∧pK G file y
 | 0,_,z=>by simp [fV,iB]
 | n+1,hn,z=>by
  have ih:=DK hG he n (by omega)
  obtain ⟨x,hx⟩:∃x,O[n]?=some x:=⟨_,List.getElem?_eq_getElem (by omega)⟩
  have ht:O.take (n+1)=O.take n++[x]:=by rw [List.take_add_one,hx];rfl
  have hO:O=O.take n++x::O.drop (n+1):=by
   have h1:=(List.take_append_drop (n+1) O).symm
   rw [ht,List.append_assoc] at h1
   exact h1
  have hxO:x∈O:=List.mem_of_getElem? hx
  have hc:=C8 hG he hO ih
  rw [ht,rK]
  show iB (qK (fV file (O.take n)).1 x.id (xg file (fV file (O.take n)).1 x)) z=true↔_
  rw [zJ]
  cases hz:aF x.id z with
  | true =>
   simp only [if_true]
   rw [hc]
   have hxz:=ct hz
   constructor
   ·exact fun h=>⟨x,by simp,hxz,h⟩
   ·rintro ⟨y,hy,h1,h2⟩
    have h3:y∈O:=by rw [←ht] at hy;exact List.mem_of_mem_take hy
    have h4:=hG.of y h3
    rw [h1,←hxz,hG.of x hxO] at h4
    rw [Option.some.inj h4];exact h2
  | false =>
   simp only [Bool.false_eq_true,if_false]
   rw [ih z]
   constructor
   ·rintro ⟨y,hy,h⟩;exact ⟨y,by simp [hy],h⟩
   ·rintro ⟨y,hy,h1,h2⟩
    rcases List.mem_append.1 hy with hy | hy
    ·exact ⟨y,hy,h1,h2⟩
    ·rw [List.mem_singleton.1 hy] at h1
     rw [h1,show aF z z=true by simp [aF]] at hz
     cases hz
theorem wK (hG:FW G O) (he:mQ O) {pre A r:List aH} (hO:O=pre++A++r) {d:ar} (hA:∀x∈A,x.id.d=d.d) {out:List ar} (hout:(fV file pre).2=out) (hl:(out.getLast?.map (·.d))≠some d.d) :
 ∀m,m≤A.length→((¬∃x∈A.take m,pK G file x)→(fV file (pre++A.take m)).2=out)∧((∃x∈A.take m,pK G file x)→(fV file (pre++A.take m)).2=out++[d])
 | 0,_=>by simp [hout]
 | m+1,hm=>by
  obtain ⟨ih1,ih2⟩:=wK hG he hO hA hout hl m (by omega)
  obtain ⟨x,hx⟩:∃x,A[m]?=some x:=⟨_,List.getElem?_eq_getElem (by omega)⟩
  have hxA:x∈A:=List.mem_of_getElem? hx
  have ht:A.take (m+1)=A.take m++[x]:=by rw [List.take_add_one,hx];rfl
  have hO2:O=(pre++A.take m)++x::(A.drop (m+1)++r):=by
   have h1:=(List.take_append_drop (m+1) A).symm
   rw [ht] at h1
   have h2:pre++A++r=pre++(A.take m++[x]++A.drop (m+1))++r:=congrArg (pre++·++r) h1
   rw [hO,h2]
   simp
  have htk:O.take (pre++A.take m).length=pre++A.take m:=by rw [hO2];exact List.take_left
  have hT:=DK (file:=file) hG he (pre++A.take m).length (by rw [hO2];simp only [List.length_append];omega)
  rw [htk] at hT
  have hc:=C8 hG he hO2 hT
  have hdv:x.id.dv=d:=qc (hA x hxA)
  rw [ht,←List.append_assoc,rK]
  have hs:(ol file (fV file (pre++A.take m)) x).2=if xg file (fV file (pre++A.take m)).1 x=true∧((fV file (pre++A.take m)).2.getLast?.map (·.d))≠some x.id.d then (fV file (pre++A.take m)).2++[x.id.dv] else (fV file (pre++A.take m)).2:=rfl
  rw [hs]
  constructor
  ·intro hn
   rw [if_neg fun h=>hn ⟨x,by simp,hc.1 h.1⟩]
   exact ih1 fun ⟨y,h1,h2⟩=>hn ⟨y,by simp [h1],h2⟩
  ·rintro ⟨y,hy,hyc⟩
   by_cases hb:∃y∈A.take m,pK G file y
   ·rw [if_neg fun h=>h.2 (by rw [ih2 hb,hA x hxA];simp),ih2 hb]
   ·have hyx:y=x:=by
     rcases List.mem_append.1 hy with hy | hy
     ·exact absurd ⟨y,hy,hyc⟩ hb
     ·exact List.mem_singleton.1 hy
    subst hyx
    rw [if_pos ⟨hc.2 hyc,by rw [ih1 hb,hA y hxA];exact hl⟩,ih1 hb,hdv]
theorem DJ {s:List ah} {L:List ar} (hG:FW G (fT σ s L)) (he:mQ (fT σ s L)) (hA:∀d∈L,∀x∈bj σ (d3 s d.d),x.id.d=d.d) (hn:(dh L).Nodup) {cB:ar→Bool} (hc:∀d∈L,cB d=true↔∃x∈bj σ (d3 s d.d),pK G file x) :
 ∀n,n≤L.length→(fV file (fT σ s (L.take n))).2=(L.take n).filter cB
 | 0,_=>by simp [fT,fV]
 | n+1,h=>by
  have ih:=DJ hG he hA hn hc n (by omega)
  obtain ⟨d,hd⟩:∃d,L[n]?=some d:=⟨_,List.getElem?_eq_getElem (by omega)⟩
  have hdL:d∈L:=List.mem_of_getElem? hd
  have ht:L.take (n+1)=L.take n++[d]:=by rw [List.take_add_one,hd];rfl
  have hL:L=L.take n++d::L.drop (n+1):=by
   have h1:=(List.take_append_drop (n+1) L).symm
   rw [ht,List.append_assoc] at h1
   exact h1
  have hO:fT σ s L=fT σ s (L.take n)++bj σ (d3 s d.d)++fT σ s (L.drop (n+1)):=by
   have h1:fT σ s L=fT σ s (L.take n++d::L.drop (n+1)):=by rw [←hL]
   rw [h1]
   simp [fT]
  have hl:(((L.take n).filter cB).getLast?.map (·.d))≠some d.d:=by
   intro h1
   cases h2:((L.take n).filter cB).getLast? with
   | none=>rw [h2] at h1;cases h1
   | some e =>
    rw [h2] at h1
    have h3:e∈L.take n:=(List.mem_filter.1 (List.mem_of_getLast? h2)).1
    have h4:(dh (L.take n++d::L.drop (n+1))).Nodup:=by rw [←hL];exact hn
    unfold dh at h4
    rw [List.map_append,List.nodup_append] at h4
    exact h4.2.2 e.d (List.mem_map.2 ⟨e,h3,rfl⟩) d.d (by simp) (Option.some.inj h1)
  obtain ⟨k1,k2⟩:=wK hG he hO (hA d hdL) ih hl (bj σ (d3 s d.d)).length (Nat.le_refl _)
  rw [List.take_length] at k1 k2
  rw [wn hd,ht,List.filter_append]
  by_cases hb:∃x∈bj σ (d3 s d.d),pK G file x
  ·rw [k2 hb];simp [(hc d hdL).2 hb]
  ·rw [k1 hb]
   have:cB d=false:=by
    cases h2:cB d with
    | false=>rfl
    | true=>exact absurd ((hc d hdL).1 h2) hb
   simp [this]
end Go.Proofs.Ev
namespace Go.Proofs.Ev
open Go.Proofs
variable {σ:aZ}
theorem ub {α β:Type} {f:α→List β}:∀{L:List α} {l:List β} {x:β} {r:List β},(L.map f).flatten=l++x::r→∃i d m,L[i]?=some d∧(f d)[m]?=some x∧l=((L.take i).map f).flatten++(f d).take m
 | [],l,x,r,h=>by simp at h
 | a::L,l,x,r,h=>by
  rw [List.map_cons,List.flatten_cons] at h
  by_cases hl:l.length<(f a).length
  ·refine ⟨0,a,l.length,rfl,?_,?_⟩
   ·have h1:(f a++(L.map f).flatten)[l.length]?=some x:=by rw [h];simp
    rwa [List.getElem?_append_left hl] at h1
   ·have h1:=congrArg (List.take l.length) h
    rw [List.take_append_of_le_length (by omega),List.take_left] at h1
    simp [h1]
  ·obtain ⟨l',hl'⟩:∃l',l=f a++l':=by
    have h1:=congrArg (List.take (f a).length) h
    rw [List.take_left,List.take_append_of_le_length (by omega)] at h1
    exact ⟨l.drop (f a).length,by conv=>rhs;rw [h1];rw [List.length_take,Nat.min_eq_left (by omega),List.take_append_drop]⟩
   subst hl'
   rw [List.append_assoc] at h
   obtain ⟨i,d,m,e1,e2,e3⟩:=ub (List.append_cancel_left h)
   exact ⟨i+1,d,m,by simpa using e1,e2,by rw [e3];simp⟩
theorem th:∀(l:List aW) (own:List aH) (m:Nat) (y:aH),(bk l own)[m]?=some y→own[m]?=some y∨∃i c,l[i]?=some c∧(y.over=[]∨y.over=c.over)∧(bk (l.take i) own).length≤m
 | [],own,m,y,h=>.inl h
 | c::l,own,m,y,h=>by
  rcases th l _ m y h with h | ⟨i,c',h1,h2,h3⟩
  ·by_cases hm:m<own.length
   ·rw [List.getElem?_append_left hm] at h;exact .inl h
   ·rw [List.getElem?_append_right (by omega)] at h
    exact .inr ⟨0,c,rfl,Dq (List.mem_of_getElem? h),by simpa [bk] using hm⟩
  ·exact .inr ⟨i+1,c',by simpa using h1,h2,by simpa [bk] using h3⟩
theorem sn {c:aW} {own:List aH}:∀{l:List aI},eX c own l=0→∀z∈l,∃b,rv z own.length b=0
 | [],_,z,hz=>by simp at hz
 | x::l,h,z,hz=>by
  rw [eX] at h
  split at h
  ·rename_i h1
   rcases List.mem_cons.1 hz with rfl | hz
   ·exact ⟨_,h1⟩
   ·exact sn h z hz
  ·rename_i h1;exact absurd h h1
theorem E8 {p:aC} (hp:p.Good) {m:Nat} {y:aH} (hy:(aR p)[m]?=some y) {z:aI} (hz:z∈y.over) (h0:bC z.d=true):0≤z.n∧z.n<(m:Int):=by
 rw [hp.atoms] at hy
 rcases th p.changes [] m y hy with h | ⟨i,c,h1,h2,h3⟩
 ·simp at h
 ·have hr:=(hp.change h1).2
  have ho:eX c (bk (p.changes.take i) []) c.over=0:=by
   unfold li at hr
   repeat' split at hr
   all_goals first | omega | (rename_i h;exact absurd hr h) | skip
   all_goals simp_all
  have hzc:z∈c.over:=by
   rcases h2 with h2 | h2
   ·rw [h2] at hz;simp at hz
   ·rw [←h2];exact hz
  obtain ⟨b,hb⟩:=sn ho z hzc
  obtain ⟨k1,k2,_⟩:=sW hb
  have:=(k2 h0).1
  omega
theorem E7 {p:aC} (hp:p.Good) {y:aH} (hy:y∈aR p) {z:aI} (hz:z∈y.over) (h0:bC z.d=false):z.dv∈cW p:=by
 rw [hp.atoms] at hy
 rcases l4 p.changes [] y hy with h | h | ⟨c,hc,h⟩
 ·simp at h
 ·rw [h] at hz;simp at hz
 ·rw [h] at hz
  unfold cW
  refine List.mem_append.2 (.inr (List.mem_flatten.2 ⟨_,List.mem_map.2 ⟨c,hc,rfl⟩,?_⟩))
  unfold ew
  exact List.mem_map.2 ⟨z,List.mem_filter.2 ⟨Dk (hp.good hc) (by unfold fM;simp [hz]) h0,by simp [h0]⟩,rfl⟩
theorem C3 {s:List ah} (P:jt s) {d:ar} (hd:jn s d.d=true) {a:aH} (ha:a∈bj σ (d3 s d.d)):a.id.d=d.d:=by
 obtain ⟨hp,x,hx,h1,h2⟩:=d4 P.good hd
 obtain ⟨i,hi⟩:=List.getElem?_of_mem ha
 rw [(gh hp hi).1,←h2,P.named x hx,h1]
theorem ry (hi:gZ σ) (hd:∀l,(σ.d l).Perm l) {s:List ah} (P:jt s):mQ (fT σ s (cr σ s s.length [])):=by
 intro l x r hO _ o ho y hy hyo
 have hh:=mu (σ:=σ) s
 have hn:(dh (cr σ s s.length [])).Nodup:=jo s _ _ (by simp [dh])
 obtain ⟨L,hL⟩:∃L,L=cr σ s s.length []:=⟨_,rfl⟩
 rw [←hL] at hh hn hO hy
 unfold fT at hO hy
 obtain ⟨i,d,m,e1,e2,e3⟩:=ub hO
 have hdL:d∈L:=List.mem_of_getElem? e1
 obtain ⟨hp,x',hx',g1,g2⟩:=d4 P.good (hh d hdL)
 obtain ⟨w,hw,hyw⟩:=List.mem_flatten.1 hy
 obtain ⟨d',hd',rfl⟩:=List.mem_map.1 hw
 have hyd:=C3 P (hh d' hd') hyw
 unfold bj at e2
 rw [List.getElem?_map] at e2
 cases hy0:(aR (d3 s d.d))[m]? with
 | none=>rw [hy0] at e2;cases e2
 | some y0 =>
  rw [hy0] at e2
  have e2':=Option.some.inj e2
  have hpd:(d3 s d.d).dig.d=d.d:=by rw [←g2,P.named x' hx',g1]
  rw [←e2'] at ho
  obtain ⟨z,hz,hzo⟩:=List.mem_map.1 (((hi _).1.mem_iff).1 ho)
  cases h0:bC z.d with
  | true =>
   obtain ⟨k1,k2⟩:=E8 hp hy0 hz h0
   have ho':ba z (d3 s d.d).dig=⟨(d3 s d.d).dig.d,z.n,(d3 s d.d).dig.h,(d3 s d.d).dig.b⟩:=by unfold ba;rw [if_pos (by simp [h0,k1])]
   rw [ho'] at hzo
   have hod:o.d=d.d:=by rw [←hzo];exact hpd
   have hdd:d'=d:=qc (by rw [←hyd,hyo,hod])
   rw [hdd] at hyw
   obtain ⟨j,hj⟩:=List.getElem?_of_mem hyw
   have hjn:=(gh hp hj).2
   have hon:o.n=z.n:=by rw [←hzo]
   rw [hyo,hon] at hjn
   rw [e3]
   refine List.mem_append.2 (.inr ?_)
   rw [List.mem_take_iff_getElem]
   have hjl:=(List.getElem?_eq_some_iff.1 hj)
   exact ⟨j,by have:=hjl.1;omega,hjl.2⟩
  | false =>
   have ho':ba z (d3 s d.d).dig=z:=by unfold ba;rw [if_neg (by simp [h0])]
   rw [ho'] at hzo
   have hm:=E7 hp (List.mem_of_getElem? hy0) hz h0
   obtain ⟨out,x2,hx2,h1,h2,mm,h3⟩:=uw (σ:=σ) s.length [] d.d (by rw [←hL];exact da.2 ⟨d,hdL,rfl⟩) rfl
   have hxx:=uniq P.good.2.1 hx2 hx' (by rw [h1,g1])
   subst hxx
   simp only [sO,Bool.and_eq_true,Bool.not_eq_true'] at h2
   have h4:=h2.2
   unfold gD at h4
   rw [List.all_eq_true] at h4
   rw [g2] at h4
   obtain ⟨n,hn1,hn2⟩:=(nW (σ.d (cW (d3 s d.d))) z.d).2 ⟨z.dv,(hd _).mem_iff.2 hm,rfl⟩
   have h5:=h4 n hn1
   rw [hn2] at h5
   obtain ⟨e,he,hed⟩:=da.1 h5
   rw [←hL] at h3
   have hil:i<L.length:=(List.getElem?_eq_some_iff.1 e1).1
   have hio:i=out.length:=by
    refine (List.getElem?_inj (l:=dh L) (by unfold dh;simpa using hil) hn).1 ?_
    unfold dh
    rw [List.getElem?_map,List.getElem?_map,e1,h3]
    simp [h1]
   have hout:L.take i=out:=by rw [hio,h3];exact List.take_left
   have hde:d'=e:=qc (by rw [←hyd,hyo,←hzo,hed])
   rw [e3,hout]
   refine List.mem_append.2 (.inl (List.mem_flatten.2 ⟨_,List.mem_map.2 ⟨e,he,rfl⟩,?_⟩))
   rw [←hde];exact hyw
end Go.Proofs.Ev
namespace Go.Proofs.Ev
open Go.Proofs
variable {σ:aZ}
end Go.Proofs.Ev
namespace Go.Proofs.Ev
open Go.Proofs
variable {C:bG} {σ:aZ}
def Up (L:List aH):Prop:=L.Pairwise fun a b=>dA a.id b.id<0
theorem Up.ge {L:List aH} (h:Up L) {i j:Nat} (hij:i<j) (hj:j<L.length):¬dA L[j].id L[i].id<0:=by
 have h1:=(List.pairwise_iff_getElem.1 h) i j (by omega) hj hij
 have h2:=vL L[i].id L[j].id
 omega
set_option maxHeartbeats 2000000 in
theorem sd (S:bY C σ) {base b g:Nat} {H:ag} {L:List aH} (hH:H[b]?=some (.rows 172 g (L.map aH.cells))) (hu:Up L) (hn:L.length≤2^40) {a e:Nat} (ha:a≤e) (he:e≤L.length) (K:AV→ag→Prop) :
 aD Tryz.prog C base (.fn 169 []) [.sl b g 172 0 L.length,.int .i64 a,.int .i64 e,.fn 60 []] H K=K (.tup []) H:=by
 refine aD.eq (bn (S.plainU _ (by decide)).1 (S.plainU _ (by decide)).2 (am Tryz.func169 rfl (S.prim _ (by decide)) (by simp) (by kernel_rfl) ?_)) K
 unfold Tryz.f169
 have w0:IntKind.i64.wrap ((a:Int)+1)=((a+1:Nat):Int):=by rw [aK (by omega) (by omega)];omega
 obtain ⟨a1,ha1⟩:∃a1,a1=a+1:=⟨_,rfl⟩
 rw [←ha1] at w0
 simp [aG,w0]
 refine az (e-a1) (fun k s X=>s 0=.sl b g 172 0 L.length∧s 1=.int .i64 a∧s 2=.int .i64 e∧s 3=.fn 60 []∧s 8=.int .i64 ((a1+k:Nat):Int)∧X=H) ?_ ?_
 ·exact ⟨rfl,rfl,rfl,rfl,rfl,rfl⟩
 rintro k s X ⟨q0,q1,q2,q3,q8,hX⟩ hk
 rw [hX];clear hX X
 obtain ⟨i,hi⟩:∃i,i=a1+k:=⟨_,rfl⟩
 rw [←hi] at q8
 have w1:IntKind.i64.wrap ((i:Int)+1)=((a1+(k+1):Nat):Int):=by rw [aK (by omega) (by omega)];omega
 obtain ⟨i2,hi2⟩:∃i2,i2=a1+(k+1):=⟨_,rfl⟩
 rw [←hi2] at w1
 by_cases h:i<e
 rotate_left
 ·simp [q0,q1,q2,q3,q8,h]
 simp [q0,q1,q2,q3,q8,h]
 refine az 0 (fun _ s X=>s 0=.sl b g 172 0 L.length∧s 1=.int .i64 a∧s 2=.int .i64 e∧s 3=.fn 60 []∧s 8=.int .i64 (i:Int)∧s 9=.int .i64 (i:Int)∧X=H) ?_ ?_
 ·exact ⟨q0,q1,q2,q3,q8,rfl,rfl⟩
 clear q0 q1 q2 q3 q8
 rintro m s X ⟨q0,q1,q2,q3,q8,q9,hX⟩ _
 rw [hX];clear hX X
 have hja:a<i:=by omega
 obtain ⟨j1,hj1⟩:∃j1,j1=i-1:=⟨_,rfl⟩
 have w2:IntKind.i64.wrap ((i:Int)-1)=(j1:Int):=by rw [aK (by omega) (by omega)];omega
 have hiL:i<L.length:=by omega
 have hj1L:j1<L.length:=by omega
 have r1:=nJ hH hiL
 have r2:=nJ hH hj1L
 have hc:=hu.ge (i:=j1) (j:=i) (by omega) hiL
 have ec:=fun K=>pU S (base:=base) (H:=H) L[i] L[j1] K
 simp [q0,q1,q2,q3,q8,q9,hja,an,w1,w2,hiL,hj1L,r1,r2,ec,hc]
 exact ⟨by omega,by omega⟩
def LI (C:bG) (n:Nat):Prop:=∀(base b g:Nat) (H:ag) (L:List aH),H[b]?=some (.rows 172 g (L.map aH.cells))→Up L→L.length≤2^40→∀a m e:Nat,a<m→m<e→e≤L.length→e-a≤n→∀K:AV→ag→Prop,
 aD Tryz.prog C base (.fn 170 []) [.sl b g 172 0 L.length,.int .i64 a,.int .i64 m,.int .i64 e,.fn 60 []] H K=K (.tup []) H
set_option maxRecDepth 100000 in
set_option maxHeartbeats 8000000 in
theorem xC (S:bY C σ):∀n,LI C n
 | 0=>by intro base b g H L hH hu hn a m e h1 h2 he hae;omega
 | n+1=>by
  have ih:=xC S n
  intro base b g H L hH hu hn a m e h1 h2 he hae K
  refine aD.eq (bn (S.plainU _ (by decide)).1 (S.plainU _ (by decide)).2 (am Tryz.func170 rfl (S.prim _ (by decide)) (by simp) (by kernel_rfl) ?_)) K
  unfold Tryz.f170
  have wma:IntKind.i64.wrap ((m:Int)-a)=((m-a:Nat):Int):=by rw [aK (by omega) (by omega)];omega
  obtain ⟨ma,hma⟩:∃ma,ma=m-a:=⟨_,rfl⟩
  have wem:IntKind.i64.wrap ((e:Int)-m)=((e-m:Nat):Int):=by rw [aK (by omega) (by omega)];omega
  obtain ⟨em,hem⟩:∃em,em=e-m:=⟨_,rfl⟩
  rw [←hma] at wma
  rw [←hem] at wem
  by_cases hma1:ma=1
  ·refine cut (fun _ _=>False) ?_ (fun _ _ h=>h.elim)
   simp [aG,wma,hma1]
   refine cn (fun s X=>s 0=.sl b g 172 0 L.length∧s 1=.int .i64 a∧s 2=.int .i64 m∧s 4=.fn 60 []∧X=H∧s 10=.int .i64 (m:Int)∧∃j:Nat,s 11=.int .i64 (j:Int)∧m≤j∧j≤e) (fun s _=>vm (s 11)) ?_ ?_
   ·exact ⟨rfl,rfl,rfl,rfl,rfl,rfl,e,rfl,by omega,by omega⟩
   rintro s X ⟨q0,q1,q2,q4,hX,q10,j,q11,hij,hj⟩
   rw [hX];clear hX X
   by_cases hlt:m<j
   ·have w1:IntKind.i64.wrap ((m:Int)+j)=((m+j:Nat):Int):=by rw [aK (by omega) (by omega)];omega
    obtain ⟨ij,hijd⟩:∃ij,ij=m+j:=⟨_,rfl⟩
    rw [←hijd] at w1
    obtain ⟨h,hh⟩:∃h,h=ij / 2:=⟨_,rfl⟩
    have c1:=fun H=>xt H ij (by omega)
    have c2:=fun t=>xu (C:=C) t ij h hh
    have c3:=fun H=>xv H h (by omega)
    have hhL:h<L.length:=by omega
    have haL:a<L.length:=by omega
    have r1:=nJ hH hhL
    have r2:=nJ hH haL
    have hc:=hu.ge (i:=a) (j:=h) (by omega) hhL
    have ec:=fun K=>pU S (base:=base) (H:=H) L[h] L[a] K
    simp [q0,q1,q2,q4,q10,q11,hlt,w1,c1,c2,c3,hhL,haL,r1,r2,ec,hc]
    exact ⟨⟨h,rfl,by omega,by omega⟩,by omega⟩
   ·have hma':m=a+1:=by omega
    have w1:IntKind.i64.wrap ((m:Int)-1)=(a:Int):=by rw [aK (by omega) (by omega)];omega
    simp [q0,q1,q2,q4,q10,q11,hlt]
    refine az 0 (fun _ s X=>s 10=.int .i64 (m:Int)∧s 13=.int .i64 (a:Int)∧X=H) ?_ ?_
    ·exact ⟨q10,rfl,rfl⟩
    clear q0 q1 q2 q4 q10 q11
    rintro k s X ⟨q10,q13,hX⟩ _
    rw [hX];clear hX X
    simp [q10,q13,w1]
  have hma2:¬(ma:Int)=1:=by omega
  refine cut (fun s X=>s 0=.sl b g 172 0 L.length∧s 1=.int .i64 a∧s 2=.int .i64 m∧s 3=.int .i64 e∧s 4=.fn 60 []∧X=H) ?_ ?_
  ·simp [aG,wma,hma2]
  rintro s X ⟨q0,q1,q2,q3,q4,hX⟩
  rw [hX];clear hX X
  by_cases hem1:em=1
  ·refine cut (fun _ _=>False) ?_ (fun _ _ h=>h.elim)
   simp [q0,q1,q2,q3,q4,wem,hem1]
   refine cn (fun s X=>s 0=.sl b g 172 0 L.length∧s 1=.int .i64 a∧s 2=.int .i64 m∧s 4=.fn 60 []∧X=H∧s 15=.int .i64 (m:Int)∧∃i:Nat,s 14=.int .i64 (i:Int)∧a≤i∧i≤m) (fun s _=>m-vm (s 14)) ?_ ?_
   ·exact ⟨q0,q1,q2,q4,rfl,rfl,a,rfl,by omega,by omega⟩
   clear q0 q1 q2 q3 q4
   rintro s X ⟨q0,q1,q2,q4,hX,q11,i,q10,hi,him⟩
   rw [hX];clear hX X
   by_cases hlt:i<m
   ·have w1:IntKind.i64.wrap ((i:Int)+m)=((i+m:Nat):Int):=by rw [aK (by omega) (by omega)];omega
    obtain ⟨ij,hijd⟩:∃ij,ij=i+m:=⟨_,rfl⟩
    rw [←hijd] at w1
    obtain ⟨h,hh⟩:∃h,h=ij / 2:=⟨_,rfl⟩
    have c1:=fun H=>xt H ij (by omega)
    have c2:=fun t=>xu (C:=C) t ij h hh
    have c3:=fun H=>xv H h (by omega)
    have hhL:h<L.length:=by omega
    have hmL:m<L.length:=by omega
    have r1:=nJ hH hmL
    have r2:=nJ hH hhL
    have hc:=hu.ge (i:=h) (j:=m) (by omega) hmL
    have ec:=fun K=>pU S (base:=base) (H:=H) L[m] L[h] K
    have w2:IntKind.i64.wrap ((h:Int)+1)=((h+1:Nat):Int):=by rw [aK (by omega) (by omega)];omega
    obtain ⟨h1,hh1⟩:∃h1,h1=h+1:=⟨_,rfl⟩
    rw [←hh1] at w2
    simp [q0,q1,q2,q4,q10,q11,hlt,w1,w2,c1,c2,c3,hhL,hmL,r1,r2,ec,hc]
    exact ⟨⟨h1,rfl,by omega,by omega⟩,by omega⟩
   ·have hi':i=m:=by omega
    subst hi'
    simp [q0,q1,q2,q4,q10,q11]
    refine az 0 (fun _ s X=>s 14=.int .i64 (i:Int)∧s 17=.int .i64 (i:Int)∧X=H) ?_ ?_
    ·exact ⟨q10,rfl,rfl⟩
    clear q0 q1 q2 q4 q10 q11
    rintro k s X ⟨q10,q13,hX⟩ _
    rw [hX];clear hX X
    simp [q10,q13]
  have hem2:¬(em:Int)=1:=by omega
  refine cut (fun s X=>s 0=.sl b g 172 0 L.length∧s 1=.int .i64 a∧s 2=.int .i64 m∧s 3=.int .i64 e∧s 4=.fn 60 []∧X=H) ?_ ?_
  ·simp [q0,q1,q2,q3,q4,wem,hem2]
  clear q0 q1 q2 q3 q4
  rintro s X ⟨q0,q1,q2,q3,q4,hX⟩
  rw [hX];clear hX X
  have w1:IntKind.i64.wrap ((a:Int)+e)=((a+e:Nat):Int):=by rw [aK (by omega) (by omega)];omega
  obtain ⟨ae,haed⟩:∃ae,ae=a+e:=⟨_,rfl⟩
  rw [←haed] at w1
  obtain ⟨mid,hmid⟩:∃mid,mid=ae / 2:=⟨_,rfl⟩
  have c1:=fun H=>xt H ae (by omega)
  have c2:=fun t=>xu (C:=C) t ae mid hmid
  have c3:=fun H=>xv H mid (by omega)
  have w2:IntKind.i64.wrap ((mid:Int)+m)=((mid+m:Nat):Int):=by rw [aK (by omega) (by omega)];omega
  obtain ⟨nn,hnn⟩:∃nn,nn=mid+m:=⟨_,rfl⟩
  rw [←hnn] at w2
  have w3:IntKind.i64.wrap ((nn:Int)-1)=((nn-1:Nat):Int):=by rw [aK (by omega) (by omega)];omega
  obtain ⟨p,hp⟩:∃p,p=nn-1:=⟨_,rfl⟩
  rw [←hp] at w3
  refine cut (fun s X=>s 0=.sl b g 172 0 L.length∧s 1=.int .i64 a∧s 2=.int .i64 m∧s 3=.int .i64 e∧s 4=.fn 60 []∧s 18=.int .i64 mid∧X=H) ?_ ?_
  ·simp [q0,q1,q2,q3,q4,w1,c1,c2,c3]
  clear q0 q1 q2 q3 q4
  rintro s X ⟨q0,q1,q2,q3,q4,q18,hX⟩
  rw [hX];clear hX X
  refine cut (fun s X=>s 0=.sl b g 172 0 L.length∧s 1=.int .i64 a∧s 2=.int .i64 m∧s 3=.int .i64 e∧s 4=.fn 60 []∧s 18=.int .i64 mid∧s 19=.int .i64 nn∧X=H) ?_ ?_
  ·simp [q0,q1,q2,q3,q4,q18,w2]
  clear q0 q1 q2 q3 q4 q18
  rintro s X ⟨q0,q1,q2,q3,q4,q18,q19,hX⟩
  rw [hX];clear hX X
  refine cut (fun s X=>s 0=.sl b g 172 0 L.length∧s 1=.int .i64 a∧s 2=.int .i64 m∧s 3=.int .i64 e∧s 4=.fn 60 []∧s 18=.int .i64 mid∧s 19=.int .i64 nn∧X=H) ?_ ?_
  ·simp [q0,q1,q2,q3,q4,q18,q19]
  clear q0 q1 q2 q3 q4 q18 q19
  rintro s X ⟨q0,q1,q2,q3,q4,q18,q19,hX⟩
  rw [hX];clear hX X
  obtain ⟨r,hr⟩:∃r,r=if mid<m then mid else m:=⟨_,rfl⟩
  have hrm:r≤m∧r≤mid:=by rw [hr];split<;>omega
  refine cut (fun s X=>s 0=.sl b g 172 0 L.length∧s 1=.int .i64 a∧s 2=.int .i64 m∧s 3=.int .i64 e∧s 4=.fn 60 []∧s 18=.int .i64 mid∧s 19=.int .i64 nn∧X=H∧s 21=.int .i64 (r:Int)∧∃i:Nat,s 20=.int .i64 (i:Int)∧nn≤i+e∧a≤i∧i≤r) ?_ ?_
  ·by_cases hmm:mid<m
   ·have w4:IntKind.i64.wrap ((nn:Int)-e)=((nn-e:Nat):Int):=by rw [aK (by omega) (by omega)];omega
    obtain ⟨ne,hne⟩:∃ne,ne=nn-e:=⟨_,rfl⟩
    rw [←hne] at w4
    rw [if_pos hmm] at hr
    simp [q0,q1,q2,q3,q4,q18,q19,hmm,w4]
    exact ⟨by omega,ne,rfl,by omega,by omega,by omega⟩
   ·rw [if_neg hmm] at hr
    simp [q0,q1,q2,q3,q4,q18,q19,hmm]
    exact ⟨by omega,a,rfl,by omega,by omega,by omega⟩
  clear q0 q1 q2 q3 q4 q18 q19
  rintro s X ⟨q0,q1,q2,q3,q4,q18,q19,hX,q21,i0,q20,hij⟩
  rw [hX];clear hX X
  refine cut (fun s X=>s 0=.sl b g 172 0 L.length∧s 1=.int .i64 a∧s 2=.int .i64 m∧s 3=.int .i64 e∧s 4=.fn 60 []∧s 18=.int .i64 mid∧s 19=.int .i64 nn∧s 22=.int .i64 p∧X=H∧s 21=.int .i64 (r:Int)∧∃i:Nat,s 20=.int .i64 (i:Int)∧nn≤i+e∧a≤i∧i≤r) ?_ ?_
  ·simp [q0,q1,q2,q3,q4,q18,q19,w3,q20,q21]
   exact ⟨i0,rfl,hij⟩
  clear q0 q1 q2 q3 q4 q18 q19 q20 q21 hij
  rintro s X ⟨q0,q1,q2,q3,q4,q18,q19,q22,hX,q21,i0,q20,hij⟩
  rw [hX];clear hX X
  refine cut (fun s X=>s 0=.sl b g 172 0 L.length∧s 1=.int .i64 a∧s 2=.int .i64 m∧s 3=.int .i64 e∧s 4=.fn 60 []∧s 18=.int .i64 mid∧s 19=.int .i64 nn∧X=H∧s 20=.int .i64 (r:Int)) ?_ ?_
  ·rw [cq,iW]
   refine cn (fun s X=>s 0=.sl b g 172 0 L.length∧s 1=.int .i64 a∧s 2=.int .i64 m∧s 3=.int .i64 e∧s 4=.fn 60 []∧s 18=.int .i64 mid∧s 19=.int .i64 nn∧s 22=.int .i64 p∧X=H∧s 21=.int .i64 (r:Int)∧∃i:Nat,s 20=.int .i64 (i:Int)∧nn≤i+e∧a≤i∧i≤r) (fun s _=>r-vm (s 20)) ?_ ?_
   ·exact ⟨q0,q1,q2,q3,q4,q18,q19,q22,rfl,q21,i0,q20,hij⟩
   clear q0 q1 q2 q3 q4 q18 q19 q20 q21 q22 hij
   rintro s X ⟨q0,q1,q2,q3,q4,q18,q19,q22,hX,q21,i,q20,hij⟩
   rw [hX];clear hX X
   by_cases hlt:i<r
   ·have w4:IntKind.i64.wrap ((i:Int)+r)=((i+r:Nat):Int):=by rw [aK (by omega) (by omega)];omega
    obtain ⟨ij,hijd⟩:∃ij,ij=i+r:=⟨_,rfl⟩
    rw [←hijd] at w4
    obtain ⟨h,hh⟩:∃h,h=ij / 2:=⟨_,rfl⟩
    have c1:=fun H=>xt H ij (by omega)
    have c2:=fun t=>xu (C:=C) t ij h hh
    have c3:=fun H=>xv H h (by omega)
    have w5:IntKind.i64.wrap ((p:Int)-h)=((p-h:Nat):Int):=by rw [aK (by omega) (by omega)];omega
    obtain ⟨ph,hph⟩:∃ph,ph=p-h:=⟨_,rfl⟩
    rw [←hph] at w5
    have hhL:h<L.length:=by omega
    have hpL:ph<L.length:=by omega
    have r1:=nJ hH hpL
    have r2:=nJ hH hhL
    have hlt2:h<ph:=by omega
    have hc:=hu.ge hlt2 hpL
    have ec:=fun K=>pU S (base:=base) (H:=H) L[ph] L[h] K
    have w6:IntKind.i64.wrap ((h:Int)+1)=((h+1:Nat):Int):=by rw [aK (by omega) (by omega)];omega
    obtain ⟨h1,hh1⟩:∃h1,h1=h+1:=⟨_,rfl⟩
    rw [←hh1] at w6
    simp [q0,q1,q2,q3,q4,q18,q19,q20,q21,q22,hlt,w4,w5,w6,c1,c2,c3,hhL,hpL,r1,r2,ec,hc]
    exact ⟨⟨h1,rfl,by omega,by omega,by omega⟩,by omega⟩
   ·have:i=r:=by omega
    subst this
    simp [q0,q1,q2,q3,q4,q18,q19,q20,q21,q22]
  clear q0 q1 q2 q3 q4 q18 q19 q20 q21 q22 hij
  rintro s X ⟨q0,q1,q2,q3,q4,q18,q19,hX,q20⟩
  rw [hX];clear hX X
  have w4:IntKind.i64.wrap ((nn:Int)-r)=((nn-r:Nat):Int):=by rw [aK (by omega) (by omega)];omega
  obtain ⟨en,hen⟩:∃en,en=nn-r:=⟨_,rfl⟩
  rw [←hen] at w4
  refine cut (fun s X=>s 0=.sl b g 172 0 L.length∧s 1=.int .i64 a∧s 2=.int .i64 m∧s 3=.int .i64 e∧s 4=.fn 60 []∧s 18=.int .i64 mid∧s 20=.int .i64 r∧s 24=.int .i64 en∧X=H) ?_ ?_
  ·simp [q0,q1,q2,q3,q4,q18,q19,q20,w4]
  clear q0 q1 q2 q3 q4 q18 q19 q20
  rintro s X ⟨q0,q1,q2,q3,q4,q18,q20,q24,hX⟩
  rw [hX];clear hX X
  have hno:¬(r<m∧m<en):=by
   intro h
   by_cases hmm:mid<m
   ·rw [if_pos hmm] at hr;omega
   ·rw [if_neg hmm] at hr;omega
  refine cut (fun s X=>s 0=.sl b g 172 0 L.length∧s 1=.int .i64 a∧s 2=.int .i64 m∧s 3=.int .i64 e∧s 4=.fn 60 []∧s 18=.int .i64 mid∧s 20=.int .i64 r∧s 24=.int .i64 en∧X=H) ?_ ?_
  ·by_cases g1:r<m
   ·have g2:¬m<en:=fun h=>hno ⟨g1,h⟩
    simp [q0,q1,q2,q3,q4,q18,q20,q24,an,g1,g2]
   ·simp [q0,q1,q2,q3,q4,q18,q20,q24,an,g1]
  clear q0 q1 q2 q3 q4 q18 q20 q24
  rintro s X ⟨q0,q1,q2,q3,q4,q18,q20,q24,hX⟩
  rw [hX];clear hX X
  refine cut (fun s X=>s 0=.sl b g 172 0 L.length∧s 3=.int .i64 e∧s 4=.fn 60 []∧s 18=.int .i64 mid∧s 24=.int .i64 en∧X=H) ?_ ?_
  ·by_cases g1:a<r
   ·by_cases g2:r<mid
    ·have er:=fun K=>ih base b g H L hH hu hn a r mid g1 g2 (by omega) (by omega) K
     simp [q0,q1,q2,q3,q4,q18,q20,q24,an,g1,g2,er]
    ·simp [q0,q1,q2,q3,q4,q18,q20,q24,an,g1,g2]
   ·simp [q0,q1,q2,q3,q4,q18,q20,q24,an,g1]
  clear q0 q1 q2 q3 q4 q18 q20 q24
  rintro s X ⟨q0,q3,q4,q18,q24,hX⟩
  rw [hX];clear hX X
  by_cases g1:mid<en
  ·by_cases g2:en<e
   ·have er:=fun K=>ih base b g H L hH hu hn mid en e g1 g2 he (by omega) K
    simp [q0,q3,q4,q18,q24,an,g1,g2,er]
   ·simp [q0,q3,q4,q18,q24,an,g1,g2]
  ·simp [q0,q3,q4,q18,q24,an,g1]
end Go.Proofs.Ev
