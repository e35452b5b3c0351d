/- Part 11 of the proof that quiltlaw38.BlameHistory returns true: no statement of its own. -/
import Derived.Test.YtkicailcmamaiaaGreatDoorH10
set_option linter.all false
namespace Go.Proofs.Ev
open Go.Proofs
variable {C:bD}
theorem pU:∀(n:Nat) (m:List UInt8),kN m (n+1)=kN m n++[(m.drop (64*n)).take 64]
 | 0,m=>by simp [kN]
 | n+1,m=>by
  rw [kN,pU n (m.drop 64),kN]
  simp [List.drop_drop,show 64+64*n=64*(n+1) by omega]
def mS (m:List UInt8) (k:Nat):vz:=(kN m k).foldl nO ou
theorem uR (m:List UInt8) (k:Nat):mS m (k+1)=nO (mS m k) ((m.drop (64*k)).take 64):=by
 rw [mS,pU,List.foldl_append];rfl
theorem uv (x:List UInt8):∃q,(c8 x).length=64*q∧0<q∧64*q≤x.length+72+64:=by
 refine ⟨(c8 x).length / 64,?_,?_,?_⟩<;>simp [c8,ct]<;>omega
theorem uS (v:vz):gX v=v.list.map bT:=rfl
def qW (D:List Nat) (i:Nat):List AV:=dig (D.take i)++List.replicate (32-i) (.int .u8 0)
theorem yT {D:List Nat} {i:Nat} (hD:D.length=32) (h:i≤32):(qW D i).length=32:=by simp [qW];omega
theorem yU {D:List Nat} {i n:Nat} (hD:D.length=32) (h:i<32) (hn:D[i]?=some n):(qW D i).take i++AV.int .u8 (n:Int)::(qW D i).drop (i+1)=qW D (i+1):=by
 have e:32-i=(32-(i+1))+1:=by omega
 have l1:(dig (D.take i)).length=i:=by simp;omega
 have et:D.take (i+1)=D.take i++[n]:=by rw [List.take_add_one,hn];rfl
 unfold qW
 rw [List.take_append_of_le_length (by omega),List.take_of_length_le (by omega),List.drop_append,List.drop_of_length_le (by omega),l1,e,List.replicate_succ,et]
 simp [dig,show i+1-i=1 by omega]
set_option maxRecDepth 100000 in
set_option maxHeartbeats 2000000 in
theorem JT (S:d3 C) (x:List UInt8) (hx:x.length≤2^40):b8 Tryz.prog C 72 [] [.str x] (.agg (dig (Ay x))):=by
 refine aw (S.pure6 _ (by decide)) fun H=>aj Tryz.func72 rfl (S.prim _ (by decide)) (by simp) (by kernel_rfl) ?_
 unfold Tryz.f72
 have cp:=(Cd S x hx).eq
 obtain ⟨q,hq,hq0,hq1⟩:=uv x
 have hsha:Ay x=sA (mS (c8 x) q).list:=by rw [Ay,qB,hq,show 64*q / 64=q by omega];rfl
 have h0:mS (c8 x) 0=ou:=rfl
 rw [hsha]
 generalize hm:c8 x=m at *
 simp [aE,ao,aD,cp]
 refine ⟨rfl,?_⟩
 refine ay q (fun i s H'=>∃Z,Z.length=32∧s 2=.ptr H.length 0 32 0 0∧s 3=.ptr (H.length+1) 0 8 0 0∧s 4=.str m∧s 5=.int .i64 ((64*i:Nat):Int)∧H'=H++[.rows 32 0 [Z],.rows 8 0 [gX (mS m i)]]) ?_ ?_
 ·exact ⟨List.replicate 32 (.int .u8 0),rfl,rfl,rfl,rfl,rfl,by rw [h0];rfl⟩
 rintro i s H' ⟨Z,hZ,e2,e3,e4,e5,rfl⟩ hi
 obtain ⟨j,hj⟩:∃j,j=64*i:=⟨_,rfl⟩
 rw [←hj] at e5
 have w1:IntKind.i64.wrap ((j:Int)+64)=((j+64:Nat):Int):=by rw [aO (by omega) (by omega)];omega
 by_cases h:i<q
 ·have hb:((m.take (j+64)).drop j).length=64:=by simp;omega
  have hbl:(m.take (j+64)).drop j=(m.drop (64*i)).take 64:=by rw [List.drop_take,hj];congr 1;omega
  have cs:=(Ho S (mS m i) _ hb).eq
  have hnext:nO (mS m i) ((m.take (j+64)).drop j)=mS m (i+1):=by rw [uR,hbl]
  have l8:(gX (mS m i)).length=8:=rfl
  have l9:(gX (mS m (i+1))).length=8:=rfl
  have f8:∀v∈gX (mS m (i+1)),v.leaf=true:=by intro v hv;rw [uS] at hv;obtain ⟨y,_,rfl⟩:=List.mem_map.1 hv;rfl
  have hT:List.take 8 (gX (mS m i))=gX (mS m i):=rfl
  rw [hnext] at cs
  generalize hj2:j+64=j2 at w1 hb cs
  generalize hV:gX (mS m i)=V at *
  generalize hV':gX (mS m (i+1))=V' at *
  generalize hB:(m.take j2).drop j=B at *
  simp [e2,e3,e4,e5,w1,dw,bH,show (j2:Int)≤m.length by omega,show (j2:Int)<(m.length:Int)+1 by omega,show (j:Int)<(j2:Int)+1 by omega,hB,l8,hT,cs,ao,l9,List.drop_of_length_le (Nat.le_of_eq l8)]
  rw [aL (h:=by kernel_rfl)]
  simp [e2,e3,e4,e5,w1,h]
  exact ⟨f8,Z,hZ,by omega,rfl,hV'.symm⟩
 have h:i=q:=by omega
 subst h
 obtain ⟨D,hDd⟩:∃D,D=sA (mS m i).list:=⟨_,rfl⟩
 have hD:D.length=32:=by rw [hDd];simp [sA]
 have hDat:∀k,k<32→D[k]?=some (((((mS m i).list.getD (k / 4) 0) >>> (24-8*(k % 4))).toNat) % 256):=by
  intro k hk
  rw [hDd,sA,List.getElem?_map,List.getElem?_range hk]
  simp [BitVec.toNat_ushiftRight,Nat.shiftRight_eq_div_pow]
 have hVat:∀k,k<32→(gX (mS m i))[k / 4]?=some (bT ((mS m i).list.getD (k / 4) 0)):=by
  intro k hk
  rw [uS,List.getElem?_map,List.getD_eq_getElem?_getD,List.getElem?_eq_getElem (show k / 4<(mS m i).list.length by simp [vz.list];omega)];rfl
 rw [←hDd]
 have l8:(gX (mS m i)).length=8:=rfl
 clear hDd
 generalize gX (mS m i)=V at *
 generalize (mS m i).list=L at *
 simp [e2,e3,e4,e5,w1,show ¬(j:Int)+64≤m.length by omega,aD,ao,show aJ.length=32 from rfl]
 refine ay 32 (fun i s H'=>s 2=.ptr H.length 0 32 0 0∧s 3=.ptr (H.length+1) 0 8 0 0∧s 6=.ptr (H.length+2) 0 32 0 0∧s 7=.int .i64 i∧H'=H++[.rows 32 0 [Z],.rows 8 0 [V],.rows 32 0 [qW D i]]) ?_ ?_
 ·exact ⟨e2,e3,rfl,rfl,rfl⟩
 clear e2 e3 e4 e5
 rintro k s H' ⟨e2,e3,e6,e7,rfl⟩ hi
 have hl:=yT (D:=D) (i:=k) hD (by omega)
 by_cases h:k<32
 ·obtain ⟨a,ha⟩:∃a,a=k / 4:=⟨_,rfl⟩
  obtain ⟨b,hb⟩:∃b,b=24-8*(k % 4):=⟨_,rfl⟩
  have d1:∀t,bP Tryz.prog C .quo t (.int .i64 (k:Int)) (.int .i64 4)=some (.int .i64 (a:Int)):=fun t=>by
   rw [xi (h:=by decide),Int.tdiv_eq_ediv_of_nonneg (by omega),aO (by omega) (by omega)];congr 2;omega
  have d2:∀t,bP Tryz.prog C .rem t (.int .i64 (k:Int)) (.int .i64 4)=some (.int .i64 ((k % 4:Nat):Int)):=fun t=>by
   rw [pS (h:=by decide),Int.tmod_eq_emod_of_nonneg (by omega)];congr 2
  obtain ⟨r,hr⟩:∃r,r=k % 4:=⟨_,rfl⟩
  rw [←hr] at d2 hb
  have w2:IntKind.i64.wrap (8*(r:Int))=((8*r:Nat):Int):=by rw [aO (by omega) (by omega)];omega
  have w3:IntKind.i64.wrap (24-((8*r:Nat):Int))=(b:Int):=by rw [aO (by omega) (by omega)];omega
  have w4:IntKind.u64.wrap (b:Int)=(b:Int):=IntWalk.u64_in _ (by omega)
  have hDk:=hDat k h
  have hVk:=hVat k h
  rw [←ha] at hDk hVk
  rw [←hr,←hb] at hDk
  have sh:=fun t=>sg (P:=Tryz.prog) (C:=C) t (L.getD a 0) .u64 b (by omega)
  generalize L.getD a 0=x at *
  have cv:∀H,bn Tryz.prog H 205 5 (bT (x >>> b))=some (.int .u8 (((x >>> b).toNat % 256:Nat):Int),H):=fun H=>by
   simp [bn,bT,IntKind.wrap_u8]
  have cvi:∀H n,bn Tryz.prog H 3 209 (.int .i64 n)=some (.int .u64 (IntKind.u64.wrap n),H):=fun H n=>by simp [bn]
  have hset:=yU hD h hDk
  generalize hn:(x >>> b).toNat % 256=n at *
  generalize h8r:8*r=r8 at *
  have k8:(a:Int)<8∧a<8:=by omega
  have GC:(k:Int)<32∧k<32∧k+1≤32:=by omega
  simp [-getElem?_pos,List.getElem?_cons_zero,e2,e3,e6,e7,d1,d2,w2,w3,w4,k8,GC,hVk,sh,cv,cvi,ao,hl,hset,au GC.2.1 (by decide)]
 ·have h:k=32:=by omega
  subst h
  have e32:qW D 32=dig D:=by simp [qW,List.take_of_length_le,hD]
  rw [e32] at hl ⊢
  simp [e2,e3,e6,e7,ao,hZ,hD,List.take_of_length_le,List.drop_of_length_le (Nat.le_of_eq hZ)]
  exact ak (v:=.agg (dig D)) (gg D)
end Go.Proofs.Ev
namespace Go.Proofs.Ev
open Go.Proofs
variable {C:bD}
structure cW (C:bD):Prop extends d3 C where
 frz7:∀f,f∈[60,38]→C.pure f=false∧C.frz f=true
 pure7:∀f,f∈[37,32,25]→C.pure f=true
theorem yy {p:aA}:(gz p).length≤65536:=by
 unfold gz
 by_cases h:bt p=0
 ·rw [if_pos h]
  unfold bt at h
  by_cases hc:j5 p=0
  ·rw [if_neg (by simpa using hc)] at h
   unfold gU at h
   split at h
   ·omega
   ·omega
  ·rw [if_pos hc] at h;omega
 ·rw [if_neg h];simp
def pJ (p:aA):List Nat:=if bt p=0 then Ay (dC p).enc else aJ
theorem l4 (p:aA):(pJ p).length=32:=by unfold pJ;split<;>simp [aJ]
theorem lZ (p:aA):∀x∈pJ p,x<256:=by
 unfold pJ;split
 ·exact C7 _
 ·decide
theorem zZ (S:d3 C) (p:aA) (hp:p.Ok) (hp2:p.Ok2):b8 Tryz.prog C 35 [] [.agg p.cells] (.tup [.agg (dig (pJ p)),.int .i64 (bt p)]):=by
 refine aw (S.pure6 _ (by decide)) fun H=>aj Tryz.func35 rfl (S.prim _ (by decide)) (by simp) (by kernel_rfl) ?_
 unfold Tryz.f35
 have e1:=(qt S.todb p hp hp2).eq
 have e2:=(JT S (gz p) (by have:=yy (p:=p);omega)).eq
 have l1:(Ay (gz p)).length=32:=JX _
 by_cases h:bt p=0
 ·have hE:gz p=(dC p).enc:=by unfold gz;rw [if_pos h]
  have hI:pJ p=Ay (gz p):=by unfold pJ;rw [if_pos h,hE]
  rw [hI]
  generalize Ay (gz p)=D at *
  simp [aE,e1,e2,h,ao,aD,l1,List.take_of_length_le,show aJ.length=32 from rfl,List.drop_of_length_le]
  exact bb (ak (v:=.agg (dig D)) (gg D)) (by simp)
 ·have hI:pJ p=aJ:=by unfold pJ;rw [if_neg h]
  have hb:(bt p != 0)=true:=by simpa using h
  rw [hI]
  simp [aE,e1,h,hb,ao,aD,show aJ.length=32 from rfl,List.take_of_length_le,List.drop_of_length_le]
  exact bb (ak (v:=.agg (dig aJ)) (gg aJ)) (by simp)
def dg (l:List ar) (d:List Nat):Bool:=l.any fun x=>decide (x.d=d)
theorem DT (x:ar) (l:List ar) (d:List Nat):dg (x::l) d=(decide (x.d=d)||dg l d):=rfl
theorem qg {l:List ar} {d:List Nat}:dg l d=true↔∃x∈l,x.d=d:=by simp [dg]
theorem jL (S:az C) (a b:ar):bP Tryz.prog C .eql 25 (.agg a.cells) (.agg b.cells)=some (.bool (decide (a.d=b.d))):=oW S a.d b.d a.h b.h
theorem yi (S:cW C) (l:List ar) (k:SK) (d:ar) (hl:l.length≤2^40):sq Tryz.prog C 60 [am k (l.map ar.cells),.agg d.cells] (.bool (dg l d.d)):=by
 refine lN (S.frz7 _ (by decide)).1 (S.frz7 _ (by decide)).2 rfl fun H=>aj Tryz.func60 rfl (S.prim _ (by decide)) (by simp) (by kernel_rfl) ?_
 unfold Tryz.f60
 have e:=jL S.toaz
 simp [aE]
 refine ay l.length (fun i s H'=>H'=H++[.rows 32 0 [d.cells]]∧s 0=am k (l.map ar.cells)∧s 3=.ptr H.length 0 32 0 0∧s 5=.int .i64 i∧dg l d.d=dg (l.drop i) d.d) ?_ ?_
 ·exact ⟨rfl,rfl,rfl,rfl,rfl⟩
 rintro i s H' ⟨rfl,e0,e3,e5,hc⟩ hi
 by_cases h:i<l.length
 ·rw [List.drop_eq_getElem_cons h,DT] at hc
  by_cases hd:l[i].d=d.d
  ·have hc1:dg l d.d=true:=by rw [hc];simp [hd]
   simp [e0,e3,e5,h,e,hd,hc1]
  ·have hc1:dg l d.d=dg (l.drop (i+1)) d.d:=by rw [hc];simp [hd]
   simp [e0,e3,e5,h,e,hd,hc1,au h (by omega)]
 ·have h':i=l.length:=by omega
  subst h'
  have hc1:dg l d.d=false:=by rw [hc];simp [dg]
  simp [e0,e3,e5,hc1]
def gb (l some:List ar):Bool:=some.all fun x=>dg l x.d
theorem Di (l:List ar) (x:ar) (m:List ar):gb l (x::m)=(dg l x.d&&gb l m):=rfl
theorem C3 (S:cW C) (l m:List ar) (k k2:SK) (hl:l.length≤2^40) (hm:m.length≤2^40):sq Tryz.prog C 38 [am k (l.map ar.cells),am k2 (m.map ar.cells)] (.bool (gb l m)):=by
 refine lN (S.frz7 _ (by decide)).1 (S.frz7 _ (by decide)).2 rfl fun H=>aj Tryz.func38 rfl (S.prim _ (by decide)) (by simp) (by kernel_rfl) ?_
 unfold Tryz.f38
 have e:=fun d=>((yi S l k d hl).ret (by simp [AV.closeds,AV.closed,bI (aH ar.closed _)])).eq
 simp [aE]
 refine ay m.length (fun i s H'=>H'=H∧s 0=am k (l.map ar.cells)∧s 1=am k2 (m.map ar.cells)∧s 5=.int .i64 i∧gb l m=gb l (m.drop i)) ?_ ?_
 ·exact ⟨rfl,rfl,rfl,rfl,rfl⟩
 rintro i s H' ⟨rfl,e0,e1,e5,hc⟩ hi
 by_cases h:i<m.length
 ·rw [List.drop_eq_getElem_cons h,Di] at hc
  cases hh:dg l m[i].d with
  | false =>
   have hc1:gb l m=false:=by rw [hc,hh];rfl
   simp [e0,e1,e5,h,e,hh,hc1]
  | true =>
   have hc1:gb l m=gb l (m.drop (i+1)):=by rw [hc,hh];rfl
   simp [e0,e1,e5,h,e,hh,hc1,au h (by omega)]
 ·have h':i=m.length:=by omega
  subst h'
  have hc1:gb l m=true:=by rw [hc];simp [gb]
  simp [e0,e1,e5,hc1]
end Go.Proofs.Ev
namespace Go.Proofs.Ev
open Go.Proofs
variable {C:bD}
theorem sY {Z J H0:ae} {n:Nat} (hn:n=Z.length) (hZ:H0.length≤Z.length) {v x:AV} {r ys:List ar} (hg:aQ n 32 J v (r.map ar.cells)) (hx:cq (Z++J) (.slice 25) x=some (ys.map ar.cells)) (hb:r.length+ys.length≤2^30) :
 ∃v' J',bg Tryz.prog H0.length (Z++J) #[34,34] v.denil x=some (v',Z++J')∧aQ n 32 J' v' ((r++ys).map ar.cells)∧((ys≠[]∨∃b g l,v=.sl b g 32 0 l)→∃b g l,v'=.sl b g 32 0 l):=by
 obtain ⟨v',J',h1,h2,h3⟩:=aQ.appendG (P:=Tryz.prog) (base:=H0.length) (Z:=Z) (J:=J) (e:=25) (e':=25) (ts:=#[34,34]) (ys:=ys.map ar.cells) (x:=x) (v:=v) (rows:=r.map ar.cells) (by simp) (by simp) mD AL (by simp [aJ]) (by decide) hn hZ hg (by simp) hx (by simp) (by simp;omega)
 exact ⟨v',J',h1,by simpa using h2,by simpa using h3⟩
theorem sN {P:Program} {t e:TypeId} {n:Nat} (h:P.underlying t=some (.slice e)) (hs:br P e=some n) {k:SK} {rows:List (List AV)} (hw:∀r∈rows,r.length=n) {j:Nat} {K:IntKind} (hj:j≤rows.length) :
 ∃x,dw P t (am k rows).denil none (some (.int K (j:Int))) none=some (.lst (rows.take j) x):=by
 obtain ⟨x,hx⟩:=mC k rows
 have hwd:wide (br P e) rows=true:=by
  cases rows with
  | nil=>simp [wide,hs]
  | cons r l=>simp [wide,hs,hw r (by simp)]
 rw [hx]
 exact ⟨_,by simp only [dw,h,hwd,if_true,bH,sI,show j<rows.length+1 by omega,Option.map_some,List.drop_zero];rfl⟩
theorem C8 {P:Program} {t e:TypeId} {n:Nat} (h:P.underlying t=some (.slice e)) (hs:br P e=some n) {k:SK} {rows:List (List AV)} (hw:∀r∈rows,r.length=n) {j:Nat} {K:IntKind} (hj:j≤rows.length) :
 ∃x,dw P t (am k rows).denil (some (.int K (j:Int))) none none=some (.lst (rows.drop j) x):=by
 obtain ⟨x,hx⟩:=mC k rows
 have hwd:wide (br P e) rows=true:=by
  cases rows with
  | nil=>simp [wide,hs]
  | cons r l=>simp [wide,hs,hw r (by simp)]
 rw [hx]
 exact ⟨_,by simp only [dw,h,hwd,if_true,bH,sI,show j<rows.length+1 by omega,Option.map_some,List.take_length];rfl⟩
def ig (l:List ar) (d:ar):Nat:=(l.takeWhile fun x=>decide (bQ x.d d.d<0)).length
def fq (a:SK×List ar) (d:ar):SK×List ar:=if (a.2[ig a.2 d]?).map (·.d)=some d.d then a else (.loose,a.2.take (ig a.2 d)++d::a.2.drop (ig a.2 d))
theorem CV (l:List ar) (d:ar):ig l d≤l.length:=by
 unfold ig;exact (List.takeWhile_sublist _).length_le
theorem Js {l:List ar} {d:ar}:∀{i:Nat} (_:i<ig l d) (hi:i<l.length),bQ l[i].d d.d<0:=by
 induction l with
 | nil=>intro i h hi;simp at hi
 | cons x l ih =>
  intro i h hi
  unfold ig at h
  rw [List.takeWhile_cons] at h
  split at h
  ·rename_i hx
   cases i with
   | zero=>simpa using hx
   | succ i=>exact ih (by unfold ig;simpa using h) (by simpa using hi)
  ·simp at h
theorem CU {l:List ar} {d:ar}:∀(hi:ig l d<l.length),¬bQ l[ig l d].d d.d<0:=by
 induction l with
 | nil=>intro hi;simp at hi
 | cons x l ih =>
  intro hi
  by_cases hx:bQ x.d d.d<0
  ·have e:ig (x::l) d=ig l d+1:=by unfold ig;rw [List.takeWhile_cons,if_pos (by simpa using hx)];rfl
   have hi':ig l d<l.length:=by rw [e] at hi;simpa using hi
   have:=ih hi'
   simp only [e,List.getElem_cons_succ];exact this
  ·have e:ig (x::l) d=0:=by unfold ig;rw [List.takeWhile_cons,if_neg (by simpa using hx)];rfl
   simp only [e,List.getElem_cons_zero];exact hx
theorem jT {a:SK×List ar} {d:ar} {e:List Nat}:(∃x∈(fq a d).2,x.d=e)↔(∃x∈a.2,x.d=e)∨d.d=e:=by
 unfold fq
 by_cases h:(a.2[ig a.2 d]?).map (·.d)=some d.d
 ·rw [if_pos h]
  obtain ⟨y,hy,hyd⟩:=Option.map_eq_some_iff.1 h
  refine ⟨.inl,fun h=>h.elim id fun h=>⟨y,List.mem_of_getElem? hy,by rw [hyd,h]⟩⟩
 ·rw [if_neg h]
  have:∀x,x∈a.2.take (ig a.2 d)++d::a.2.drop (ig a.2 d)↔x∈a.2∨x=d:=by
   intro x
   conv=>rhs;rw [←List.take_append_drop (ig a.2 d) a.2]
   simp only [List.mem_append,List.mem_cons];grind
  simp only [this]
  refine ⟨?_,?_⟩
  ·rintro ⟨x,hx | rfl,rfl⟩
   ·exact .inl ⟨x,hx,rfl⟩
   ·exact .inr rfl
  ·rintro (⟨x,hx,rfl⟩ | rfl)
   ·exact ⟨x,.inl hx,rfl⟩
   ·exact ⟨d,.inr rfl,rfl⟩
theorem oc (a:SK×List ar) (d:ar):(fq a d).2.length≤a.2.length+1:=by
 unfold fq;split
 ·omega
 ·have:=CV a.2 d;simp;omega
set_option maxHeartbeats 2000000 in
theorem Al (S:cW C) (a:SK×List ar) (d:ar) (hl:a.2.length≤2^20):b8 Tryz.prog C 74 [] [am a.1 (a.2.map ar.cells),.agg d.cells] (am (fq a d).1 ((fq a d).2.map ar.cells)):=by
 obtain ⟨k,l⟩:=a
 simp only at hl ⊢
 refine aw (S.pure6 _ (by decide)) fun H=>aj Tryz.func74 rfl (S.prim _ (by decide)) (by simp) (by kernel_rfl) ?_
 unfold Tryz.f74
 have e:=jL S.toaz
 have c:∀a b:ar,∀base H K,aF Tryz.prog C base (.fn 36 []) [.agg a.cells,.agg b.cells] H K=K (.int .i64 (bQ a.d b.d)) H:=fun a b=>(nJ (S.prim _ (by decide)) (S.pure _ (by decide)) a.d b.d a.h b.h).eq
 have hp:=CV l d
 simp [aE]
 refine ay (ig l d) (fun i s H'=>H'=H++[.rows 32 0 [d.cells]]∧s 0=am k (l.map ar.cells)∧s 3=.ptr H.length 0 32 0 0∧s 5=.int .i64 i) ?_ ?_
 ·exact ⟨rfl,rfl,rfl,rfl⟩
 rintro i s H' ⟨rfl,e0,e3,e5⟩ hi
 by_cases h:i<ig l d
 ·have hil:i<l.length:=by omega
  have hc:=Js h hil
  simp [e0,e3,e5,an,hil,c,hc,au h (by omega),h]
 have h':i=ig l d:=by omega
 subst h'
 by_cases heq:(l[ig l d]?).map (·.d)=some d.d
 ·have hw:fq (k,l) d=(k,l):=by unfold fq;rw [if_pos heq]
  rw [hw]
  obtain ⟨y,hy,hyd⟩:=Option.map_eq_some_iff.1 heq
  obtain ⟨hlt,hy⟩:=List.getElem?_eq_some_iff.1 hy
  have hc:=CU hlt
  have heq:l[ig l d].d=d.d:=by rw [hy];exact hyd
  generalize ig l d=j at *
  simp [e0,e3,e5,an,hlt,c,hc,e,heq]
  rw [heq] at hc
  exact ⟨by omega,fun _=>ak (bI (aH ar.closed _))⟩
 ·have hw:fq (k,l) d=(.loose,l.take (ig l d)++d::l.drop (ig l d)):=by unfold fq;rw [if_neg heq]
  rw [hw]
  have hne:∀h:ig l d<l.length,¬l[ig l d].d=d.d:=by
   intro h hh
   exact heq (by rw [List.getElem?_eq_getElem h];simp [hh])
  have hca:=@CU l d
  clear hw heq
  generalize ig l d=j at *
  obtain ⟨x1,hx1⟩:=sN (P:=Tryz.prog) (t:=34) (e:=25) (k:=k) (rows:=l.map ar.cells) (j:=j) (K:=.i64) (by simp) mD (by simp) (by simpa using hp)
  obtain ⟨x2,hx2⟩:=C8 (P:=Tryz.prog) (t:=34) (e:=25) (k:=k) (rows:=l.map ar.cells) (j:=j) (K:=.i64) (by simp) mD (by simp) (by simpa using hp)
  have e1:(n:Nat)→n=(H++[bL.rows 32 0 [d.cells]]).length→aQ n 32 [] (.lst [] true) (([]:List ar).map ar.cells):=fun _ _=>.lst []
  obtain ⟨v1,J1,ha1,hg1,_⟩:=sY (H0:=H) (Z:=H++[.rows 32 0 [d.cells]]) (J:=[]) (x:=.lst ((l.take j).map ar.cells) x1) (ys:=l.take j) rfl (by simp) (e1 _ rfl) rfl (by simp;omega)
  obtain ⟨v2,J2,ha2,hg2,hs2⟩:=sY (H0:=H) (Z:=H++[.rows 32 0 [d.cells]]) (x:=.lst [d.cells] true) (ys:=[d]) rfl (by simp) hg1 rfl (by simp;omega)
  obtain ⟨v3,J3,ha3,hg3,hs3⟩:=sY (H0:=H) (Z:=H++[.rows 32 0 [d.cells]]) (x:=.lst ((l.drop j).map ar.cells) x2) (ys:=l.drop j) rfl (by simp) hg2 rfl (by simp;omega)
  have hs3:=hs3 (.inr (hs2 (.inl (by simp))))
  have hf:=hg3.freezeS (Z:=H++[.rows 32 0 [d.cells]]) (L:=[]) (k:=H.length) (d:=2) rfl (by simp) (aH ar.closed _) hs3
  simp only [List.append_assoc,List.cons_append,List.nil_append,List.append_nil,List.map_take,List.map_drop] at ha1 ha2 ha3 hf
  rw [qV] at ha1
  by_cases hlt:j<l.length
  ·have hc:=hca hlt
   have hn:=hne hlt
   simp [e0,e3,e5,an,hlt,c,hc,e,hn,ah,aq]
   rw [hx1]
   simp [ha1,ha2,ha3,hx2,e0,e3,e5,ah,aq,show aJ.length=32 from rfl]
   simpa using hf
  ·simp [e0,e3,e5,an,hlt,ah,aq]
   rw [hx1]
   simp [ha1,ha2,ha3,hx2,e0,e3,e5,ah,aq,show aJ.length=32 from rfl]
   simpa using hf
end Go.Proofs.Ev
namespace Go.Proofs.Ev
open Go.Proofs
variable {C:bD}
def aC.dv (x:aC):ar:=⟨x.d,x.h,x.b⟩
def rx:aW:=⟨0,aM,0,aM,[],0,[],aM,aM,[],.nil,[],.nil⟩
@[simp] theorem Kq:AV.int .i64 0::(aM.cells++AV.int .i64 0::(aM.cells++AV.str []::AV.int .i64 0::AV.str []::(aM.cells++(aM.cells++[AV.nils,AV.nils]))))=rx.cells:=by simp [aW.cells,rx,am]
def lj (a:SK×List ar) (x:aC):SK×List ar:=if bz x.d then a else fq a x.dv
def fF (c:aW):List aC:=[c.file,c.parent,c.after,c.before]++c.over
def oR (a:SK×List ar) (c:aW):SK×List ar:=(fF c).foldl lj a
def cP (p:aA):SK×List ar:=if bt p≠0 then (.exact,[]) else p.changes.foldl oR (p.deps.foldl fq (.exact,[]))
theorem yB (a:SK×List ar) (x:aC):(lj a x).2.length≤a.2.length+1:=by
 unfold lj;split
 ·omega
 ·exact oc a _
theorem lz {α:Type} {f:SK×List ar→α→SK×List ar} (hf:∀a x,(f a x).2.length≤a.2.length+1):∀(l:List α) (a:SK×List ar),(l.foldl f a).2.length≤a.2.length+l.length
 | [],a=>by simp
 | x::l,a=>by have:=lz hf l (f a x);have:=hf a x;simp only [List.foldl_cons,List.length_cons];omega
theorem kb {α β:Type} {f:β→α→β} {a:β} {l:List α} {i:Nat} (h:i<l.length):(l.take (i+1)).foldl f a=f ((l.take i).foldl f a) l[i]:=by
 rw [List.take_add_one,List.getElem?_eq_getElem h,List.foldl_append];rfl
theorem FV (c:aW) (hc:c.over.length≤400) (a:SK×List ar):(oR a c).2.length≤a.2.length+404:=by
 have:=lz yB (fF c) a
 unfold oR
 have h2:(fF c).length≤404:=by simp [fF];omega
 omega
theorem tz:∀(l:List aW) (_:∀c∈l,c.over.length≤400) (a:SK×List ar),(l.foldl oR a).2.length≤a.2.length+404*l.length
 | [],_,a=>by simp
 | c::l,h,a=>by
  have:=tz l (fun c hc=>h c (by simp [hc])) (oR a c)
  have:=FV c (h c (by simp)) a
  simp only [List.foldl_cons,List.length_cons];omega
set_option maxRecDepth 100000 in
set_option maxHeartbeats 2000000 in
theorem wF (S:cW C) (p:aA) (hp:p.Ok) (hp2:p.Ok2) (hd:p.deps.length≤1000) (hcn:p.changes.length≤1000) (ho:∀c∈p.changes,c.over.length≤400) :
 b8 Tryz.prog C 39 [] [.agg p.cells] (am (cP p).1 ((cP p).2.map ar.cells)):=by
 refine aw (S.pure6 _ (by decide)) fun H=>aj Tryz.func39 rfl (S.prim _ (by decide)) (by simp) (by kernel_rfl) ?_
 unfold Tryz.f39
 have ck:=(zT S.todb p hp hp2).eq
 by_cases hE:bt p=0
 ·have hR:cP p=p.changes.foldl oR (p.deps.foldl fq (.exact,[])):=by unfold cP;rw [if_neg (by simpa using hE)]
  rw [hR]
  simp [aE,ck,hE,ah,aq]
  refine ay p.deps.length (fun i s H'=>H'=H++[.rows 5 0 [p.cells]]∧s 1=.ptr H.length 0 5 0 0∧s 4=.int .i64 i∧s 3=am ((p.deps.take i).foldl fq (.exact,[])).1 (((p.deps.take i).foldl fq (.exact,[])).2.map ar.cells)) ?_ ?_
  ·exact ⟨rfl,rfl,rfl,rfl⟩
  rintro i s H' ⟨rfl,e1,e4,e3⟩ hi
  by_cases h:i<p.deps.length
  ·have hl:=lz oc (p.deps.take i) (.exact,[])
   have c1:=(Al S ((p.deps.take i).foldl fq (.exact,[])) p.deps[i] (by simp at hl;omega)).eq
   rw [←kb (f:=fq) h] at c1
   simp [e1,e4,e3,h,c1,au h (by omega)]
  ·have h':i=p.deps.length:=by omega
   subst h'
   rw [List.take_length] at e3
   have hl:=lz oc p.deps (.exact,[])
   simp at hl
   generalize p.deps.foldl fq (.exact,[])=A at *
   simp [e1,e4,e3]
   refine ay p.changes.length (fun i s H'=>∃J,H'=H++.rows 5 0 [p.cells]::J∧s 1=.ptr H.length 0 5 0 0∧s 5=.int .i64 i∧s 3=am ((p.changes.take i).foldl oR A).1 (((p.changes.take i).foldl oR A).2.map ar.cells)) ?_ ?_
   ·exact ⟨[],rfl,e1,rfl,e3⟩
   clear e1 e3 e4
   rintro i s H' ⟨J,rfl,e1,e5,e3⟩ hi
   by_cases h:i<p.changes.length
   ·have hlc:=tz (p.changes.take i) (fun c hc=>ho c (List.mem_of_mem_take hc)) A
    have hlt:(p.changes.take i).length≤1000:=by simp;omega
    have hoc:=ho p.changes[i] (List.getElem_mem h)
    have hnext:(p.changes.take (i+1)).foldl oR A=(fF p.changes[i]).foldl lj ((p.changes.take i).foldl oR A):=by rw [kb h];rfl
    generalize (p.changes.take i).foldl oR A=B at *
    obtain ⟨v7,J7,ha,hg7,_⟩:=aQ.appendG (P:=Tryz.prog) (base:=H.length) (n:=(H++bL.rows 5 0 [p.cells]::(J++[bL.rows 139 0 [p.changes[i].cells]])).length) (Z:=H++.rows 5 0 [p.cells]::(J++[.rows 139 0 [p.changes[i].cells]])) (J:=[]) (e:=27) (e':=27) (ts:=#[48,48]) (v:=.lst [p.changes[i].file.cells,p.changes[i].parent.cells,p.changes[i].after.cells,p.changes[i].before.cells] true) (rows:=[p.changes[i].file.cells,p.changes[i].parent.cells,p.changes[i].after.cells,p.changes[i].before.cells]) (ys:=p.changes[i].over.map aC.cells) (x:=(am p.changes[i].overK (p.changes[i].over.map aC.cells)).denil) (by simp) (by simp) kJ Do (by simp) (by decide) rfl (by simp) (.lst _) (by simp) (lR _ _) (by simp) (by simp;omega)
    simp only [List.append_assoc,List.cons_append,List.append_nil,qV,List.nil_append] at ha
    have hrow:[p.changes[i].file.cells,p.changes[i].parent.cells,p.changes[i].after.cells,p.changes[i].before.cells]++p.changes[i].over.map aC.cells=(fF p.changes[i]).map aC.cells:=by simp [fF]
    rw [hrow] at hg7
    simp [e1,e5,e3,h,ao,ah,aq,ha]
    refine ay (fF p.changes[i]).length (fun j s H'=>H'=H++.rows 5 0 [p.cells]::(J++.rows 139 0 [p.changes[i].cells]::J7)∧s 1=.ptr H.length 0 5 0 0∧s 5=.int .i64 i∧s 7=v7∧s 8=.int .i64 j∧s 3=am (((fF p.changes[i]).take j).foldl lj B).1 ((((fF p.changes[i]).take j).foldl lj B).2.map ar.cells)) ?_ ?_
    ·exact ⟨rfl,e1,e5,rfl,rfl,e3⟩
    clear e1 e3 e5
    rintro j s H' ⟨rfl,e1,e5,e7,e8,e3⟩ hj
    have hlen7:=fun HH=>hg7.len (P:=Tryz.prog) (t:=48) (e:=27) (H:=HH) (by simp)
    rw [List.length_map] at hlen7
    by_cases hjl:j<(fF p.changes[i]).length
    ·have hz:=(kv S.toaz (fF p.changes[i])[j].d (fF p.changes[i])[j].h).eq
     have hfl:=lz yB ((fF p.changes[i]).take j) B
     have hidl:(fF p.changes[i]).length≤404:=by simp [fF];omega
     have c1:=(Al S (((fF p.changes[i]).take j).foldl lj B) (fF p.changes[i])[j].dv (by simp at hfl hl hlc;omega)).eq
     have hn2:=kb (f:=lj) (a:=B) hjl
     have hjw:=au hjl (by omega)
     generalize hB:((fF p.changes[i]).take j).foldl lj B=B2 at *
     generalize hB3:((fF p.changes[i]).take (j+1)).foldl lj B=B3 at *
     have c2:∀base H K,aF Tryz.prog C base (.fn 74 []) [am B2.1 (B2.2.map ar.cells),.agg (Ev.dig (fF p.changes[i])[j].d)] H K=K (am (fq B2 (fF p.changes[i])[j].dv).1 ((fq B2 (fF p.changes[i])[j].dv).2.map ar.cells)) H:=c1
     have hx:∃q,aX Tryz.prog 48 v7 (.int .i64 (j:Int))=some q∧bk q 0=some q∧i6 Tryz.prog (H++.rows 5 0 [p.cells]::(J++.rows 139 0 [p.changes[i].cells]::J7)) 25 q=some (.agg (Ev.dig (fF p.changes[i])[j].d)):=by
      rcases hg7 with ⟨h7,_⟩ | h7 | ⟨b7,g7,h7,hb7⟩
      ·simp [fF] at h7
      ·rw [h7]
       exact ⟨.eptr (fF p.changes[i])[j].cells,by simp [hjl],by simp,by simp⟩
      ·have hget:(H++.rows 5 0 [p.cells]::(J++.rows 139 0 [p.changes[i].cells]::J7))[(H++bL.rows 5 0 [p.cells]::(J++[bL.rows 139 0 [p.changes[i].cells]])).length+b7]?=some (.rows 33 g7 ((fF p.changes[i]).map aC.cells)):=by
        rw [show H++bL.rows 5 0 [p.cells]::(J++.rows 139 0 [p.changes[i].cells]::J7)=(H++bL.rows 5 0 [p.cells]::(J++[bL.rows 139 0 [p.changes[i].cells]]))++J7 by simp,bq]
        exact hb7
       rw [h7]
       refine ⟨.ptr ((H++bL.rows 5 0 [p.cells]::(J++[bL.rows 139 0 [p.changes[i].cells]])).length+b7) g7 33 (0+j) 0,by rw [rQ (by simp) kJ];simp [hjl],by simp,?_⟩
       rw [nB,gC hget]
       simp [hjl]
     obtain ⟨q,q1,q2,q3⟩:=hx
     cases hzz:bz (fF p.changes[i])[j].d with
     | true =>
      have hB4:B3=B2:=by rw [hn2,lj,if_pos hzz]
      simp [e1,e5,e7,e8,e3,hlen7,hjl,q1,q2,q3,hz,hzz,hjw]
      rw [hB3,hB4]
     | false =>
      have hB4:B3=fq B2 (fF p.changes[i])[j].dv:=by rw [hn2,lj,if_neg (by simp [hzz])]
      simp [e1,e5,e7,e8,e3,hlen7,hjl,q1,q2,q3,hz,hzz,hjw,c2]
      rw [hB3,hB4]
    ·have hj':j=(fF p.changes[i]).length:=by omega
     subst hj'
     rw [List.take_length] at e3
     rw [←hnext] at e3
     simp [e1,e5,e7,e8,hlen7,e3,h,au h (by omega)]
   ·have h':i=p.changes.length:=by omega
    subst h'
    rw [List.take_length] at e3
    simp [e1,e5,e3]
    exact ak (bI (aH ar.closed _))
 ·have hR:cP p=(.exact,[]):=by unfold cP;rw [if_pos hE]
  have hb:(bt p != 0)=true:=by simpa using hE
  rw [hR]
  simp [aE,ck,hE,hb,ah,aq]
  rfl
end Go.Proofs.Ev
namespace Go.Proofs.Ev
open Go.Proofs
variable {C:bD}
structure aV (C:bD):Prop extends cW C where
 pure8:∀f,f∈[69,68,33,127,132,126,129,130,76,40,16,15,34,4,70,122]→C.pure f=true
theorem aQ.freezeE {Z J L:ae} {n k d sz:Nat} {v:AV} {rows:List (List AV)} (hg:aQ n sz J v rows) (hn:n=Z.length) (hk:k≤Z.length) (hc:AV.closedss rows=true) (hz:rows=[]→v=.lst [] true) (hz2:v=.lst [] true∨∃b g l,v=.sl b g sz 0 l) :
 aI (Z++(J++L)) k (d+1) v=some (am (gV rows) rows):=by
 rcases hz2 with h | h
 ·have h0:rows=[]:=by
   rcases hg with ⟨h0,_⟩ | h4 | ⟨b,g,h4,_⟩
   ·exact h0
   ·rw [h] at h4;simpa using h4.symm
   ·rw [h] at h4;cases h4
  subst h0;rw [h];rfl
 ·have hne:rows≠[]:=by
   intro h0
   obtain ⟨b,g,l,h⟩:=h
   have:=hz h0
   rw [h] at this;cases this
  rw [hg.freezeS hn hk hc h]
  cases rows with
  | nil=>exact absurd rfl hne
  | cons a l=>rfl
theorem Lk {Z J H0:ae} {n:Nat} (hn:n=Z.length) (hZ:H0.length≤Z.length) {v x:AV} {r ys:List aG} (hg:aQ n 172 J v (r.map aG.cells)) (hx:cq (Z++J) (.slice 72) x=some (ys.map aG.cells)) (hb:r.length+ys.length≤2^30) :
 ∃v' J',bg Tryz.prog H0.length (Z++J) #[89,89] v.denil x=some (v',Z++J')∧aQ n 172 J' v' ((r++ys).map aG.cells)∧((ys≠[]∨∃b g l,v=.sl b g 172 0 l)→∃b g l,v'=.sl b g 172 0 l):=by
 obtain ⟨v',J',h1,h2,h3⟩:=aQ.appendG (P:=Tryz.prog) (base:=H0.length) (Z:=Z) (J:=J) (e:=72) (e':=72) (ts:=#[89,89]) (ys:=ys.map aG.cells) (x:=x) (v:=v) (rows:=r.map aG.cells) (by simp) (by simp) kK od (by simp) (by decide) hn hZ hg (by simp) hx (by simp) (by simp;omega)
 exact ⟨v',J',h1,by simpa using h2,by simpa using h3⟩
theorem AF {Z J H0:ae} {n:Nat} (hn:n=Z.length) (hZ:H0.length≤Z.length) {v x:AV} {r ys:List aC} (hg:aQ n 33 J v (r.map aC.cells)) (hx:cq (Z++J) (.slice 27) x=some (ys.map aC.cells)) (hb:r.length+ys.length≤2^30) :
 ∃v' J',bg Tryz.prog H0.length (Z++J) #[48,48] v.denil x=some (v',Z++J')∧aQ n 33 J' v' ((r++ys).map aC.cells)∧((ys≠[]∨∃b g l,v=.sl b g 33 0 l)→∃b g l,v'=.sl b g 33 0 l):=by
 obtain ⟨v',J',h1,h2,h3⟩:=aQ.appendG (P:=Tryz.prog) (base:=H0.length) (Z:=Z) (J:=J) (e:=27) (e':=27) (ts:=#[48,48]) (ys:=ys.map aC.cells) (x:=x) (v:=v) (rows:=r.map aC.cells) (by simp) (by simp) kJ Do (by simp) (by decide) hn hZ hg (by simp) hx (by simp) (by simp;omega)
 exact ⟨v',J',h1,by simpa using h2,by simpa using h3⟩
def fV (l:List aC) (d:aC):Nat:=(l.takeWhile fun x=>decide (df x d<0)).length
def cd (a:SK×List aC) (d:aC):SK×List aC:=if (a.2[fV a.2 d]?).map (aB · d)=some true then a else (.loose,a.2.take (fV a.2 d)++d::a.2.drop (fV a.2 d))
theorem xT (l:List aC) (d:aC):fV l d≤l.length:=by
 unfold fV;exact (List.takeWhile_sublist _).length_le
theorem CW {l:List aC} {d:aC}:∀{i:Nat} (_:i<fV l d) (hi:i<l.length),df l[i] d<0:=by
 induction l with
 | nil=>intro i h hi;simp at hi
 | cons x l ih =>
  intro i h hi
  unfold fV at h
  rw [List.takeWhile_cons] at h
  split at h
  ·rename_i hx
   cases i with
   | zero=>simpa using hx
   | succ i=>exact ih (by unfold fV;simpa using h) (by simpa using hi)
  ·simp at h
theorem xS {l:List aC} {d:aC}:∀(hi:fV l d<l.length),¬df l[fV l d] d<0:=by
 induction l with
 | nil=>intro hi;simp at hi
 | cons x l ih =>
  intro hi
  by_cases hx:df x d<0
  ·have e:fV (x::l) d=fV l d+1:=by unfold fV;rw [List.takeWhile_cons,if_pos (by simpa using hx)];rfl
   have hi':fV l d<l.length:=by rw [e] at hi;simpa using hi
   have:=ih hi'
   simp only [e,List.getElem_cons_succ];exact this
  ·have e:fV (x::l) d=0:=by unfold fV;rw [List.takeWhile_cons,if_neg (by simpa using hx)];rfl
   simp only [e,List.getElem_cons_zero];exact hx
theorem ui (a:SK×List aC) (d:aC):(cd a d).2.length≤a.2.length+1:=by
 unfold cd;split
 ·omega
 ·have:=xT a.2 d;simp;omega
theorem gZ (S:az C) (a b:aC):bP Tryz.prog C .eql 27 (.agg a.cells) (.agg b.cells)=some (.bool (aB a b)):=ze S a b
set_option maxHeartbeats 2000000 in
theorem mA (S:aV C) (a:SK×List aC) (d:aC) (hl:a.2.length≤2^20):b8 Tryz.prog C 69 [] [am a.1 (a.2.map aC.cells),.agg d.cells] (am (cd a d).1 ((cd a d).2.map aC.cells)):=by
 obtain ⟨k,l⟩:=a
 simp only at hl ⊢
 refine aw (S.pure8 _ (by decide)) fun H=>aj Tryz.func69 rfl (S.prim _ (by decide)) (by simp) (by kernel_rfl) ?_
 unfold Tryz.f69
 have e:=gZ S.toaz
 have c:=fun a b=>(Ad S.toaz a b).eq
 have hp:=xT l d
 simp [aE]
 refine ay (fV l d) (fun i s H'=>H'=H++[.rows 33 0 [d.cells]]∧s 0=am k (l.map aC.cells)∧s 3=.ptr H.length 0 33 0 0∧s 5=.int .i64 i) ?_ ?_
 ·exact ⟨rfl,rfl,rfl,rfl⟩
 rintro i s H' ⟨rfl,e0,e3,e5⟩ hi
 by_cases h:i<fV l d
 ·have hil:i<l.length:=by omega
  have hc:=CW h hil
  simp [e0,e3,e5,an,hil,c,hc,au h (by omega),h]
 have h':i=fV l d:=by omega
 subst h'
 by_cases heq:(l[fV l d]?).map (aB · d)=some true
 ·have hw:cd (k,l) d=(k,l):=by unfold cd;rw [if_pos heq]
  rw [hw]
  obtain ⟨y,hy,hyd⟩:=Option.map_eq_some_iff.1 heq
  obtain ⟨hlt,hy⟩:=List.getElem?_eq_some_iff.1 hy
  have hc:=xS hlt
  have heq:aB l[fV l d] d=true:=by rw [hy];exact hyd
  generalize fV l d=j at *
  simp [e0,e3,e5,an,hlt,c,hc,e,heq]
  exact ak (bI (aH aC.closed _))
 ·have hw:cd (k,l) d=(.loose,l.take (fV l d)++d::l.drop (fV l d)):=by unfold cd;rw [if_neg heq]
  rw [hw]
  have hne:∀h:fV l d<l.length,aB l[fV l d] d=false:=by
   intro h
   cases hh:aB l[fV l d] d with
   | false=>rfl
   | true=>exact absurd (by rw [List.getElem?_eq_getElem h];simp [hh]) heq
  have hca:=@xS l d
  clear hw heq
  generalize fV l d=j at *
  obtain ⟨x1,hx1⟩:=sN (P:=Tryz.prog) (t:=48) (e:=27) (k:=k) (rows:=l.map aC.cells) (j:=j) (K:=.i64) (by simp) kJ (by simp) (by simpa using hp)
  obtain ⟨x2,hx2⟩:=C8 (P:=Tryz.prog) (t:=48) (e:=27) (k:=k) (rows:=l.map aC.cells) (j:=j) (K:=.i64) (by simp) kJ (by simp) (by simpa using hp)
  have e1:(n:Nat)→n=(H++[bL.rows 33 0 [d.cells]]).length→aQ n 33 [] (.lst [] true) (([]:List aC).map aC.cells):=fun _ _=>.lst []
  obtain ⟨v1,J1,ha1,hg1,_⟩:=AF (H0:=H) (Z:=H++[.rows 33 0 [d.cells]]) (J:=[]) (x:=.lst ((l.take j).map aC.cells) x1) (ys:=l.take j) rfl (by simp) (e1 _ rfl) rfl (by simp;omega)
  obtain ⟨v2,J2,ha2,hg2,hs2⟩:=AF (H0:=H) (Z:=H++[.rows 33 0 [d.cells]]) (x:=.lst [d.cells] true) (ys:=[d]) rfl (by simp) hg1 rfl (by simp;omega)
  obtain ⟨v3,J3,ha3,hg3,hs3⟩:=AF (H0:=H) (Z:=H++[.rows 33 0 [d.cells]]) (x:=.lst ((l.drop j).map aC.cells) x2) (ys:=l.drop j) rfl (by simp) hg2 rfl (by simp;omega)
  have hs3:=hs3 (.inr (hs2 (.inl (by simp))))
  have hf:=hg3.freezeS (Z:=H++[.rows 33 0 [d.cells]]) (L:=[]) (k:=H.length) (d:=2) rfl (by simp) (aH aC.closed _) hs3
  simp only [List.append_assoc,List.cons_append,List.nil_append,List.append_nil,List.map_take,List.map_drop] at ha1 ha2 ha3 hf
  rw [qV] at ha1
  by_cases hlt:j<l.length
  ·have hc:=hca hlt
   have hn:=hne hlt
   simp [e0,e3,e5,an,hlt,c,hc,e,hn,ah,aq]
   rw [hx1]
   simp [ha1,ha2,ha3,hx2,e0,e3,e5,ah,aq]
   simpa using hf
  ·simp [e0,e3,e5,an,hlt,ah,aq]
   rw [hx1]
   simp [ha1,ha2,ha3,hx2,e0,e3,e5,ah,aq]
   simpa using hf
def bi (x:aC) (d:ar):aC:=if bz x.d&&decide (0≤x.n) then ⟨d.d,x.n,d.h,d.b⟩ else x
theorem EX (S:aV C) (x:aC) (d:ar):b8 Tryz.prog C 68 [] [.agg x.cells,.agg d.cells] (.agg (bi x d).cells):=by
 refine aw (S.pure8 _ (by decide)) fun H=>aj Tryz.func68 rfl (S.prim _ (by decide)) (by simp) (by kernel_rfl) ?_
 unfold Tryz.f68
 have e1:=(kv S.toaz x.d x.h).eq
 cases hz:(bz x.d&&decide (0≤x.n)) with
 | true =>
  have hw:bi x d=⟨d.d,x.n,d.h,d.b⟩:=by unfold bi;rw [if_pos hz]
  rw [hw]
  simp only [Bool.and_eq_true,decide_eq_true_eq] at hz
  have hd:(aC.mk d.d x.n d.h d.b).cells=d.cells++[.int .i64 x.n]:=rfl
  simp [aE,e1,hz,an,ao,hd]
  rw [←hd]
  generalize aC.mk d.d x.n d.h d.b=y
  simp
  exact ⟨fun v hv=>List.all_eq_true.1 y.leafs v hv,ak (v:=.agg y.cells) (aC.closed y)⟩
 | false =>
  have hw:bi x d=x:=by unfold bi;rw [if_neg (by simp [hz])]
  rw [hw]
  simp +contextual [-Bool.not_and,-Bool.not_or,aE,an,e1,hz,ao]
  exact ak (v:=.agg x.cells) (aC.closed x)
def oz (l:List aC) (d:ar):SK×List aC:=l.foldl (fun a x=>cd a (bi x d)) (.exact,[])
theorem wy (d:ar):∀(l:List aC) (a:SK×List aC),(l.foldl (fun a x=>cd a (bi x d)) a).2.length≤a.2.length+l.length
 | [],a=>by simp
 | x::l,a=>by have:=wy d l (cd a (bi x d));have:=ui a (bi x d);simp only [List.foldl_cons,List.length_cons];omega
def yH (d:ar) (x:aG):aG:={ x with id:=⟨d.d,x.id.n,d.h,d.b⟩ }
def vF (d:ar) (x:aG):aG:=if x.kind≠7 then { x with file:=bi x.file d } else x
def vG (d:ar) (x:aG):aG:=if x.kind=2 then { x with parent:=bi x.parent d } else x
def vc (d:ar) (x:aG):aG:=if x.kind=6 then { x with frm:=bi x.frm d,to:=bi x.to d } else x
def Cx (d:ar) (x:aG):aG:=let y:=vc d (vG d (vF d (yH d x)));{ y with over:=(oz x.over d).2,overK:=(oz x.over d).1 }
theorem aG.idD (x:aG) (d:ar):d.cells++x.cells.drop 32=aG.cells (yH d x):=by
 have hR:(yH d x).cells.drop 33=x.cells.drop 33:=((yH d x).dr33).trans x.dr33.symm
 have h1:x.cells=x.id.cells++x.cells.drop 33:=(List.take_append_drop 33 x.cells).symm.trans (congrArg (·++x.cells.drop 33) x.tk33)
 have h2:(yH d x).cells=(yH d x).id.cells++(yH d x).cells.drop 33:=(List.take_append_drop 33 _).symm.trans (congrArg (·++(yH d x).cells.drop 33) (yH d x).tk33)
 rw [h2,hR]
 generalize x.cells.drop 33=R at h1
 rw [h1,List.drop_append_of_le_length (by simp),x.id.num]
 simp [yH,aC.cells,ar.cells]
set_option maxRecDepth 100000 in
set_option maxHeartbeats 2000000 in
theorem zR (S:aV C) (p:aA) (hp:p.Ok) (hp2:p.Ok2) (hn:(aT p).length≤2^20) (ho:∀x∈aT p,x.over.length≤2^10) :
 b8 Tryz.prog C 33 [] [.agg p.cells] (.tup [am (if bt p=0 then gV (aT p) else .exact) ((if bt p=0 then (aT p).map (Cx ⟨pJ p,l4 p,lZ p⟩) else []).map aG.cells),.int .i64 (bt p)]):=by
 refine aw (S.pure8 _ (by decide)) fun H=>aj Tryz.func33 rfl (S.prim _ (by decide)) (by simp) (by kernel_rfl) ?_
 unfold Tryz.f33
 have e1:∀base H K,aF Tryz.prog C base (.fn 35 []) [.agg p.cells] H K=K (.tup [.agg (ar.mk (pJ p) (l4 p) (lZ p)).cells,.int .i64 (bt p)]) H:=(zZ S.tod3 p hp hp2).eq
 have e2:=(wD S.tofY p hp).eq
 generalize ar.mk (pJ p) (l4 p) (lZ p)=d at *
 by_cases hE:bt p=0
 ·rw [if_pos hE,if_pos hE,hE]
  simp [aE,e1,e2,hE,m7,ao,ah,aq,show aJ.length=32 from rfl]
  refine ay (aT p).length (fun i s H'=>∃J,H'=H++.rows 5 0 [p.cells]::.rows 32 0 [d.cells]::J∧s 4=.ptr (H.length+1) 0 32 0 0∧s 6=am (iI p) ((aT p).map aG.cells)∧s 9=.int .i64 i∧
   aQ (H.length+2) 172 J (s 8) ((((aT p).take i).map (Cx d)).map aG.cells)∧(i=0→s 8=.lst [] true)∧(s 8=.lst [] true∨∃b g l,s 8=.sl b g 172 0 l)) ?_ ?_
  ·rw [List.drop_of_length_le (by simp [aJ]),List.append_nil]
   exact ⟨[],rfl,rfl,rfl,rfl,.lst [],fun _=>rfl,.inl rfl⟩
  rintro i s H' ⟨J,rfl,e4,e6,e9,hg,hz,hz2⟩ hi
  by_cases h:i<(aT p).length
  ·refine cut (fun s' H'=>H'=H++.rows 5 0 [p.cells]::.rows 32 0 [d.cells]::J∧s' 4=.ptr (H.length+1) 0 32 0 0∧s' 6=am (iI p) ((aT p).map aG.cells)∧s' 9=.int .i64 i∧s' 8=s 8) ?_ ?_
   ·simp [e4,e6,e9,h]
   rintro s1 H1 ⟨rfl,e4',e6',e9',e8'⟩
   refine cut (fun s' H'=>∃J,H'=H++.rows 5 0 [p.cells]::.rows 32 0 [d.cells]::J∧s' 4=.ptr (H.length+1) 0 32 0 0∧s' 6=am (iI p) ((aT p).map aG.cells)∧s' 9=.int .i64 i∧
    aQ (H.length+2) 172 J (s' 8) ((((aT p).take (i+1)).map (Cx d)).map aG.cells)∧∃b g l,s' 8=.sl b g 172 0 l) ?_ ?_
   ·rw [fI]
    refine cut (fun s' H'=>H'=H++.rows 5 0 [p.cells]::.rows 32 0 [d.cells]::(J++[.rows 172 0 [((aT p)[i]).cells]])∧s' 4=.ptr (H.length+1) 0 32 0 0∧s' 6=am (iI p) ((aT p).map aG.cells)∧s' 9=.int .i64 i∧s' 8=s 8∧s' 10=.ptr (H.length+(J.length+1+1)) 0 172 0 0) ?_ ?_
    ·simp [e4',e6',e9',e8',h,ao]
    rintro s1 H1 ⟨rfl,e4,e6,e9,e8,e10⟩
    have hat:∀y:aG,∀s1:Sl,True:=fun _ _=>trivial
    refine cut (fun s' H'=>H'=H++.rows 5 0 [p.cells]::.rows 32 0 [d.cells]::(J++[.rows 172 0 [(yH d (aT p)[i]).cells]])∧s' 4=.ptr (H.length+1) 0 32 0 0∧s' 6=am (iI p) ((aT p).map aG.cells)∧s' 9=.int .i64 i∧s' 8=s 8∧s' 10=.ptr (H.length+(J.length+1+1)) 0 172 0 0) ?_ ?_
    ·simp [e4,e6,e9,e8,e10,ao]
     exact aG.idD _ d
    have cw:=fun x=>(EX S x d).eq
    have ci:=fun a x ha=>(mA S a x ha).eq
    have hov:=ho (aT p)[i] (List.getElem_mem h)
    have hover:(vc d (vG d (vF d (yH d (aT p)[i])))).over=(aT p)[i].over:=by
     unfold vc vG vF yH
     repeat' split
     all_goals rfl
    have hR:Cx d (aT p)[i]={ vc d (vG d (vF d (yH d (aT p)[i]))) with over:=(oz (aT p)[i].over d).2,overK:=(oz (aT p)[i].over d).1 }:=rfl
    have et:((aT p).take (i+1)).map (Cx d)=((aT p).take i).map (Cx d)++[Cx d (aT p)[i]]:=by
     rw [List.take_add_one,List.getElem?_eq_getElem h,List.map_append];rfl
    generalize yH d (aT p)[i]=y1 at *
    rintro s1 H1 ⟨rfl,e4,e6,e9,e8,e10⟩
    refine cut (fun s' H'=>H'=H++.rows 5 0 [p.cells]::.rows 32 0 [d.cells]::(J++[.rows 172 0 [(vF d y1).cells]])∧s' 4=.ptr (H.length+1) 0 32 0 0∧s' 6=am (iI p) ((aT p).map aG.cells)∧s' 9=.int .i64 i∧s' 8=s 8∧s' 10=.ptr (H.length+(J.length+1+1)) 0 172 0 0) ?_ ?_
    ·by_cases k7:y1.kind=7
     ·simp [e4,e6,e9,e8,e10,ao,k7,vF]
     ·simp [e4,e6,e9,e8,e10,ao,k7,vF,cw]
    generalize vF d y1=y2 at *
    rintro s1 H1 ⟨rfl,e4,e6,e9,e8,e10⟩
    refine cut (fun s' H'=>H'=H++.rows 5 0 [p.cells]::.rows 32 0 [d.cells]::(J++[.rows 172 0 [(vG d y2).cells]])∧s' 4=.ptr (H.length+1) 0 32 0 0∧s' 6=am (iI p) ((aT p).map aG.cells)∧s' 9=.int .i64 i∧s' 8=s 8∧s' 10=.ptr (H.length+(J.length+1+1)) 0 172 0 0) ?_ ?_
    ·by_cases k2:y2.kind=2
     ·simp [e4,e6,e9,e8,e10,ao,k2,vG,cw]
     ·simp [e4,e6,e9,e8,e10,ao,k2,vG]
    generalize vG d y2=y3 at *
    rintro s1 H1 ⟨rfl,e4,e6,e9,e8,e10⟩
    refine cut (fun s' H'=>H'=H++.rows 5 0 [p.cells]::.rows 32 0 [d.cells]::(J++[.rows 172 0 [(vc d y3).cells]])∧s' 4=.ptr (H.length+1) 0 32 0 0∧s' 6=am (iI p) ((aT p).map aG.cells)∧s' 9=.int .i64 i∧s' 8=s 8∧s' 10=.ptr (H.length+(J.length+1+1)) 0 172 0 0) ?_ ?_
    ·by_cases k6:y3.kind=6
     ·simp [e4,e6,e9,e8,e10,ao,k6,vc,cw]
      rw [aL (h:=by kernel_rfl)]
      simp [e4,e6,e9,e8,e10,ao,k6,vc,cw]
      rw [aL (h:=by kernel_rfl)]
      simp [e4,e6,e9,e8,e10,ao,k6,vc,cw]
     ·simp [e4,e6,e9,e8,e10,ao,k6,vc]
    generalize vc d y3=y4 at *
    rintro s1 H1 ⟨rfl,e4,e6,e9,e8,e10⟩
    refine cut (fun s' H'=>H'=H++.rows 5 0 [p.cells]::.rows 32 0 [d.cells]::(J++[.rows 172 0 [(y4).cells]])∧s' 4=.ptr (H.length+1) 0 32 0 0∧s' 6=am (iI p) ((aT p).map aG.cells)∧s' 9=.int .i64 i∧s' 8=s 8∧s' 10=.ptr (H.length+(J.length+1+1)) 0 172 0 0∧s' 11=.lst [] true) ?_ ?_
    ·simp [e4,e6,e9,e8,e10,ah,aq]
    rintro s1 H1 ⟨rfl,e4,e6,e9,e8,e10,e11⟩
    refine cut (fun s' H'=>H'=H++.rows 5 0 [p.cells]::.rows 32 0 [d.cells]::(J++[.rows 172 0 [(y4).cells]])∧s' 4=.ptr (H.length+1) 0 32 0 0∧s' 6=am (iI p) ((aT p).map aG.cells)∧s' 9=.int .i64 i∧s' 8=s 8∧s' 10=.ptr (H.length+(J.length+1+1)) 0 172 0 0∧s' 11=am (oz (aT p)[i].over d).1 ((oz (aT p)[i].over d).2.map aC.cells)) ?_ ?_
    ·simp [e4,e6,e9,e8,e10,e11]
     refine ay y4.over.length (fun j s' H'=>H'=H++.rows 5 0 [p.cells]::.rows 32 0 [d.cells]::(J++[.rows 172 0 [(y4).cells]])∧s' 4=.ptr (H.length+1) 0 32 0 0∧s' 6=am (iI p) ((aT p).map aG.cells)∧s' 9=.int .i64 i∧s' 8=s 8∧s' 10=.ptr (H.length+(J.length+1+1)) 0 172 0 0∧s' 12=.int .i64 j∧s' 11=am ((y4.over.take j).foldl (fun a x=>cd a (bi x d)) (.exact,[])).1 (((y4.over.take j).foldl (fun a x=>cd a (bi x d)) (.exact,[])).2.map aC.cells)) ?_ ?_
     ·exact ⟨rfl,e4,e6,e9,e8,e10,rfl,e11⟩
     clear e4 e6 e9 e8 e10 e11
     rintro j s1 H1 ⟨rfl,e4,e6,e9,e8,e10,e12,e11⟩ hj
     rw [←hover] at hov
     by_cases hjl:j<y4.over.length
     ·have hfl:=wy d (y4.over.take j) (.exact,[])
      have hft:=kb (f:=fun (a:SK×List aC) x=>cd a (bi x d)) (a:=(.exact,[])) hjl
      have hcj:=ci ((y4.over.take j).foldl (fun a x=>cd a (bi x d)) (.exact,[])) (bi y4.over[j] d) (by simp at hfl;omega)
      rw [←hft] at hcj
      simp [e4,e6,e9,e8,e10,e12,e11,hjl,cw,hcj,au hjl (by omega)]
     ·have hj':j=y4.over.length:=by omega
      subst hj'
      rw [List.take_length,hover] at e11
      simp [e4,e6,e9,e8,e10,e12,e11]
      rfl
    rintro s1 H1 ⟨rfl,e4,e6,e9,e8,e10,e11⟩
    have hy:aG.cells { y4 with over:=(oz (aT p)[i].over d).2,overK:=(oz (aT p)[i].over d).1 }=(Cx d (aT p)[i]).cells:=by rw [hR]
    have hln:(aT p).length≤2^20:=hn
    obtain ⟨v',J',ha,hg',hs'⟩:=Lk (H0:=H) (Z:=H++[.rows 5 0 [p.cells],.rows 32 0 [d.cells]]) (n:=H.length+2) (x:=.lst [(Cx d (aT p)[i]).cells] true) (ys:=[Cx d (aT p)[i]]) (by simp) (by simp) (hg.app [.rows 172 0 [(Cx d (aT p)[i]).cells]]) rfl (by simp;omega)
    rw [←et] at hg'
    simp only [List.append_assoc,List.cons_append,List.nil_append] at ha
    simp [e4,e6,e9,e8,e10,e11,ao,hy,ah,aq,ha]
    exact ⟨by simpa using hg',hs' (.inl (by simp))⟩
   ·rintro s1 H1 ⟨J,rfl,e4,e6,e9,hg,hs⟩
    simp [e4,e6,e9,h,au h (by omega)]
    exact ⟨by simpa using hg,.inr hs⟩
  ·have h':i=(aT p).length:=by omega
   subst h'
   rw [List.take_length] at hg
   simp [e4,e6,e9]
   have hf:=hg.freezeE (Z:=H++[.rows 5 0 [p.cells],.rows 32 0 [d.cells]]) (L:=[]) (k:=H.length) (d:=1) (by simp) (by simp) (aH aG.closed _) (fun h=>hz (by simpa using h)) hz2
   simp only [List.append_assoc,List.cons_append,List.nil_append,List.append_nil] at hf
   refine bb ?_ (by simp)
   rw [hf]
   have hk:gV (((aT p).map (Cx d)).map aG.cells)=gV (aT p):=by unfold gV;cases aT p<;>rfl
   rw [hk,List.map_map]
 ·rw [if_neg hE,if_neg hE]
  simp [aE,e1,e2,hE,show (bt p != 0)=true by simpa using hE,ao,ah,aq,show aJ.length=32 from rfl]
  refine bb ?_ (by simp)
  rfl
end Go.Proofs.Ev
namespace Go.Proofs.Ev
open Go.Proofs
variable {C:bD}
def OF (l:List (List UInt8)):Nat:=(l.map List.length).sum
def pg (l:List (List UInt8)):Bool:=decide (40<l.length)||decide (3000<OF l)
theorem qF {α:Type} {f:α→Nat} {l:List α} {i:Nat} (h:i<l.length):((l.take (i+1)).map f).sum=((l.take i).map f).sum+f l[i]:=by
 have e:l.take (i+1)=l.take i++[l[i]]:=by rw [List.take_add_one,List.getElem?_eq_getElem h];rfl
 rw [e,List.map_append,List.sum_append];simp
theorem pD {α:Type} {f:α→Nat} {b:Nat}:∀{l:List α},(∀x∈l,f x≤b)→(l.map f).sum≤b*l.length
 | [],_=>by simp
 | x::l,h=>by
  have:=pD (l:=l) fun y hy=>h y (by simp [hy])
  have:=h x (by simp)
  simp only [List.map_cons,List.sum_cons,List.length_cons,Nat.mul_add];omega
theorem Cb (S:aV C) (l:List (List UInt8)) (k:SK) (h1:l.length≤2^20) (h2:∀x∈l,x.length≤2^20):b8 Tryz.prog C 122 [] [am k (l.map fX)] (.bool (pg l)):=by
 refine aw (S.pure8 _ (by decide)) fun H=>aj Tryz.func122 rfl (S.prim _ (by decide)) (by simp) (by kernel_rfl) ?_
 unfold Tryz.f122
 simp [aE]
 refine ay l.length (fun i s H'=>H'=H∧s 0=am k (l.map fX)∧s 4=.int .i64 i∧s 3=.int .i64 (((l.take i).map List.length).sum:Nat)) ?_ ?_
 ·exact ⟨rfl,rfl,rfl,rfl⟩
 rintro i s H' ⟨rfl,e0,e4,e3⟩ hi
 have hs:=pD (l:=l.take i) (f:=List.length) fun x hx=>h2 x (List.mem_of_mem_take hx)
 have hsl:(l.take i).length≤2^20:=by simp;omega
 by_cases h:i<l.length
 ·have hli:=h2 _ (List.getElem_mem h)
  have hst:=qF (f:=List.length) h
  have w1:IntKind.i64.wrap (((((l.take i).map List.length).sum:Nat):Int)+(l[i].length:Int))=((((l.take (i+1)).map List.length).sum:Nat):Int):=by
   rw [hst,aO (by omega) (by omega)];omega
  generalize ((l.take i).map List.length).sum=n at *
  generalize hn2:((l.take (i+1)).map List.length).sum=n2 at *
  simp [e0,e4,e3,h,fX,w1,au h (by omega)]
  rw [←List.map_take,hn2]
 ·have h':i=l.length:=by omega
  subst h'
  rw [List.take_length] at e3
  have hg:pg l=(decide (40<(l.length:Int))||decide (3000<(((l.map List.length).sum:Nat):Int))):=by
   unfold pg OF
   congr 1<;>simp<;>omega
  rw [hg]
  generalize (l.map List.length).sum=n at *
  by_cases h40:(40:Int)<l.length
  ·simp [e0,e4,e3,an,h40]
  ·simp [e0,e4,e3,an,h40]
structure aW.Sz (c:aW):Prop where
 name:c.name.length≤2^20
 data:c.data.length≤2^20
 linesN:c.lines.length≤2^20
 lines:∀x∈c.lines,x.length≤2^20
 over:c.over.length≤2^20
structure aA.Sz (p:aA):Prop where
 author:p.author.length≤2^20
 message:p.message.length≤2^20
 deps:p.deps.length≤2^20
 changesN:p.changes.length≤2^20
 changes:∀c∈p.changes,c.Sz
def tc (c:aW):Bool:=pg c.lines||decide (40<c.over.length)
def HS (p:aA):Nat:=p.author.length+p.message.length+(p.changes.map fun c=>c.name.length+c.data.length).sum
def eB (p:aA):Bool:=p.changes.any tc||(decide (3000<HS p)||decide (20<p.deps.length)||decide (20<p.changes.length))
theorem yE {α:Type} {f:α→Bool} {l:List α} {i:Nat} (h:i<l.length):(l.drop i).any f=(f l[i]||(l.drop (i+1)).any f):=by
 rw [List.drop_eq_getElem_cons h];rfl
set_option maxHeartbeats 2000000 in
theorem Ae (S:aV C) (p:aA) (hp:p.Sz):b8 Tryz.prog C 70 [] [.agg p.cells] (.bool (eB p)):=by
 refine aw (S.pure8 _ (by decide)) fun H=>aj Tryz.func70 rfl (S.prim _ (by decide)) (by simp) (by kernel_rfl) ?_
 unfold Tryz.f70
 have ha:=hp.author
 have hm:=hp.message
 have hn:=hp.changesN
 have hsum:=pD (l:=p.changes) (f:=fun c=>c.name.length+c.data.length) (b:=2^21) fun c hc=>by have:=(hp.changes c hc).name;have:=(hp.changes c hc).data;omega
 have w0:IntKind.i64.wrap ((p.author.length:Int)+p.message.length)=((p.author.length+p.message.length:Nat):Int):=by rw [aO (by omega) (by omega)];omega
 simp [aE,w0]
 refine ay p.changes.length (fun i s H'=>∃J,H'=H++.rows 5 0 [p.cells]::J∧s 1=.ptr H.length 0 5 0 0∧s 4=.int .i64 i∧s 3=.int .i64 (p.author.length+p.message.length+((p.changes.take i).map fun c=>c.name.length+c.data.length).sum:Nat)∧p.changes.any tc=(p.changes.drop i).any tc) ?_ ?_
 ·exact ⟨[],rfl,rfl,rfl,by simp,rfl⟩
 rintro i s H' ⟨J,rfl,e1,e4,e3,hany⟩ hi
 by_cases h:i<p.changes.length
 ·have hst:=qF (f:=fun c:aW=>c.name.length+c.data.length) h
  have hs:=pD (l:=p.changes.take i) (f:=fun c=>c.name.length+c.data.length) (b:=2^21) fun c hc=>by have:=(hp.changes c (List.mem_of_mem_take hc)).name;have:=(hp.changes c (List.mem_of_mem_take hc)).data;omega
  have hsl:(p.changes.take i).length≤2^20:=by simp;omega
  have hc:=hp.changes _ (List.getElem_mem h)
  have hc1:=hc.name
  have hc2:=hc.data
  rw [yE h] at hany
  have g4:=(Cb S p.changes[i].lines p.changes[i].linesK hc.linesN hc.lines).eq
  have hmt:∀j,(p.changes.map fun c=>c.name.length+c.data.length).take j=(p.changes.take j).map fun c=>c.name.length+c.data.length:=fun j=>List.map_take.symm
  generalize hq:((p.changes.take i).map fun c=>c.name.length+c.data.length).sum=q at *
  generalize hq2:((p.changes.take (i+1)).map fun c=>c.name.length+c.data.length).sum=q2 at *
  have w1:IntKind.i64.wrap (((p.author.length+p.message.length+q:Nat):Int)+(p.changes[i].name.length:Int))=((p.author.length+p.message.length+q+p.changes[i].name.length:Nat):Int):=by rw [aO (by omega) (by omega)];omega
  have w2:IntKind.i64.wrap (((p.author.length+p.message.length+q+p.changes[i].name.length:Nat):Int)+(p.changes[i].data.length:Int))=((p.author.length+p.message.length+q2:Nat):Int):=by rw [aO (by omega) (by omega)];omega
  generalize hA:p.author.length+p.message.length+q=A at *
  generalize hB:A+p.changes[i].name.length=B at *
  generalize hCc:p.author.length+p.message.length+q2=Cc at *
  cases hbg:pg p.changes[i].lines with
  | true =>
   have hgr:eB p=true:=by unfold eB;rw [hany];simp [tc,hbg]
   simp [e1,e4,e3,h,an,ao,g4,hbg,hgr]
  | false =>
   by_cases hov:40<p.changes[i].over.length
   ·have hgr:eB p=true:=by unfold eB;rw [hany];simp [tc,hov]
    simp [e1,e4,e3,h,an,ao,g4,hbg,hgr,hov,show (40:Int)<p.changes[i].over.length by omega]
   ·have hbc:tc p.changes[i]=false:=by simp [tc,hbg];omega
    have hany':p.changes.any tc=(p.changes.drop (i+1)).any tc:=by rw [hany,hbc];rfl
    simp [e1,e4,e3,h,an,ao,g4,hbg,hov,show ¬(40:Int)<p.changes[i].over.length by omega,w1,w2,au h (by omega)]
    refine ⟨?_,hany'⟩
    rw [hmt,hq2];omega
 ·have h':i=p.changes.length:=by omega
  subst h'
  rw [List.take_length] at e3
  have hg:eB p=(decide (3000<((HS p:Nat):Int))||decide (20<(p.deps.length:Int))||decide (20<(p.changes.length:Int))):=by
   unfold eB
   rw [hany,List.drop_length]
   simp only [List.any_nil,Bool.false_or]
   congr 1
   ·congr 1<;>simp<;>omega
   ·simp;omega
  rw [hg]
  have e3:s 3=.int .i64 ((HS p:Nat):Int):=e3
  generalize HS p=n at *
  by_cases h3:(3000:Int)<n
  ·simp [e1,e4,e3,an,h3]
  ·by_cases h4:(20:Int)<p.deps.length
   ·simp [e1,e4,e3,an,h3,h4]
   ·simp [e1,e4,e3,an,h3,h4]
def sx (c:aW):Nat:=1+c.lines.length+c.over.length
def sy (p:aA):Nat:=(p.changes.map sx).sum
def kf (s:List ag):Bool:=(s.take 9).any (fun x=>eB x.patch)||(decide (8<s.length)||decide (300<((s.take 9).map fun x=>sy x.patch).sum))
structure oj (s:List ag):Prop where
 n:s.length≤2^20
 p:∀x∈s,x.patch.Sz
theorem CB {p:aA} (hp:p.Sz):sy p≤2^42:=by
 have h:=pD (l:=p.changes) (f:=sx) (b:=2^22) fun c hc=>by have:=(hp.changes c hc).linesN;have:=(hp.changes c hc).over;unfold sx;omega
 have:=hp.changesN
 unfold sy;omega
set_option maxRecDepth 100000 in
set_option maxHeartbeats 2000000 in
theorem ER (S:aV C) (l:List ag) (k:SK) (hl:oj l):b8 Tryz.prog C 34 [] [am k (l.map ag.cells),.int .i64 8] (.bool (kf l)):=by
 refine aw (S.pure8 _ (by decide)) fun H=>aj Tryz.func34 rfl (S.prim _ (by decide)) (by simp) (by kernel_rfl) ?_
 unfold Tryz.f34
 have hn:=hl.n
 have hlen9:(l.take 9).length=min 9 l.length:=by simp
 simp [aE]
 refine ay (l.take 9).length (fun i s H'=>H'=H∧s 0=am k (l.map ag.cells)∧s 1=.int .i64 8∧s 6=.int .i64 i∧s 5=.int .i64 ((((l.take 9).take i).map fun x=>sy x.patch).sum:Nat)∧(l.take 9).any (fun x=>eB x.patch)=((l.take 9).drop i).any (fun x=>eB x.patch)) ?_ ?_
 ·exact ⟨rfl,rfl,rfl,rfl,rfl,rfl⟩
 rintro i s H' ⟨rfl,e0,e1,e6,e5,hany⟩ hi
 by_cases h:i<(l.take 9).length
 ·have hil:i<l.length:=by omega
  have hi8:(i:Int)≤8:=by omega
  have hget:(l.take 9)[i]=l[i]:=List.getElem_take
  have hst:=qF (f:=fun x:ag=>sy x.patch) h
  have hs:=pD (l:=(l.take 9).take i) (f:=fun x:ag=>sy x.patch) (b:=2^42) fun x hx=>CB (hl.p x (List.mem_of_mem_take (List.mem_of_mem_take hx)))
  have hsl:((l.take 9).take i).length≤9:=by simp;omega
  rw [yE h] at hany
  rw [hget] at hany hst
  have hp:=hl.p _ (List.getElem_mem hil)
  have g:=(Ae S l[i].patch hp).eq
  have hcp:=CB hp
  cases hbg:eB l[i].patch with
  | true =>
   have hgr:kf l=true:=by unfold kf;rw [hany];simp [hbg]
   simp [e0,e1,e6,e5,hil,hi8,an,g,hbg,hgr]
  | false =>
   have hany':(l.take 9).any (fun x=>eB x.patch)=((l.take 9).drop (i+1)).any (fun x=>eB x.patch):=by rw [hany,hbg];rfl
   generalize hq:(((l.take 9).take i).map fun x=>sy x.patch).sum=q at *
   simp [e0,e1,e6,e5,hil,hi8,an,g,hbg]
   refine ay l[i].patch.changes.length (fun j s H''=>H''=H'∧s 0=am k (l.map ag.cells)∧s 1=.int .i64 8∧s 6=.int .i64 i∧s 7=.int .i64 j∧s 5=.int .i64 (q+((l[i].patch.changes.take j).map sx).sum:Nat)) ?_ ?_
   ·exact ⟨rfl,e0,e1,e6,rfl,e5⟩
   clear e0 e1 e6 e5
   rintro j s H'' ⟨rfl,e0,e1,e6,e7,e5⟩ hj
   by_cases hjl:j<l[i].patch.changes.length
   ·have hjt:=qF (f:=sx) hjl
    have hjs:=pD (l:=l[i].patch.changes.take j) (f:=sx) (b:=2^22) fun c hc=>by have:=(hp.changes c (List.mem_of_mem_take hc)).linesN;have:=(hp.changes c (List.mem_of_mem_take hc)).over;unfold sx;omega
    have hjl2:(l[i].patch.changes.take j).length≤2^20:=by have:=hp.changesN;simp;omega
    have hc:=hp.changes _ (List.getElem_mem hjl)
    have hc1:=hc.linesN
    have hc2:=hc.over
    have hcc:sx l[i].patch.changes[j]=1+l[i].patch.changes[j].lines.length+l[i].patch.changes[j].over.length:=rfl
    have hmt:∀j,(l[i].patch.changes.map sx).take j=(l[i].patch.changes.take j).map sx:=fun j=>List.map_take.symm
    generalize hr:((l[i].patch.changes.take j).map sx).sum=r at *
    generalize hr2:((l[i].patch.changes.take (j+1)).map sx).sum=r2 at *
    have w1:IntKind.i64.wrap (((q+r:Nat):Int)+1)=((q+r+1:Nat):Int):=by rw [aO (by omega) (by omega)];omega
    have w2:IntKind.i64.wrap (((q+r+1:Nat):Int)+(l[i].patch.changes[j].lines.length:Int))=((q+r+1+l[i].patch.changes[j].lines.length:Nat):Int):=by rw [aO (by omega) (by omega)];omega
    have w3:IntKind.i64.wrap (((q+r+1+l[i].patch.changes[j].lines.length:Nat):Int)+(l[i].patch.changes[j].over.length:Int))=((q+r2:Nat):Int):=by rw [aO (by omega) (by omega)];omega
    have hcn:=hp.changesN
    generalize hA:q+r=A at *
    generalize hB:A+1=B at *
    generalize hD:B+l[i].patch.changes[j].lines.length=D at *
    generalize hE:q+r2=E at *
    simp [e0,e1,e6,e7,e5,hil,hjl,w1,w2,w3,au hjl (by omega)]
    rw [hmt,hr2];omega
   ·have hj':j=l[i].patch.changes.length:=by omega
    subst hj'
    rw [List.take_length] at e5
    have e5:s 5=.int .i64 ((q+sy l[i].patch:Nat):Int):=e5
    simp [e0,e1,e6,e7,e5,hil,au (show i<10 by omega) (by decide)]
    have hmt:((l.map fun x=>sy x.patch).take 9).take (i+1)=((l.take 9).take (i+1)).map fun x=>sy x.patch:=by rw [List.map_take,List.map_take]
    refine ⟨by omega,?_,hany'⟩
    rw [hmt,hst];omega
 ·have h':i=(l.take 9).length:=by omega
  subst h'
  rw [List.take_length] at e5
  have hg:kf l=(decide (8<(l.length:Int))||decide (300<((((l.take 9).map fun x=>sy x.patch).sum:Nat):Int))):=by
   unfold kf
   rw [hany,List.drop_length]
   simp only [List.any_nil,Bool.false_or]
   congr 1<;>simp<;>omega
  rw [hg]
  rw [hlen9] at e6
  generalize ((l.take 9).map fun x=>sy x.patch).sum=n at *
  by_cases h8:(8:Int)<l.length
  ·have h9:min 9 l.length=9:=by omega
   rw [h9] at e6
   have h9l:9<l.length∨l.length=9:=by omega
   rcases h9l with h9l | h9l
   ·simp [e0,e1,e6,e5,an,h8,show (9:Int)<l.length by omega]
   ·simp [e0,e1,e6,e5,an,h8,h9l]
  ·have h9:min 9 l.length=l.length:=by omega
   rw [h9] at e6
   simp [e0,e1,e6,e5,an,h8]
theorem Af (S:aV C) (l:List ag) (k:SK) (hl:oj l):b8 Tryz.prog C 15 [] [am k (l.map ag.cells)] (.bool (kf l)):=by
 refine aw (S.pure8 _ (by decide)) fun H=>aj Tryz.func15 rfl (S.prim _ (by decide)) (by simp) (by kernel_rfl) ?_
 unfold Tryz.f15
 have e:=(ER S l k hl).eq
 simp [aE,e]
end Go.Proofs.Ev
