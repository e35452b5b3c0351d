/- Part 11 of the proof that quiltlaw38.BlameTouching returns true: no statement of its own. -/
import Derived.Test.YtbpaeodbnleoaaaGreatDoorT10
set_option linter.all false
namespace Go.Proofs.Ev
open Go.Proofs
variable {C:bG}
theorem pZ:∀(n:Nat) (m:List UInt8),kU m (n+1)=kU m n++[(m.drop (64*n)).take 64]
 | 0,m=>by simp [kU]
 | n+1,m=>by
  rw [kU,pZ n (m.drop 64),kU]
  simp [List.drop_drop,show 64+64*n=64*(n+1) by omega]
def mP (m:List UInt8) (k:Nat):vz:=(kU m k).foldl nM oz
theorem uS (m:List UInt8) (k:Nat):mP m (k+1)=nM (mP m k) ((m.drop (64*k)).take 64):=by
 rw [mP,pZ,List.foldl_append];rfl
theorem uA (x:List UInt8):∃q,(de x).length=64*q∧0<q∧64*q≤x.length+72+64:=by
 refine ⟨(de x).length / 64,?_,?_,?_⟩<;>simp [de,cx]<;>omega
theorem uT (v:vz):gY v=v.list.map bW:=rfl
def rd (D:List Nat) (i:Nat):List AV:=dig (D.take i)++List.replicate (32-i) (.int .u8 0)
theorem yU {D:List Nat} {i:Nat} (hD:D.length=32) (h:i≤32):(rd D i).length=32:=by simp [rd];omega
theorem yV {D:List Nat} {i n:Nat} (hD:D.length=32) (h:i<32) (hn:D[i]?=some n):(rd D i).take i++AV.int .u8 (n:Int)::(rd D i).drop (i+1)=rd D (i+1):=by
 have e:32-i=(32-(i+1))+1:=by omega
 have l1:(dig (D.take i)).length=i:=by simp;omega
 have et:D.take (i+1)=D.take i++[n]:=by rw [List.take_add_one,hn];rfl
 unfold rd
 rw [List.take_append_of_le_length (by omega),List.take_of_length_le (by omega),List.drop_append,List.drop_of_length_le (by omega),l1,e,List.replicate_succ,et]
 simp [dig,show i+1-i=1 by omega]
set_option maxRecDepth 100000 in
set_option maxHeartbeats 2000000 in
theorem Kz (S:d7 C) (x:List UInt8) (hx:x.length≤2^40):cE Tryz.prog C 73 [] [.str x] (.agg (dig (AQ x))):=by
 refine aB (S.pure6 _ (by decide)) fun H=>am Tryz.func73 rfl (S.prim _ (by decide)) (by simp) (by kernel_rfl) ?_
 unfold Tryz.f73
 have cp:=(CD S x hx).eq
 obtain ⟨q,hq,hq0,hq1⟩:=uA x
 have hsha:AQ x=sL (mP (de x) q).list:=by rw [AQ,qE,hq,show 64*q / 64=q by omega];rfl
 have h0:mP (de x) 0=oz:=rfl
 rw [hsha]
 generalize hm:de x=m at *
 simp [aG,ao,aE,cp]
 refine ⟨rfl,?_⟩
 refine az q (fun i s H'=>∃Z,Z.length=32∧s 2=.ptr H.length 0 32 0 0∧s 3=.ptr (H.length+1) 0 8 0 0∧s 4=.str m∧s 5=.int .i64 ((64*i:Nat):Int)∧H'=H++[.rows 32 0 [Z],.rows 8 0 [gY (mP m i)]]) ?_ ?_
 ·exact ⟨List.replicate 32 (.int .u8 0),rfl,rfl,rfl,rfl,rfl,by rw [h0];rfl⟩
 rintro i s H' ⟨Z,hZ,e2,e3,e4,e5,rfl⟩ hi
 obtain ⟨j,hj⟩:∃j,j=64*i:=⟨_,rfl⟩
 rw [←hj] at e5
 have w1:IntKind.i64.wrap ((j:Int)+64)=((j+64:Nat):Int):=by rw [aK (by omega) (by omega)];omega
 by_cases h:i<q
 ·have hb:((m.take (j+64)).drop j).length=64:=by simp;omega
  have hbl:(m.take (j+64)).drop j=(m.drop (64*i)).take 64:=by rw [List.drop_take,hj];congr 1;omega
  have cs:=(H5 S (mP m i) _ hb).eq
  have hnext:nM (mP m i) ((m.take (j+64)).drop j)=mP m (i+1):=by rw [uS,hbl]
  have l8:(gY (mP m i)).length=8:=rfl
  have l9:(gY (mP m (i+1))).length=8:=rfl
  have f8:∀v∈gY (mP m (i+1)),v.leaf=true:=by intro v hv;rw [uT] at hv;obtain ⟨y,_,rfl⟩:=List.mem_map.1 hv;rfl
  have hT:List.take 8 (gY (mP m i))=gY (mP m i):=rfl
  rw [hnext] at cs
  generalize hj2:j+64=j2 at w1 hb cs
  generalize hV:gY (mP m i)=V at *
  generalize hV':gY (mP m (i+1))=V' at *
  generalize hB:(m.take j2).drop j=B at *
  simp [e2,e3,e4,e5,w1,cX,bJ,show (j2:Int)≤m.length by omega,show (j2:Int)<(m.length:Int)+1 by omega,show (j:Int)<(j2:Int)+1 by omega,hB,l8,hT,cs,ao,l9,List.drop_of_length_le (Nat.le_of_eq l8)]
  rw [aN (h:=by kernel_rfl)]
  simp [e2,e3,e4,e5,w1,h]
  exact ⟨f8,Z,hZ,by omega,rfl,hV'.symm⟩
 have h:i=q:=by omega
 subst h
 obtain ⟨D,hDd⟩:∃D,D=sL (mP m i).list:=⟨_,rfl⟩
 have hD:D.length=32:=by rw [hDd];simp [sL]
 have hDat:∀k,k<32→D[k]?=some (((((mP m i).list.getD (k / 4) 0) >>> (24-8*(k % 4))).toNat) % 256):=by
  intro k hk
  rw [hDd,sL,List.getElem?_map,List.getElem?_range hk]
  simp [BitVec.toNat_ushiftRight,Nat.shiftRight_eq_div_pow]
 have hVat:∀k,k<32→(gY (mP m i))[k / 4]?=some (bW ((mP m i).list.getD (k / 4) 0)):=by
  intro k hk
  rw [uT,List.getElem?_map,List.getD_eq_getElem?_getD,List.getElem?_eq_getElem (show k / 4<(mP m i).list.length by simp [vz.list];omega)];rfl
 rw [←hDd]
 have l8:(gY (mP m i)).length=8:=rfl
 clear hDd
 generalize gY (mP m i)=V at *
 generalize (mP m i).list=L at *
 simp [e2,e3,e4,e5,w1,show ¬(j:Int)+64≤m.length by omega,aE,ao,show aP.length=32 from rfl]
 refine az 32 (fun i s H'=>s 2=.ptr H.length 0 32 0 0∧s 3=.ptr (H.length+1) 0 8 0 0∧s 6=.ptr (H.length+2) 0 32 0 0∧s 7=.int .i64 i∧H'=H++[.rows 32 0 [Z],.rows 8 0 [V],.rows 32 0 [rd D i]]) ?_ ?_
 ·exact ⟨e2,e3,rfl,rfl,rfl⟩
 clear e2 e3 e4 e5
 rintro k s H' ⟨e2,e3,e6,e7,rfl⟩ hi
 have hl:=yU (D:=D) (i:=k) hD (by omega)
 by_cases h:k<32
 ·obtain ⟨a,ha⟩:∃a,a=k / 4:=⟨_,rfl⟩
  obtain ⟨b,hb⟩:∃b,b=24-8*(k % 4):=⟨_,rfl⟩
  have d1:∀t,bU Tryz.prog C .quo t (.int .i64 (k:Int)) (.int .i64 4)=some (.int .i64 (a:Int)):=fun t=>by
   rw [wW (h:=by decide),Int.tdiv_eq_ediv_of_nonneg (by omega),aK (by omega) (by omega)];congr 2;omega
  have d2:∀t,bU Tryz.prog C .rem t (.int .i64 (k:Int)) (.int .i64 4)=some (.int .i64 ((k % 4:Nat):Int)):=fun t=>by
   rw [pX (h:=by decide),Int.tmod_eq_emod_of_nonneg (by omega)];congr 2
  obtain ⟨r,hr⟩:∃r,r=k % 4:=⟨_,rfl⟩
  rw [←hr] at d2 hb
  have w2:IntKind.i64.wrap (8*(r:Int))=((8*r:Nat):Int):=by rw [aK (by omega) (by omega)];omega
  have w3:IntKind.i64.wrap (24-((8*r:Nat):Int))=(b:Int):=by rw [aK (by omega) (by omega)];omega
  have w4:IntKind.u64.wrap (b:Int)=(b:Int):=IntWalk.u64_in _ (by omega)
  have hDk:=hDat k h
  have hVk:=hVat k h
  rw [←ha] at hDk hVk
  rw [←hr,←hb] at hDk
  have sh:=fun t=>sw (P:=Tryz.prog) (C:=C) t (L.getD a 0) .u64 b (by omega)
  generalize L.getD a 0=x at *
  have cv:∀H,bi Tryz.prog H 216 5 (bW (x >>> b))=some (.int .u8 (((x >>> b).toNat % 256:Nat):Int),H):=fun H=>by
   simp [bi,bW,IntKind.wrap_u8]
  have cvi:∀H n,bi Tryz.prog H 3 146 (.int .i64 n)=some (.int .u64 (IntKind.u64.wrap n),H):=fun H n=>by simp [bi]
  have hset:=yV hD h hDk
  generalize hn:(x >>> b).toNat % 256=n at *
  generalize h8r:8*r=r8 at *
  have k8:(a:Int)<8∧a<8:=by omega
  have G7:(k:Int)<32∧k<32∧k+1≤32:=by omega
  simp [-getElem?_pos,List.getElem?_cons_zero,e2,e3,e6,e7,d1,d2,w2,w3,w4,k8,G7,hVk,sh,cv,cvi,ao,hl,hset,ay G7.2.1 (by decide)]
 ·have h:k=32:=by omega
  subst h
  have e32:rd D 32=dig D:=by simp [rd,List.take_of_length_le,hD]
  rw [e32] at hl ⊢
  simp [e2,e3,e6,e7,ao,hZ,hD,List.take_of_length_le,List.drop_of_length_le (Nat.le_of_eq hZ)]
  exact aq (v:=.agg (dig D)) (gk D)
end Go.Proofs.Ev
namespace Go.Proofs.Ev
open Go.Proofs
variable {C:bG}
structure cY (C:bG):Prop extends d7 C where
 frz7:∀f,f∈[7,36]→C.pure f=false∧C.frz f=true
 pure7:∀f,f∈[35,206,38]→C.pure f=true
theorem yq {p:aC}:(gz p).length≤65536:=by
 unfold gz
 by_cases h:bz p=0
 ·rw [if_pos h]
  unfold bz at h
  by_cases hc:kf p=0
  ·rw [if_neg (by simpa using hc)] at h
   unfold gV at h
   split at h
   ·omega
   ·omega
  ·rw [if_pos hc] at h;omega
 ·rw [if_neg h];simp
def pM (p:aC):List Nat:=if bz p=0 then AQ (dK p).enc else aP
theorem lX (p:aC):(pM p).length=32:=by unfold pM;split<;>simp [aP]
theorem lW (p:aC):∀x∈pM p,x<256:=by
 unfold pM;split
 ·exact DE _
 ·decide
theorem Aj (S:d7 C) (p:aC) (hp:p.Ok) (hp2:p.Ok2):cE Tryz.prog C 33 [] [.agg p.cells] (.tup [.agg (dig (pM p)),.int .i64 (bz p)]):=by
 refine aB (S.pure6 _ (by decide)) fun H=>am Tryz.func33 rfl (S.prim _ (by decide)) (by simp) (by kernel_rfl) ?_
 unfold Tryz.f33
 have e1:=(qx S.todj p hp hp2).eq
 have e2:=(Kz S (gz p) (by have:=yq (p:=p);omega)).eq
 have l1:(AQ (gz p)).length=32:=KE _
 by_cases h:bz p=0
 ·have hE:gz p=(dK p).enc:=by unfold gz;rw [if_pos h]
  have hI:pM p=AQ (gz p):=by unfold pM;rw [if_pos h,hE]
  rw [hI]
  generalize AQ (gz p)=D at *
  simp [aG,e1,e2,h,ao,aE,l1,List.take_of_length_le,show aP.length=32 from rfl,List.drop_of_length_le]
  exact bN (aq (v:=.agg (dig D)) (gk D)) (by simp)
 ·have hI:pM p=aP:=by unfold pM;rw [if_neg h]
  have hb:(bz p != 0)=true:=by simpa using h
  rw [hI]
  simp [aG,e1,h,hb,ao,aE,show aP.length=32 from rfl,List.take_of_length_le,List.drop_of_length_le]
  exact bN (aq (v:=.agg (dig aP)) (gk aP)) (by simp)
def bV (l:List ar) (d:List Nat):Bool:=l.any fun x=>decide (x.d=d)
theorem vZ (x:ar) (l:List ar) (d:List Nat):bV (x::l) d=(decide (x.d=d)||bV l d):=rfl
theorem da {l:List ar} {d:List Nat}:bV l d=true↔∃x∈l,x.d=d:=by simp [bV]
theorem mj (S:aA C) (a b:ar):bU Tryz.prog C .eql 25 (.agg a.cells) (.agg b.cells)=some (.bool (decide (a.d=b.d))):=rg S a.d b.d a.h b.h
theorem xY (S:cY C) (l:List ar) (k:SK) (d:ar) (hl:l.length≤2^40):sD Tryz.prog C 7 [aw k (l.map ar.cells),.agg d.cells] (.bool (bV l d.d)):=by
 refine lN (S.frz7 _ (by decide)).1 (S.frz7 _ (by decide)).2 rfl fun H=>am Tryz.func7 rfl (S.prim _ (by decide)) (by simp) (by kernel_rfl) ?_
 unfold Tryz.f7
 have e:=mj S.toaA
 simp [aG]
 refine az l.length (fun i s H'=>H'=H++[.rows 32 0 [d.cells]]∧s 0=aw k (l.map ar.cells)∧s 3=.ptr H.length 0 32 0 0∧s 5=.int .i64 i∧bV l d.d=bV (l.drop i) d.d) ?_ ?_
 ·exact ⟨rfl,rfl,rfl,rfl,rfl⟩
 rintro i s H' ⟨rfl,e0,e3,e5,hc⟩ hi
 by_cases h:i<l.length
 ·rw [List.drop_eq_getElem_cons h,vZ] at hc
  by_cases hd:l[i].d=d.d
  ·have hc1:bV l d.d=true:=by rw [hc];simp [hd]
   simp [e0,e3,e5,h,e,hd,hc1]
  ·have hc1:bV l d.d=bV (l.drop (i+1)) d.d:=by rw [hc];simp [hd]
   simp [e0,e3,e5,h,e,hd,hc1,ay h (by omega)]
 ·have h':i=l.length:=by omega
  subst h'
  have hc1:bV l d.d=false:=by rw [hc];simp [bV]
  simp [e0,e3,e5,hc1]
def gD (l some:List ar):Bool:=some.all fun x=>bV l x.d
theorem DT (l:List ar) (x:ar) (m:List ar):gD l (x::m)=(bV l x.d&&gD l m):=rfl
theorem DB (S:cY C) (l m:List ar) (k k2:SK) (hl:l.length≤2^40) (hm:m.length≤2^40):sD Tryz.prog C 36 [aw k (l.map ar.cells),aw k2 (m.map ar.cells)] (.bool (gD l m)):=by
 refine lN (S.frz7 _ (by decide)).1 (S.frz7 _ (by decide)).2 rfl fun H=>am Tryz.func36 rfl (S.prim _ (by decide)) (by simp) (by kernel_rfl) ?_
 unfold Tryz.f36
 have e:=fun d=>((xY S l k d hl).ret (by simp [AV.closeds,AV.closed,cP (aM ar.closed _)])).eq
 simp [aG]
 refine az m.length (fun i s H'=>H'=H∧s 0=aw k (l.map ar.cells)∧s 1=aw k2 (m.map ar.cells)∧s 5=.int .i64 i∧gD l m=gD l (m.drop i)) ?_ ?_
 ·exact ⟨rfl,rfl,rfl,rfl,rfl⟩
 rintro i s H' ⟨rfl,e0,e1,e5,hc⟩ hi
 by_cases h:i<m.length
 ·rw [List.drop_eq_getElem_cons h,DT] at hc
  cases hh:bV l m[i].d with
  | false =>
   have hc1:gD l m=false:=by rw [hc,hh];rfl
   simp [e0,e1,e5,h,e,hh,hc1]
  | true =>
   have hc1:gD l m=gD l (m.drop (i+1)):=by rw [hc,hh];rfl
   simp [e0,e1,e5,h,e,hh,hc1,ay h (by omega)]
 ·have h':i=m.length:=by omega
  subst h'
  have hc1:gD l m=true:=by rw [hc];simp [gD]
  simp [e0,e1,e5,hc1]
end Go.Proofs.Ev
namespace Go.Proofs.Ev
open Go.Proofs
variable {C:bG}
theorem tf {Z J H0:ag} {n:Nat} (hn:n=Z.length) (hZ:H0.length≤Z.length) {v x:AV} {r ys:List ar} (hg:aT n 32 J v (r.map ar.cells)) (hx:cQ (Z++J) (.slice 25) x=some (ys.map ar.cells)) (hb:r.length+ys.length≤2^30) :
 ∃v' J',bA Tryz.prog H0.length (Z++J) #[30,30] v.denil x=some (v',Z++J')∧aT n 32 J' v' ((r++ys).map ar.cells)∧((ys≠[]∨∃b g l,v=.sl b g 32 0 l)→∃b g l,v'=.sl b g 32 0 l):=by
 obtain ⟨v',J',h1,h2,h3⟩:=aT.appendG (P:=Tryz.prog) (base:=H0.length) (Z:=Z) (J:=J) (e:=25) (e':=25) (ts:=#[30,30]) (ys:=ys.map ar.cells) (x:=x) (v:=v) (rows:=r.map ar.cells) (by simp) (by simp) nN A6 (by simp [aP]) (by decide) hn hZ hg (by simp) hx (by simp) (by simp;omega)
 exact ⟨v',J',h1,by simpa using h2,by simpa using h3⟩
theorem DH {P:Program} {t e:TypeId} {n:Nat} (h:P.underlying t=some (.slice e)) (hs:bF P e=some n) {k:SK} {rows:List (List AV)} (hw:∀r∈rows,r.length=n) {j:Nat} {K:IntKind} (hj:j≤rows.length) :
 ∃x,cX P t (aw k rows).denil none (some (.int K (j:Int))) none=some (.lst (rows.take j) x):=by
 obtain ⟨x,hx⟩:=mC k rows
 have hwd:wide (bF P e) rows=true:=by
  cases rows with
  | nil=>simp [wide,hs]
  | cons r l=>simp [wide,hs,hw r (by simp)]
 rw [hx]
 exact ⟨_,by simp only [cX,h,hwd,if_true,bJ,sU,show j<rows.length+1 by omega,Option.map_some,List.drop_zero];rfl⟩
theorem DF {P:Program} {t e:TypeId} {n:Nat} (h:P.underlying t=some (.slice e)) (hs:bF P e=some n) {k:SK} {rows:List (List AV)} (hw:∀r∈rows,r.length=n) {j:Nat} {K:IntKind} (hj:j≤rows.length) :
 ∃x,cX P t (aw k rows).denil (some (.int K (j:Int))) none none=some (.lst (rows.drop j) x):=by
 obtain ⟨x,hx⟩:=mC k rows
 have hwd:wide (bF P e) rows=true:=by
  cases rows with
  | nil=>simp [wide,hs]
  | cons r l=>simp [wide,hs,hw r (by simp)]
 rw [hx]
 exact ⟨_,by simp only [cX,h,hwd,if_true,bJ,sU,show j<rows.length+1 by omega,Option.map_some,List.take_length];rfl⟩
def ik (l:List ar) (d:ar):Nat:=(l.takeWhile fun x=>decide (bZ x.d d.d<0)).length
def fS (a:SK×List ar) (d:ar):SK×List ar:=if (a.2[ik a.2 d]?).map (·.d)=some d.d then a else (.loose,a.2.take (ik a.2 d)++d::a.2.drop (ik a.2 d))
theorem Du (l:List ar) (d:ar):ik l d≤l.length:=by
 unfold ik;exact (List.takeWhile_sublist _).length_le
theorem Kb {l:List ar} {d:ar}:∀{i:Nat} (_:i<ik l d) (hi:i<l.length),bZ l[i].d d.d<0:=by
 induction l with
 | nil=>intro i h hi;simp at hi
 | cons x l ih =>
  intro i h hi
  unfold ik at h
  rw [List.takeWhile_cons] at h
  split at h
  ·rename_i hx
   cases i with
   | zero=>simpa using hx
   | succ i=>exact ih (by unfold ik;simpa using h) (by simpa using hi)
  ·simp at h
theorem Dt {l:List ar} {d:ar}:∀(hi:ik l d<l.length),¬bZ l[ik l d].d d.d<0:=by
 induction l with
 | nil=>intro hi;simp at hi
 | cons x l ih =>
  intro hi
  by_cases hx:bZ x.d d.d<0
  ·have e:ik (x::l) d=ik l d+1:=by unfold ik;rw [List.takeWhile_cons,if_pos (by simpa using hx)];rfl
   have hi':ik l d<l.length:=by rw [e] at hi;simpa using hi
   have:=ih hi'
   simp only [e,List.getElem_cons_succ];exact this
  ·have e:ik (x::l) d=0:=by unfold ik;rw [List.takeWhile_cons,if_neg (by simpa using hx)];rfl
   simp only [e,List.getElem_cons_zero];exact hx
theorem oh {a:SK×List ar} {d:ar} {e:List Nat}:(∃x∈(fS a d).2,x.d=e)↔(∃x∈a.2,x.d=e)∨d.d=e:=by
 unfold fS
 by_cases h:(a.2[ik a.2 d]?).map (·.d)=some d.d
 ·rw [if_pos h]
  obtain ⟨y,hy,hyd⟩:=Option.map_eq_some_iff.1 h
  refine ⟨.inl,fun h=>h.elim id fun h=>⟨y,List.mem_of_getElem? hy,by rw [hyd,h]⟩⟩
 ·rw [if_neg h]
  have:∀x,x∈a.2.take (ik a.2 d)++d::a.2.drop (ik a.2 d)↔x∈a.2∨x=d:=by
   intro x
   conv=>rhs;rw [←List.take_append_drop (ik a.2 d) a.2]
   simp only [List.mem_append,List.mem_cons];grind
  simp only [this]
  refine ⟨?_,?_⟩
  ·rintro ⟨x,hx | rfl,rfl⟩
   ·exact .inl ⟨x,hx,rfl⟩
   ·exact .inr rfl
  ·rintro (⟨x,hx,rfl⟩ | rfl)
   ·exact ⟨x,.inl hx,rfl⟩
   ·exact ⟨d,.inr rfl,rfl⟩
theorem og (a:SK×List ar) (d:ar):(fS a d).2.length≤a.2.length+1:=by
 unfold fS;split
 ·omega
 ·have:=Du a.2 d;simp;omega
set_option maxHeartbeats 2000000 in
theorem Av (S:cY C) (a:SK×List ar) (d:ar) (hl:a.2.length≤2^20):cE Tryz.prog C 75 [] [aw a.1 (a.2.map ar.cells),.agg d.cells] (aw (fS a d).1 ((fS a d).2.map ar.cells)):=by
 obtain ⟨k,l⟩:=a
 simp only at hl ⊢
 refine aB (S.pure6 _ (by decide)) fun H=>am Tryz.func75 rfl (S.prim _ (by decide)) (by simp) (by kernel_rfl) ?_
 unfold Tryz.f75
 have e:=mj S.toaA
 have c:∀a b:ar,∀base H K,aD Tryz.prog C base (.fn 34 []) [.agg a.cells,.agg b.cells] H K=K (.int .i64 (bZ a.d b.d)) H:=fun a b=>(nG (S.prim _ (by decide)) (S.pure _ (by decide)) a.d b.d a.h b.h).eq
 have hp:=Du l d
 simp [aG]
 refine az (ik l d) (fun i s H'=>H'=H++[.rows 32 0 [d.cells]]∧s 0=aw k (l.map ar.cells)∧s 3=.ptr H.length 0 32 0 0∧s 5=.int .i64 i) ?_ ?_
 ·exact ⟨rfl,rfl,rfl,rfl⟩
 rintro i s H' ⟨rfl,e0,e3,e5⟩ hi
 by_cases h:i<ik l d
 ·have hil:i<l.length:=by omega
  have hc:=Kb h hil
  simp [e0,e3,e5,an,hil,c,hc,ay h (by omega),h]
 have h':i=ik l d:=by omega
 subst h'
 by_cases heq:(l[ik l d]?).map (·.d)=some d.d
 ·have hw:fS (k,l) d=(k,l):=by unfold fS;rw [if_pos heq]
  rw [hw]
  obtain ⟨y,hy,hyd⟩:=Option.map_eq_some_iff.1 heq
  obtain ⟨hlt,hy⟩:=List.getElem?_eq_some_iff.1 hy
  have hc:=Dt hlt
  have heq:l[ik l d].d=d.d:=by rw [hy];exact hyd
  generalize ik l d=j at *
  simp [e0,e3,e5,an,hlt,c,hc,e,heq]
  rw [heq] at hc
  exact ⟨by omega,fun _=>aq (cP (aM ar.closed _))⟩
 ·have hw:fS (k,l) d=(.loose,l.take (ik l d)++d::l.drop (ik l d)):=by unfold fS;rw [if_neg heq]
  rw [hw]
  have hne:∀h:ik l d<l.length,¬l[ik l d].d=d.d:=by
   intro h hh
   exact heq (by rw [List.getElem?_eq_getElem h];simp [hh])
  have hca:=@Dt l d
  clear hw heq
  generalize ik l d=j at *
  obtain ⟨x1,hx1⟩:=DH (P:=Tryz.prog) (t:=30) (e:=25) (k:=k) (rows:=l.map ar.cells) (j:=j) (K:=.i64) (by simp) nN (by simp) (by simpa using hp)
  obtain ⟨x2,hx2⟩:=DF (P:=Tryz.prog) (t:=30) (e:=25) (k:=k) (rows:=l.map ar.cells) (j:=j) (K:=.i64) (by simp) nN (by simp) (by simpa using hp)
  have e1:(n:Nat)→n=(H++[bQ.rows 32 0 [d.cells]]).length→aT n 32 [] (.lst [] true) (([]:List ar).map ar.cells):=fun _ _=>.lst []
  obtain ⟨v1,J1,ha1,hg1,_⟩:=tf (H0:=H) (Z:=H++[.rows 32 0 [d.cells]]) (J:=[]) (x:=.lst ((l.take j).map ar.cells) x1) (ys:=l.take j) rfl (by simp) (e1 _ rfl) rfl (by simp;omega)
  obtain ⟨v2,J2,ha2,hg2,hs2⟩:=tf (H0:=H) (Z:=H++[.rows 32 0 [d.cells]]) (x:=.lst [d.cells] true) (ys:=[d]) rfl (by simp) hg1 rfl (by simp;omega)
  obtain ⟨v3,J3,ha3,hg3,hs3⟩:=tf (H0:=H) (Z:=H++[.rows 32 0 [d.cells]]) (x:=.lst ((l.drop j).map ar.cells) x2) (ys:=l.drop j) rfl (by simp) hg2 rfl (by simp;omega)
  have hs3:=hs3 (.inr (hs2 (.inl (by simp))))
  have hf:=hg3.freezeS (Z:=H++[.rows 32 0 [d.cells]]) (L:=[]) (k:=H.length) (d:=2) rfl (by simp) (aM ar.closed _) hs3
  simp only [List.append_assoc,List.cons_append,List.nil_append,List.append_nil,List.map_take,List.map_drop] at ha1 ha2 ha3 hf
  rw [rc] at ha1
  by_cases hlt:j<l.length
  ·have hc:=hca hlt
   have hn:=hne hlt
   simp [e0,e3,e5,an,hlt,c,hc,e,hn,aj,au]
   rw [hx1]
   simp [ha1,ha2,ha3,hx2,e0,e3,e5,aj,au,show aP.length=32 from rfl]
   simpa using hf
  ·simp [e0,e3,e5,an,hlt,aj,au]
   rw [hx1]
   simp [ha1,ha2,ha3,hx2,e0,e3,e5,aj,au,show aP.length=32 from rfl]
   simpa using hf
end Go.Proofs.Ev
namespace Go.Proofs.Ev
open Go.Proofs
variable {C:bG}
def aI.dv (x:aI):ar:=⟨x.d,x.h,x.b⟩
def rM:aW:=⟨0,aO,0,aO,[],0,[],aO,aO,[],.nil,[],.nil⟩
@[simp] theorem KV:AV.int .i64 0::(aO.cells++AV.int .i64 0::(aO.cells++AV.str []::AV.int .i64 0::AV.str []::(aO.cells++(aO.cells++[AV.nils,AV.nils]))))=rM.cells:=by simp [aW.cells,rM,aw]
def mW (a:SK×List ar) (x:aI):SK×List ar:=if bC x.d then a else fS a x.dv
def fM (c:aW):List aI:=[c.file,c.parent,c.after,c.before]++c.over
def qV (a:SK×List ar) (c:aW):SK×List ar:=(fM c).foldl mW a
def dw (p:aC):SK×List ar:=if bz p≠0 then (.exact,[]) else p.changes.foldl qV (p.deps.foldl fS (.exact,[]))
theorem yu (a:SK×List ar) (x:aI):(mW a x).2.length≤a.2.length+1:=by
 unfold mW;split
 ·omega
 ·exact og a _
theorem lC {α:Type} {f:SK×List ar→α→SK×List ar} (hf:∀a x,(f a x).2.length≤a.2.length+1):∀(l:List α) (a:SK×List ar),(l.foldl f a).2.length≤a.2.length+l.length
 | [],a=>by simp
 | x::l,a=>by have:=lC hf l (f a x);have:=hf a x;simp only [List.foldl_cons,List.length_cons];omega
theorem mo {α β:Type} {f:β→α→β} {a:β} {l:List α} {i:Nat} (h:i<l.length):(l.take (i+1)).foldl f a=f ((l.take i).foldl f a) l[i]:=by
 rw [List.take_add_one,List.getElem?_eq_getElem h,List.foldl_append];rfl
theorem Gv (c:aW) (hc:c.over.length≤400) (a:SK×List ar):(qV a c).2.length≤a.2.length+404:=by
 have:=lC yu (fM c) a
 unfold qV
 have h2:(fM c).length≤404:=by simp [fM];omega
 omega
theorem tG:∀(l:List aW) (_:∀c∈l,c.over.length≤400) (a:SK×List ar),(l.foldl qV a).2.length≤a.2.length+404*l.length
 | [],_,a=>by simp
 | c::l,h,a=>by
  have:=tG l (fun c hc=>h c (by simp [hc])) (qV a c)
  have:=Gv c (h c (by simp)) a
  simp only [List.foldl_cons,List.length_cons];omega
set_option maxRecDepth 100000 in
set_option maxHeartbeats 2000000 in
theorem wB (S:cY C) (p:aC) (hp:p.Ok) (hp2:p.Ok2) (hd:p.deps.length≤1000) (hcn:p.changes.length≤1000) (ho:∀c∈p.changes,c.over.length≤400) :
 cE Tryz.prog C 37 [] [.agg p.cells] (aw (dw p).1 ((dw p).2.map ar.cells)):=by
 refine aB (S.pure6 _ (by decide)) fun H=>am Tryz.func37 rfl (S.prim _ (by decide)) (by simp) (by kernel_rfl) ?_
 unfold Tryz.f37
 have ck:=(Ae S.todj p hp hp2).eq
 by_cases hE:bz p=0
 ·have hR:dw p=p.changes.foldl qV (p.deps.foldl fS (.exact,[])):=by unfold dw;rw [if_neg (by simpa using hE)]
  rw [hR]
  simp [aG,ck,hE,aj,au]
  refine az p.deps.length (fun i s H'=>H'=H++[.rows 5 0 [p.cells]]∧s 1=.ptr H.length 0 5 0 0∧s 4=.int .i64 i∧s 3=aw ((p.deps.take i).foldl fS (.exact,[])).1 (((p.deps.take i).foldl fS (.exact,[])).2.map ar.cells)) ?_ ?_
  ·exact ⟨rfl,rfl,rfl,rfl⟩
  rintro i s H' ⟨rfl,e1,e4,e3⟩ hi
  by_cases h:i<p.deps.length
  ·have hl:=lC og (p.deps.take i) (.exact,[])
   have c1:=(Av S ((p.deps.take i).foldl fS (.exact,[])) p.deps[i] (by simp at hl;omega)).eq
   rw [←mo (f:=fS) h] at c1
   simp [e1,e4,e3,h,c1,ay h (by omega)]
  ·have h':i=p.deps.length:=by omega
   subst h'
   rw [List.take_length] at e3
   have hl:=lC og p.deps (.exact,[])
   simp at hl
   generalize p.deps.foldl fS (.exact,[])=A at *
   simp [e1,e4,e3]
   refine az p.changes.length (fun i s H'=>∃J,H'=H++.rows 5 0 [p.cells]::J∧s 1=.ptr H.length 0 5 0 0∧s 5=.int .i64 i∧s 3=aw ((p.changes.take i).foldl qV A).1 (((p.changes.take i).foldl qV A).2.map ar.cells)) ?_ ?_
   ·exact ⟨[],rfl,e1,rfl,e3⟩
   clear e1 e3 e4
   rintro i s H' ⟨J,rfl,e1,e5,e3⟩ hi
   by_cases h:i<p.changes.length
   ·have hlc:=tG (p.changes.take i) (fun c hc=>ho c (List.mem_of_mem_take hc)) A
    have hlt:(p.changes.take i).length≤1000:=by simp;omega
    have hoc:=ho p.changes[i] (List.getElem_mem h)
    have hnext:(p.changes.take (i+1)).foldl qV A=(fM p.changes[i]).foldl mW ((p.changes.take i).foldl qV A):=by rw [mo h];rfl
    generalize (p.changes.take i).foldl qV A=B at *
    obtain ⟨v7,J7,ha,hg7,_⟩:=aT.appendG (P:=Tryz.prog) (base:=H.length) (n:=(H++bQ.rows 5 0 [p.cells]::(J++[bQ.rows 139 0 [p.changes[i].cells]])).length) (Z:=H++.rows 5 0 [p.cells]::(J++[.rows 139 0 [p.changes[i].cells]])) (J:=[]) (e:=27) (e':=27) (ts:=#[57,57]) (v:=.lst [p.changes[i].file.cells,p.changes[i].parent.cells,p.changes[i].after.cells,p.changes[i].before.cells] true) (rows:=[p.changes[i].file.cells,p.changes[i].parent.cells,p.changes[i].after.cells,p.changes[i].before.cells]) (ys:=p.changes[i].over.map aI.cells) (x:=(aw p.changes[i].overK (p.changes[i].over.map aI.cells)).denil) (by simp) (by simp) jS A7 (by simp) (by decide) rfl (by simp) (.lst _) (by simp) (oc _ _) (by simp) (by simp;omega)
    simp only [List.append_assoc,List.cons_append,List.append_nil,rc,List.nil_append] at ha
    have hrow:[p.changes[i].file.cells,p.changes[i].parent.cells,p.changes[i].after.cells,p.changes[i].before.cells]++p.changes[i].over.map aI.cells=(fM p.changes[i]).map aI.cells:=by simp [fM]
    rw [hrow] at hg7
    simp [e1,e5,e3,h,ao,aj,au,ha]
    refine az (fM p.changes[i]).length (fun j s H'=>H'=H++.rows 5 0 [p.cells]::(J++.rows 139 0 [p.changes[i].cells]::J7)∧s 1=.ptr H.length 0 5 0 0∧s 5=.int .i64 i∧s 7=v7∧s 8=.int .i64 j∧s 3=aw (((fM p.changes[i]).take j).foldl mW B).1 ((((fM p.changes[i]).take j).foldl mW B).2.map ar.cells)) ?_ ?_
    ·exact ⟨rfl,e1,e5,rfl,rfl,e3⟩
    clear e1 e3 e5
    rintro j s H' ⟨rfl,e1,e5,e7,e8,e3⟩ hj
    have hlen7:=fun HH=>hg7.len (P:=Tryz.prog) (t:=57) (e:=27) (H:=HH) (by simp)
    rw [List.length_map] at hlen7
    by_cases hjl:j<(fM p.changes[i]).length
    ·have hz:=(kD S.toaA (fM p.changes[i])[j].d (fM p.changes[i])[j].h).eq
     have hfl:=lC yu ((fM p.changes[i]).take j) B
     have hidl:(fM p.changes[i]).length≤404:=by simp [fM];omega
     have c1:=(Av S (((fM p.changes[i]).take j).foldl mW B) (fM p.changes[i])[j].dv (by simp at hfl hl hlc;omega)).eq
     have hn2:=mo (f:=mW) (a:=B) hjl
     have hjw:=ay hjl (by omega)
     generalize hB:((fM p.changes[i]).take j).foldl mW B=B2 at *
     generalize hB3:((fM p.changes[i]).take (j+1)).foldl mW B=B3 at *
     have c2:∀base H K,aD Tryz.prog C base (.fn 75 []) [aw B2.1 (B2.2.map ar.cells),.agg (Ev.dig (fM p.changes[i])[j].d)] H K=K (aw (fS B2 (fM p.changes[i])[j].dv).1 ((fS B2 (fM p.changes[i])[j].dv).2.map ar.cells)) H:=c1
     have hx:∃q,aY Tryz.prog 57 v7 (.int .i64 (j:Int))=some q∧bp q 0=some q∧jH Tryz.prog (H++.rows 5 0 [p.cells]::(J++.rows 139 0 [p.changes[i].cells]::J7)) 25 q=some (.agg (Ev.dig (fM p.changes[i])[j].d)):=by
      rcases hg7 with ⟨h7,_⟩ | h7 | ⟨b7,g7,h7,hb7⟩
      ·simp [fM] at h7
      ·rw [h7]
       exact ⟨.eptr (fM p.changes[i])[j].cells,by simp [hjl],by simp,by simp⟩
      ·have hget:(H++.rows 5 0 [p.cells]::(J++.rows 139 0 [p.changes[i].cells]::J7))[(H++bQ.rows 5 0 [p.cells]::(J++[bQ.rows 139 0 [p.changes[i].cells]])).length+b7]?=some (.rows 33 g7 ((fM p.changes[i]).map aI.cells)):=by
        rw [show H++bQ.rows 5 0 [p.cells]::(J++.rows 139 0 [p.changes[i].cells]::J7)=(H++bQ.rows 5 0 [p.cells]::(J++[bQ.rows 139 0 [p.changes[i].cells]]))++J7 by simp,bt]
        exact hb7
       rw [h7]
       refine ⟨.ptr ((H++bQ.rows 5 0 [p.cells]::(J++[bQ.rows 139 0 [p.changes[i].cells]])).length+b7) g7 33 (0+j) 0,by rw [uh (by simp) jS];simp [hjl],by simp,?_⟩
       rw [ul,eL hget]
       simp [hjl]
     obtain ⟨q,q1,q2,q3⟩:=hx
     cases hzz:bC (fM p.changes[i])[j].d with
     | true =>
      have hB4:B3=B2:=by rw [hn2,mW,if_pos hzz]
      simp [e1,e5,e7,e8,e3,hlen7,hjl,q1,q2,q3,hz,hzz,hjw]
      rw [hB3,hB4]
     | false =>
      have hB4:B3=fS B2 (fM p.changes[i])[j].dv:=by rw [hn2,mW,if_neg (by simp [hzz])]
      simp [e1,e5,e7,e8,e3,hlen7,hjl,q1,q2,q3,hz,hzz,hjw,c2]
      rw [hB3,hB4]
    ·have hj':j=(fM p.changes[i]).length:=by omega
     subst hj'
     rw [List.take_length] at e3
     rw [←hnext] at e3
     simp [e1,e5,e7,e8,hlen7,e3,h,ay h (by omega)]
   ·have h':i=p.changes.length:=by omega
    subst h'
    rw [List.take_length] at e3
    simp [e1,e5,e3]
    exact aq (cP (aM ar.closed _))
 ·have hR:dw p=(.exact,[]):=by unfold dw;rw [if_pos hE]
  have hb:(bz p != 0)=true:=by simpa using hE
  rw [hR]
  simp [aG,ck,hE,hb,aj,au]
  rfl
end Go.Proofs.Ev
namespace Go.Proofs.Ev
open Go.Proofs
variable {C:bG}
structure cm (C:bG):Prop extends cY C where
 pure8:∀f,f∈[269,268,207,133,138,132,135,136,77,39,13,12,32,4,71,127]→C.pure f=true
theorem aT.freezeE {Z J L:ag} {n k d sz:Nat} {v:AV} {rows:List (List AV)} (hg:aT n sz J v rows) (hn:n=Z.length) (hk:k≤Z.length) (hc:AV.closedss rows=true) (hz:rows=[]→v=.lst [] true) (hz2:v=.lst [] true∨∃b g l,v=.sl b g sz 0 l) :
 aJ (Z++(J++L)) k (d+1) v=some (aw (nX rows) rows):=by
 rcases hz2 with h | h
 ·have h0:rows=[]:=by
   rcases hg with ⟨h0,_⟩ | h4 | ⟨b,g,h4,_⟩
   ·exact h0
   ·rw [h] at h4;simpa using h4.symm
   ·rw [h] at h4;cases h4
  subst h0;rw [h];rfl
 ·have hne:rows≠[]:=by
   intro h0
   obtain ⟨b,g,l,h⟩:=h
   have:=hz h0
   rw [h] at this;cases this
  rw [hg.freezeS hn hk hc h]
  cases rows with
  | nil=>exact absurd rfl hne
  | cons a l=>rfl
theorem LM {Z J H0:ag} {n:Nat} (hn:n=Z.length) (hZ:H0.length≤Z.length) {v x:AV} {r ys:List aH} (hg:aT n 172 J v (r.map aH.cells)) (hx:cQ (Z++J) (.slice 83) x=some (ys.map aH.cells)) (hb:r.length+ys.length≤2^30) :
 ∃v' J',bA Tryz.prog H0.length (Z++J) #[87,87] v.denil x=some (v',Z++J')∧aT n 172 J' v' ((r++ys).map aH.cells)∧((ys≠[]∨∃b g l,v=.sl b g 172 0 l)→∃b g l,v'=.sl b g 172 0 l):=by
 obtain ⟨v',J',h1,h2,h3⟩:=aT.appendG (P:=Tryz.prog) (base:=H0.length) (Z:=Z) (J:=J) (e:=83) (e':=83) (ts:=#[87,87]) (ys:=ys.map aH.cells) (x:=x) (v:=v) (rows:=r.map aH.cells) (by simp) (by simp) nO p5 (by simp) (by decide) hn hZ hg (by simp) hx (by simp) (by simp;omega)
 exact ⟨v',J',h1,by simpa using h2,by simpa using h3⟩
theorem A0 {Z J H0:ag} {n:Nat} (hn:n=Z.length) (hZ:H0.length≤Z.length) {v x:AV} {r ys:List aI} (hg:aT n 33 J v (r.map aI.cells)) (hx:cQ (Z++J) (.slice 27) x=some (ys.map aI.cells)) (hb:r.length+ys.length≤2^30) :
 ∃v' J',bA Tryz.prog H0.length (Z++J) #[57,57] v.denil x=some (v',Z++J')∧aT n 33 J' v' ((r++ys).map aI.cells)∧((ys≠[]∨∃b g l,v=.sl b g 33 0 l)→∃b g l,v'=.sl b g 33 0 l):=by
 obtain ⟨v',J',h1,h2,h3⟩:=aT.appendG (P:=Tryz.prog) (base:=H0.length) (Z:=Z) (J:=J) (e:=27) (e':=27) (ts:=#[57,57]) (ys:=ys.map aI.cells) (x:=x) (v:=v) (rows:=r.map aI.cells) (by simp) (by simp) jS A7 (by simp) (by decide) hn hZ hg (by simp) hx (by simp) (by simp;omega)
 exact ⟨v',J',h1,by simpa using h2,by simpa using h3⟩
def iX (l:List aI) (d:aI):Nat:=(l.takeWhile fun x=>decide (dA x d<0)).length
def pm (a:SK×List aI) (d:aI):SK×List aI:=if (a.2[iX a.2 d]?).map (aF · d)=some true then a else (.loose,a.2.take (iX a.2 d)++d::a.2.drop (iX a.2 d))
theorem Dw (l:List aI) (d:aI):iX l d≤l.length:=by
 unfold iX;exact (List.takeWhile_sublist _).length_le
theorem Kd {l:List aI} {d:aI}:∀{i:Nat} (_:i<iX l d) (hi:i<l.length),dA l[i] d<0:=by
 induction l with
 | nil=>intro i h hi;simp at hi
 | cons x l ih =>
  intro i h hi
  unfold iX at h
  rw [List.takeWhile_cons] at h
  split at h
  ·rename_i hx
   cases i with
   | zero=>simpa using hx
   | succ i=>exact ih (by unfold iX;simpa using h) (by simpa using hi)
  ·simp at h
theorem Dv {l:List aI} {d:aI}:∀(hi:iX l d<l.length),¬dA l[iX l d] d<0:=by
 induction l with
 | nil=>intro hi;simp at hi
 | cons x l ih =>
  intro hi
  by_cases hx:dA x d<0
  ·have e:iX (x::l) d=iX l d+1:=by unfold iX;rw [List.takeWhile_cons,if_pos (by simpa using hx)];rfl
   have hi':iX l d<l.length:=by rw [e] at hi;simpa using hi
   have:=ih hi'
   simp only [e,List.getElem_cons_succ];exact this
  ·have e:iX (x::l) d=0:=by unfold iX;rw [List.takeWhile_cons,if_neg (by simpa using hx)];rfl
   simp only [e,List.getElem_cons_zero];exact hx
theorem G5 (a:SK×List aI) (d:aI):(pm a d).2.length≤a.2.length+1:=by
 unfold pm;split
 ·omega
 ·have:=Dw a.2 d;simp;omega
theorem jk (S:aA C) (a b:aI):bU Tryz.prog C .eql 27 (.agg a.cells) (.agg b.cells)=some (.bool (aF a b)):=zj S a b
set_option maxHeartbeats 2000000 in
theorem CC (S:cm C) (a:SK×List aI) (d:aI) (hl:a.2.length≤2^20):cE Tryz.prog C 269 [] [aw a.1 (a.2.map aI.cells),.agg d.cells] (aw (pm a d).1 ((pm a d).2.map aI.cells)):=by
 obtain ⟨k,l⟩:=a
 simp only at hl ⊢
 refine aB (S.pure8 _ (by decide)) fun H=>am Tryz.func269 rfl (S.prim _ (by decide)) (by simp) (by kernel_rfl) ?_
 unfold Tryz.f269
 have e:=jk S.toaA
 have c:=fun a b=>(Am S.toaA a b).eq
 have hp:=Dw l d
 simp [aG]
 refine az (iX l d) (fun i s H'=>H'=H++[.rows 33 0 [d.cells]]∧s 0=aw k (l.map aI.cells)∧s 3=.ptr H.length 0 33 0 0∧s 5=.int .i64 i) ?_ ?_
 ·exact ⟨rfl,rfl,rfl,rfl⟩
 rintro i s H' ⟨rfl,e0,e3,e5⟩ hi
 by_cases h:i<iX l d
 ·have hil:i<l.length:=by omega
  have hc:=Kd h hil
  simp [e0,e3,e5,an,hil,c,hc,ay h (by omega),h]
 have h':i=iX l d:=by omega
 subst h'
 by_cases heq:(l[iX l d]?).map (aF · d)=some true
 ·have hw:pm (k,l) d=(k,l):=by unfold pm;rw [if_pos heq]
  rw [hw]
  obtain ⟨y,hy,hyd⟩:=Option.map_eq_some_iff.1 heq
  obtain ⟨hlt,hy⟩:=List.getElem?_eq_some_iff.1 hy
  have hc:=Dv hlt
  have heq:aF l[iX l d] d=true:=by rw [hy];exact hyd
  generalize iX l d=j at *
  simp [e0,e3,e5,an,hlt,c,hc,e,heq]
  exact aq (cP (aM aI.closed _))
 ·have hw:pm (k,l) d=(.loose,l.take (iX l d)++d::l.drop (iX l d)):=by unfold pm;rw [if_neg heq]
  rw [hw]
  have hne:∀h:iX l d<l.length,aF l[iX l d] d=false:=by
   intro h
   cases hh:aF l[iX l d] d with
   | false=>rfl
   | true=>exact absurd (by rw [List.getElem?_eq_getElem h];simp [hh]) heq
  have hca:=@Dv l d
  clear hw heq
  generalize iX l d=j at *
  obtain ⟨x1,hx1⟩:=DH (P:=Tryz.prog) (t:=57) (e:=27) (k:=k) (rows:=l.map aI.cells) (j:=j) (K:=.i64) (by simp) jS (by simp) (by simpa using hp)
  obtain ⟨x2,hx2⟩:=DF (P:=Tryz.prog) (t:=57) (e:=27) (k:=k) (rows:=l.map aI.cells) (j:=j) (K:=.i64) (by simp) jS (by simp) (by simpa using hp)
  have e1:(n:Nat)→n=(H++[bQ.rows 33 0 [d.cells]]).length→aT n 33 [] (.lst [] true) (([]:List aI).map aI.cells):=fun _ _=>.lst []
  obtain ⟨v1,J1,ha1,hg1,_⟩:=A0 (H0:=H) (Z:=H++[.rows 33 0 [d.cells]]) (J:=[]) (x:=.lst ((l.take j).map aI.cells) x1) (ys:=l.take j) rfl (by simp) (e1 _ rfl) rfl (by simp;omega)
  obtain ⟨v2,J2,ha2,hg2,hs2⟩:=A0 (H0:=H) (Z:=H++[.rows 33 0 [d.cells]]) (x:=.lst [d.cells] true) (ys:=[d]) rfl (by simp) hg1 rfl (by simp;omega)
  obtain ⟨v3,J3,ha3,hg3,hs3⟩:=A0 (H0:=H) (Z:=H++[.rows 33 0 [d.cells]]) (x:=.lst ((l.drop j).map aI.cells) x2) (ys:=l.drop j) rfl (by simp) hg2 rfl (by simp;omega)
  have hs3:=hs3 (.inr (hs2 (.inl (by simp))))
  have hf:=hg3.freezeS (Z:=H++[.rows 33 0 [d.cells]]) (L:=[]) (k:=H.length) (d:=2) rfl (by simp) (aM aI.closed _) hs3
  simp only [List.append_assoc,List.cons_append,List.nil_append,List.append_nil,List.map_take,List.map_drop] at ha1 ha2 ha3 hf
  rw [rc] at ha1
  by_cases hlt:j<l.length
  ·have hc:=hca hlt
   have hn:=hne hlt
   simp [e0,e3,e5,an,hlt,c,hc,e,hn,aj,au]
   rw [hx1]
   simp [ha1,ha2,ha3,hx2,e0,e3,e5,aj,au]
   simpa using hf
  ·simp [e0,e3,e5,an,hlt,aj,au]
   rw [hx1]
   simp [ha1,ha2,ha3,hx2,e0,e3,e5,aj,au]
   simpa using hf
def ba (x:aI) (d:ar):aI:=if bC x.d&&decide (0≤x.n) then ⟨d.d,x.n,d.h,d.b⟩ else x
theorem Fy (S:cm C) (x:aI) (d:ar):cE Tryz.prog C 268 [] [.agg x.cells,.agg d.cells] (.agg (ba x d).cells):=by
 refine aB (S.pure8 _ (by decide)) fun H=>am Tryz.func268 rfl (S.prim _ (by decide)) (by simp) (by kernel_rfl) ?_
 unfold Tryz.f268
 have e1:=(kD S.toaA x.d x.h).eq
 cases hz:(bC x.d&&decide (0≤x.n)) with
 | true =>
  have hw:ba x d=⟨d.d,x.n,d.h,d.b⟩:=by unfold ba;rw [if_pos hz]
  rw [hw]
  simp only [Bool.and_eq_true,decide_eq_true_eq] at hz
  have hd:(aI.mk d.d x.n d.h d.b).cells=d.cells++[.int .i64 x.n]:=rfl
  simp [aG,e1,hz,an,ao,hd]
  rw [←hd]
  generalize aI.mk d.d x.n d.h d.b=y
  simp
  exact ⟨fun v hv=>List.all_eq_true.1 y.leafs v hv,aq (v:=.agg y.cells) (aI.closed y)⟩
 | false =>
  have hw:ba x d=x:=by unfold ba;rw [if_neg (by simp [hz])]
  rw [hw]
  simp +contextual [-Bool.not_and,-Bool.not_or,aG,an,e1,hz,ao]
  exact aq (v:=.agg x.cells) (aI.closed x)
def sk (l:List aI) (d:ar):SK×List aI:=l.foldl (fun a x=>pm a (ba x d)) (.exact,[])
theorem wq (d:ar):∀(l:List aI) (a:SK×List aI),(l.foldl (fun a x=>pm a (ba x d)) a).2.length≤a.2.length+l.length
 | [],a=>by simp
 | x::l,a=>by have:=wq d l (pm a (ba x d));have:=G5 a (ba x d);simp only [List.foldl_cons,List.length_cons];omega
def yD (d:ar) (x:aH):aH:={ x with id:=⟨d.d,x.id.n,d.h,d.b⟩ }
def sE (d:ar) (x:aH):aH:=if x.kind≠7 then { x with file:=ba x.file d } else x
def sF (d:ar) (x:aH):aH:=if x.kind=2 then { x with parent:=ba x.parent d } else x
def qS (d:ar) (x:aH):aH:=if x.kind=6 then { x with frm:=ba x.frm d,to:=ba x.to d } else x
def yo (d:ar) (x:aH):aH:=let y:=qS d (sF d (sE d (yD d x)));{ y with over:=(sk x.over d).2,overK:=(sk x.over d).1 }
theorem aH.idD (x:aH) (d:ar):d.cells++x.cells.drop 32=aH.cells (yD d x):=by
 have hR:(yD d x).cells.drop 33=x.cells.drop 33:=((yD d x).dr33).trans x.dr33.symm
 have h1:x.cells=x.id.cells++x.cells.drop 33:=(List.take_append_drop 33 x.cells).symm.trans (congrArg (·++x.cells.drop 33) x.tk33)
 have h2:(yD d x).cells=(yD d x).id.cells++(yD d x).cells.drop 33:=(List.take_append_drop 33 _).symm.trans (congrArg (·++(yD d x).cells.drop 33) (yD d x).tk33)
 rw [h2,hR]
 generalize x.cells.drop 33=R at h1
 rw [h1,List.drop_append_of_le_length (by simp),x.id.num]
 simp [yD,aI.cells,ar.cells]
set_option maxRecDepth 100000 in
set_option maxHeartbeats 2000000 in
theorem Ad (S:cm C) (p:aC) (hp:p.Ok) (hp2:p.Ok2) (hn:(aR p).length≤2^20) (ho:∀x∈aR p,x.over.length≤2^10) :
 cE Tryz.prog C 207 [] [.agg p.cells] (.tup [aw (if bz p=0 then nX (aR p) else .exact) ((if bz p=0 then (aR p).map (yo ⟨pM p,lX p,lW p⟩) else []).map aH.cells),.int .i64 (bz p)]):=by
 refine aB (S.pure8 _ (by decide)) fun H=>am Tryz.func207 rfl (S.prim _ (by decide)) (by simp) (by kernel_rfl) ?_
 unfold Tryz.f207
 have e1:∀base H K,aD Tryz.prog C base (.fn 33 []) [.agg p.cells] H K=K (.tup [.agg (ar.mk (pM p) (lX p) (lW p)).cells,.int .i64 (bz p)]) H:=(Aj S.tod7 p hp hp2).eq
 have e2:=(wy S.toga p hp).eq
 generalize ar.mk (pM p) (lX p) (lW p)=d at *
 by_cases hE:bz p=0
 ·rw [if_pos hE,if_pos hE,hE]
  simp [aG,e1,e2,hE,m0,ao,aj,au,show aP.length=32 from rfl]
  refine az (aR p).length (fun i s H'=>∃J,H'=H++.rows 5 0 [p.cells]::.rows 32 0 [d.cells]::J∧s 4=.ptr (H.length+1) 0 32 0 0∧s 6=aw (iM p) ((aR p).map aH.cells)∧s 9=.int .i64 i∧
   aT (H.length+2) 172 J (s 8) ((((aR p).take i).map (yo d)).map aH.cells)∧(i=0→s 8=.lst [] true)∧(s 8=.lst [] true∨∃b g l,s 8=.sl b g 172 0 l)) ?_ ?_
  ·rw [List.drop_of_length_le (by simp [aP]),List.append_nil]
   exact ⟨[],rfl,rfl,rfl,rfl,.lst [],fun _=>rfl,.inl rfl⟩
  rintro i s H' ⟨J,rfl,e4,e6,e9,hg,hz,hz2⟩ hi
  by_cases h:i<(aR p).length
  ·refine cut (fun s' H'=>H'=H++.rows 5 0 [p.cells]::.rows 32 0 [d.cells]::J∧s' 4=.ptr (H.length+1) 0 32 0 0∧s' 6=aw (iM p) ((aR p).map aH.cells)∧s' 9=.int .i64 i∧s' 8=s 8) ?_ ?_
   ·simp [e4,e6,e9,h]
   rintro s1 H1 ⟨rfl,e4',e6',e9',e8'⟩
   refine cut (fun s' H'=>∃J,H'=H++.rows 5 0 [p.cells]::.rows 32 0 [d.cells]::J∧s' 4=.ptr (H.length+1) 0 32 0 0∧s' 6=aw (iM p) ((aR p).map aH.cells)∧s' 9=.int .i64 i∧
    aT (H.length+2) 172 J (s' 8) ((((aR p).take (i+1)).map (yo d)).map aH.cells)∧∃b g l,s' 8=.sl b g 172 0 l) ?_ ?_
   ·rw [cq]
    refine cut (fun s' H'=>H'=H++.rows 5 0 [p.cells]::.rows 32 0 [d.cells]::(J++[.rows 172 0 [((aR p)[i]).cells]])∧s' 4=.ptr (H.length+1) 0 32 0 0∧s' 6=aw (iM p) ((aR p).map aH.cells)∧s' 9=.int .i64 i∧s' 8=s 8∧s' 10=.ptr (H.length+(J.length+1+1)) 0 172 0 0) ?_ ?_
    ·simp [e4',e6',e9',e8',h,ao]
    rintro s1 H1 ⟨rfl,e4,e6,e9,e8,e10⟩
    have hat:∀y:aH,∀s1:Sl,True:=fun _ _=>trivial
    refine cut (fun s' H'=>H'=H++.rows 5 0 [p.cells]::.rows 32 0 [d.cells]::(J++[.rows 172 0 [(yD d (aR p)[i]).cells]])∧s' 4=.ptr (H.length+1) 0 32 0 0∧s' 6=aw (iM p) ((aR p).map aH.cells)∧s' 9=.int .i64 i∧s' 8=s 8∧s' 10=.ptr (H.length+(J.length+1+1)) 0 172 0 0) ?_ ?_
    ·simp [e4,e6,e9,e8,e10,ao]
     exact aH.idD _ d
    have cw:=fun x=>(Fy S x d).eq
    have ci:=fun a x ha=>(CC S a x ha).eq
    have hov:=ho (aR p)[i] (List.getElem_mem h)
    have hover:(qS d (sF d (sE d (yD d (aR p)[i])))).over=(aR p)[i].over:=by
     unfold qS sF sE yD
     repeat' split
     all_goals rfl
    have hR:yo d (aR p)[i]={ qS d (sF d (sE d (yD d (aR p)[i]))) with over:=(sk (aR p)[i].over d).2,overK:=(sk (aR p)[i].over d).1 }:=rfl
    have et:((aR p).take (i+1)).map (yo d)=((aR p).take i).map (yo d)++[yo d (aR p)[i]]:=by
     rw [List.take_add_one,List.getElem?_eq_getElem h,List.map_append];rfl
    generalize yD d (aR p)[i]=y1 at *
    rintro s1 H1 ⟨rfl,e4,e6,e9,e8,e10⟩
    refine cut (fun s' H'=>H'=H++.rows 5 0 [p.cells]::.rows 32 0 [d.cells]::(J++[.rows 172 0 [(sE d y1).cells]])∧s' 4=.ptr (H.length+1) 0 32 0 0∧s' 6=aw (iM p) ((aR p).map aH.cells)∧s' 9=.int .i64 i∧s' 8=s 8∧s' 10=.ptr (H.length+(J.length+1+1)) 0 172 0 0) ?_ ?_
    ·by_cases k7:y1.kind=7
     ·simp [e4,e6,e9,e8,e10,ao,k7,sE]
     ·simp [e4,e6,e9,e8,e10,ao,k7,sE,cw]
    generalize sE d y1=y2 at *
    rintro s1 H1 ⟨rfl,e4,e6,e9,e8,e10⟩
    refine cut (fun s' H'=>H'=H++.rows 5 0 [p.cells]::.rows 32 0 [d.cells]::(J++[.rows 172 0 [(sF d y2).cells]])∧s' 4=.ptr (H.length+1) 0 32 0 0∧s' 6=aw (iM p) ((aR p).map aH.cells)∧s' 9=.int .i64 i∧s' 8=s 8∧s' 10=.ptr (H.length+(J.length+1+1)) 0 172 0 0) ?_ ?_
    ·by_cases k2:y2.kind=2
     ·simp [e4,e6,e9,e8,e10,ao,k2,sF,cw]
     ·simp [e4,e6,e9,e8,e10,ao,k2,sF]
    generalize sF d y2=y3 at *
    rintro s1 H1 ⟨rfl,e4,e6,e9,e8,e10⟩
    refine cut (fun s' H'=>H'=H++.rows 5 0 [p.cells]::.rows 32 0 [d.cells]::(J++[.rows 172 0 [(qS d y3).cells]])∧s' 4=.ptr (H.length+1) 0 32 0 0∧s' 6=aw (iM p) ((aR p).map aH.cells)∧s' 9=.int .i64 i∧s' 8=s 8∧s' 10=.ptr (H.length+(J.length+1+1)) 0 172 0 0) ?_ ?_
    ·by_cases k6:y3.kind=6
     ·simp [e4,e6,e9,e8,e10,ao,k6,qS,cw]
      rw [aN (h:=by kernel_rfl)]
      simp [e4,e6,e9,e8,e10,ao,k6,qS,cw]
      rw [aN (h:=by kernel_rfl)]
      simp [e4,e6,e9,e8,e10,ao,k6,qS,cw]
     ·simp [e4,e6,e9,e8,e10,ao,k6,qS]
    generalize qS d y3=y4 at *
    rintro s1 H1 ⟨rfl,e4,e6,e9,e8,e10⟩
    refine cut (fun s' H'=>H'=H++.rows 5 0 [p.cells]::.rows 32 0 [d.cells]::(J++[.rows 172 0 [(y4).cells]])∧s' 4=.ptr (H.length+1) 0 32 0 0∧s' 6=aw (iM p) ((aR p).map aH.cells)∧s' 9=.int .i64 i∧s' 8=s 8∧s' 10=.ptr (H.length+(J.length+1+1)) 0 172 0 0∧s' 11=.lst [] true) ?_ ?_
    ·simp [e4,e6,e9,e8,e10,aj,au]
    rintro s1 H1 ⟨rfl,e4,e6,e9,e8,e10,e11⟩
    refine cut (fun s' H'=>H'=H++.rows 5 0 [p.cells]::.rows 32 0 [d.cells]::(J++[.rows 172 0 [(y4).cells]])∧s' 4=.ptr (H.length+1) 0 32 0 0∧s' 6=aw (iM p) ((aR p).map aH.cells)∧s' 9=.int .i64 i∧s' 8=s 8∧s' 10=.ptr (H.length+(J.length+1+1)) 0 172 0 0∧s' 11=aw (sk (aR p)[i].over d).1 ((sk (aR p)[i].over d).2.map aI.cells)) ?_ ?_
    ·simp [e4,e6,e9,e8,e10,e11]
     refine az y4.over.length (fun j s' H'=>H'=H++.rows 5 0 [p.cells]::.rows 32 0 [d.cells]::(J++[.rows 172 0 [(y4).cells]])∧s' 4=.ptr (H.length+1) 0 32 0 0∧s' 6=aw (iM p) ((aR p).map aH.cells)∧s' 9=.int .i64 i∧s' 8=s 8∧s' 10=.ptr (H.length+(J.length+1+1)) 0 172 0 0∧s' 12=.int .i64 j∧s' 11=aw ((y4.over.take j).foldl (fun a x=>pm a (ba x d)) (.exact,[])).1 (((y4.over.take j).foldl (fun a x=>pm a (ba x d)) (.exact,[])).2.map aI.cells)) ?_ ?_
     ·exact ⟨rfl,e4,e6,e9,e8,e10,rfl,e11⟩
     clear e4 e6 e9 e8 e10 e11
     rintro j s1 H1 ⟨rfl,e4,e6,e9,e8,e10,e12,e11⟩ hj
     rw [←hover] at hov
     by_cases hjl:j<y4.over.length
     ·have hfl:=wq d (y4.over.take j) (.exact,[])
      have hft:=mo (f:=fun (a:SK×List aI) x=>pm a (ba x d)) (a:=(.exact,[])) hjl
      have hcj:=ci ((y4.over.take j).foldl (fun a x=>pm a (ba x d)) (.exact,[])) (ba y4.over[j] d) (by simp at hfl;omega)
      rw [←hft] at hcj
      simp [e4,e6,e9,e8,e10,e12,e11,hjl,cw,hcj,ay hjl (by omega)]
     ·have hj':j=y4.over.length:=by omega
      subst hj'
      rw [List.take_length,hover] at e11
      simp [e4,e6,e9,e8,e10,e12,e11]
      rfl
    rintro s1 H1 ⟨rfl,e4,e6,e9,e8,e10,e11⟩
    have hy:aH.cells { y4 with over:=(sk (aR p)[i].over d).2,overK:=(sk (aR p)[i].over d).1 }=(yo d (aR p)[i]).cells:=by rw [hR]
    have hln:(aR p).length≤2^20:=hn
    obtain ⟨v',J',ha,hg',hs'⟩:=LM (H0:=H) (Z:=H++[.rows 5 0 [p.cells],.rows 32 0 [d.cells]]) (n:=H.length+2) (x:=.lst [(yo d (aR p)[i]).cells] true) (ys:=[yo d (aR p)[i]]) (by simp) (by simp) (hg.app [.rows 172 0 [(yo d (aR p)[i]).cells]]) rfl (by simp;omega)
    rw [←et] at hg'
    simp only [List.append_assoc,List.cons_append,List.nil_append] at ha
    simp [e4,e6,e9,e8,e10,e11,ao,hy,aj,au,ha]
    exact ⟨by simpa using hg',hs' (.inl (by simp))⟩
   ·rintro s1 H1 ⟨J,rfl,e4,e6,e9,hg,hs⟩
    simp [e4,e6,e9,h,ay h (by omega)]
    exact ⟨by simpa using hg,.inr hs⟩
  ·have h':i=(aR p).length:=by omega
   subst h'
   rw [List.take_length] at hg
   simp [e4,e6,e9]
   have hf:=hg.freezeE (Z:=H++[.rows 5 0 [p.cells],.rows 32 0 [d.cells]]) (L:=[]) (k:=H.length) (d:=1) (by simp) (by simp) (aM aH.closed _) (fun h=>hz (by simpa using h)) hz2
   simp only [List.append_assoc,List.cons_append,List.nil_append,List.append_nil] at hf
   refine bN ?_ (by simp)
   rw [hf]
   have hk:nX (((aR p).map (yo d)).map aH.cells)=nX (aR p):=by unfold nX;cases aR p<;>rfl
   rw [hk,List.map_map]
 ·rw [if_neg hE,if_neg hE]
  simp [aG,e1,e2,hE,show (bz p != 0)=true by simpa using hE,ao,aj,au,show aP.length=32 from rfl]
  refine bN ?_ (by simp)
  rfl
end Go.Proofs.Ev
namespace Go.Proofs.Ev
open Go.Proofs
variable {C:bG}
def OY (l:List (List UInt8)):Nat:=(l.map List.length).sum
def pl (l:List (List UInt8)):Bool:=decide (40<l.length)||decide (3000<OY l)
theorem qH {α:Type} {f:α→Nat} {l:List α} {i:Nat} (h:i<l.length):((l.take (i+1)).map f).sum=((l.take i).map f).sum+f l[i]:=by
 have e:l.take (i+1)=l.take i++[l[i]]:=by rw [List.take_add_one,List.getElem?_eq_getElem h];rfl
 rw [e,List.map_append,List.sum_append];simp
theorem pE {α:Type} {f:α→Nat} {b:Nat}:∀{l:List α},(∀x∈l,f x≤b)→(l.map f).sum≤b*l.length
 | [],_=>by simp
 | x::l,h=>by
  have:=pE (l:=l) fun y hy=>h y (by simp [hy])
  have:=h x (by simp)
  simp only [List.map_cons,List.sum_cons,List.length_cons,Nat.mul_add];omega
theorem CB (S:cm C) (l:List (List UInt8)) (k:SK) (h1:l.length≤2^20) (h2:∀x∈l,x.length≤2^20):cE Tryz.prog C 127 [] [aw k (l.map fU)] (.bool (pl l)):=by
 refine aB (S.pure8 _ (by decide)) fun H=>am Tryz.func127 rfl (S.prim _ (by decide)) (by simp) (by kernel_rfl) ?_
 unfold Tryz.f127
 simp [aG]
 refine az l.length (fun i s H'=>H'=H∧s 0=aw k (l.map fU)∧s 4=.int .i64 i∧s 3=.int .i64 (((l.take i).map List.length).sum:Nat)) ?_ ?_
 ·exact ⟨rfl,rfl,rfl,rfl⟩
 rintro i s H' ⟨rfl,e0,e4,e3⟩ hi
 have hs:=pE (l:=l.take i) (f:=List.length) fun x hx=>h2 x (List.mem_of_mem_take hx)
 have hsl:(l.take i).length≤2^20:=by simp;omega
 by_cases h:i<l.length
 ·have hli:=h2 _ (List.getElem_mem h)
  have hst:=qH (f:=List.length) h
  have w1:IntKind.i64.wrap (((((l.take i).map List.length).sum:Nat):Int)+(l[i].length:Int))=((((l.take (i+1)).map List.length).sum:Nat):Int):=by
   rw [hst,aK (by omega) (by omega)];omega
  generalize ((l.take i).map List.length).sum=n at *
  generalize hn2:((l.take (i+1)).map List.length).sum=n2 at *
  simp [e0,e4,e3,h,fU,w1,ay h (by omega)]
  rw [←List.map_take,hn2]
 ·have h':i=l.length:=by omega
  subst h'
  rw [List.take_length] at e3
  have hg:pl l=(decide (40<(l.length:Int))||decide (3000<(((l.map List.length).sum:Nat):Int))):=by
   unfold pl OY
   congr 1<;>simp<;>omega
  rw [hg]
  generalize (l.map List.length).sum=n at *
  by_cases h40:(40:Int)<l.length
  ·simp [e0,e4,e3,an,h40]
  ·simp [e0,e4,e3,an,h40]
structure aW.Sz (c:aW):Prop where
 name:c.name.length≤2^20
 data:c.data.length≤2^20
 linesN:c.lines.length≤2^20
 lines:∀x∈c.lines,x.length≤2^20
 over:c.over.length≤2^20
structure aC.Sz (p:aC):Prop where
 author:p.author.length≤2^20
 message:p.message.length≤2^20
 deps:p.deps.length≤2^20
 changesN:p.changes.length≤2^20
 changes:∀c∈p.changes,c.Sz
def tk (c:aW):Bool:=pl c.lines||decide (40<c.over.length)
def Iz (p:aC):Nat:=p.author.length+p.message.length+(p.changes.map fun c=>c.name.length+c.data.length).sum
def eF (p:aC):Bool:=p.changes.any tk||(decide (3000<Iz p)||decide (20<p.deps.length)||decide (20<p.changes.length))
theorem yB {α:Type} {f:α→Bool} {l:List α} {i:Nat} (h:i<l.length):(l.drop i).any f=(f l[i]||(l.drop (i+1)).any f):=by
 rw [List.drop_eq_getElem_cons h];rfl
set_option maxHeartbeats 2000000 in
theorem An (S:cm C) (p:aC) (hp:p.Sz):cE Tryz.prog C 71 [] [.agg p.cells] (.bool (eF p)):=by
 refine aB (S.pure8 _ (by decide)) fun H=>am Tryz.func71 rfl (S.prim _ (by decide)) (by simp) (by kernel_rfl) ?_
 unfold Tryz.f71
 have ha:=hp.author
 have hm:=hp.message
 have hn:=hp.changesN
 have hsum:=pE (l:=p.changes) (f:=fun c=>c.name.length+c.data.length) (b:=2^21) fun c hc=>by have:=(hp.changes c hc).name;have:=(hp.changes c hc).data;omega
 have w0:IntKind.i64.wrap ((p.author.length:Int)+p.message.length)=((p.author.length+p.message.length:Nat):Int):=by rw [aK (by omega) (by omega)];omega
 simp [aG,w0]
 refine az p.changes.length (fun i s H'=>∃J,H'=H++.rows 5 0 [p.cells]::J∧s 1=.ptr H.length 0 5 0 0∧s 4=.int .i64 i∧s 3=.int .i64 (p.author.length+p.message.length+((p.changes.take i).map fun c=>c.name.length+c.data.length).sum:Nat)∧p.changes.any tk=(p.changes.drop i).any tk) ?_ ?_
 ·exact ⟨[],rfl,rfl,rfl,by simp,rfl⟩
 rintro i s H' ⟨J,rfl,e1,e4,e3,hany⟩ hi
 by_cases h:i<p.changes.length
 ·have hst:=qH (f:=fun c:aW=>c.name.length+c.data.length) h
  have hs:=pE (l:=p.changes.take i) (f:=fun c=>c.name.length+c.data.length) (b:=2^21) fun c hc=>by have:=(hp.changes c (List.mem_of_mem_take hc)).name;have:=(hp.changes c (List.mem_of_mem_take hc)).data;omega
  have hsl:(p.changes.take i).length≤2^20:=by simp;omega
  have hc:=hp.changes _ (List.getElem_mem h)
  have hc1:=hc.name
  have hc2:=hc.data
  rw [yB h] at hany
  have g4:=(CB S p.changes[i].lines p.changes[i].linesK hc.linesN hc.lines).eq
  have hmt:∀j,(p.changes.map fun c=>c.name.length+c.data.length).take j=(p.changes.take j).map fun c=>c.name.length+c.data.length:=fun j=>List.map_take.symm
  generalize hq:((p.changes.take i).map fun c=>c.name.length+c.data.length).sum=q at *
  generalize hq2:((p.changes.take (i+1)).map fun c=>c.name.length+c.data.length).sum=q2 at *
  have w1:IntKind.i64.wrap (((p.author.length+p.message.length+q:Nat):Int)+(p.changes[i].name.length:Int))=((p.author.length+p.message.length+q+p.changes[i].name.length:Nat):Int):=by rw [aK (by omega) (by omega)];omega
  have w2:IntKind.i64.wrap (((p.author.length+p.message.length+q+p.changes[i].name.length:Nat):Int)+(p.changes[i].data.length:Int))=((p.author.length+p.message.length+q2:Nat):Int):=by rw [aK (by omega) (by omega)];omega
  generalize hA:p.author.length+p.message.length+q=A at *
  generalize hB:A+p.changes[i].name.length=B at *
  generalize hCc:p.author.length+p.message.length+q2=Cc at *
  cases hbg:pl p.changes[i].lines with
  | true =>
   have hgr:eF p=true:=by unfold eF;rw [hany];simp [tk,hbg]
   simp [e1,e4,e3,h,an,ao,g4,hbg,hgr]
  | false =>
   by_cases hov:40<p.changes[i].over.length
   ·have hgr:eF p=true:=by unfold eF;rw [hany];simp [tk,hov]
    simp [e1,e4,e3,h,an,ao,g4,hbg,hgr,hov,show (40:Int)<p.changes[i].over.length by omega]
   ·have hbc:tk p.changes[i]=false:=by simp [tk,hbg];omega
    have hany':p.changes.any tk=(p.changes.drop (i+1)).any tk:=by rw [hany,hbc];rfl
    simp [e1,e4,e3,h,an,ao,g4,hbg,hov,show ¬(40:Int)<p.changes[i].over.length by omega,w1,w2,ay h (by omega)]
    refine ⟨?_,hany'⟩
    rw [hmt,hq2];omega
 ·have h':i=p.changes.length:=by omega
  subst h'
  rw [List.take_length] at e3
  have hg:eF p=(decide (3000<((Iz p:Nat):Int))||decide (20<(p.deps.length:Int))||decide (20<(p.changes.length:Int))):=by
   unfold eF
   rw [hany,List.drop_length]
   simp only [List.any_nil,Bool.false_or]
   congr 1
   ·congr 1<;>simp<;>omega
   ·simp;omega
  rw [hg]
  have e3:s 3=.int .i64 ((Iz p:Nat):Int):=e3
  generalize Iz p=n at *
  by_cases h3:(3000:Int)<n
  ·simp [e1,e4,e3,an,h3]
  ·by_cases h4:(20:Int)<p.deps.length
   ·simp [e1,e4,e3,an,h3,h4]
   ·simp [e1,e4,e3,an,h3,h4]
def sJ (c:aW):Nat:=1+c.lines.length+c.over.length
def sK (p:aC):Nat:=(p.changes.map sJ).sum
def ko (s:List ah):Bool:=(s.take 9).any (fun x=>eF x.patch)||(decide (8<s.length)||decide (300<((s.take 9).map fun x=>sK x.patch).sum))
structure om (s:List ah):Prop where
 n:s.length≤2^20
 p:∀x∈s,x.patch.Sz
theorem C7 {p:aC} (hp:p.Sz):sK p≤2^42:=by
 have h:=pE (l:=p.changes) (f:=sJ) (b:=2^22) fun c hc=>by have:=(hp.changes c hc).linesN;have:=(hp.changes c hc).over;unfold sJ;omega
 have:=hp.changesN
 unfold sK;omega
set_option maxRecDepth 100000 in
set_option maxHeartbeats 2000000 in
theorem Fs (S:cm C) (l:List ah) (k:SK) (hl:om l):cE Tryz.prog C 32 [] [aw k (l.map ah.cells),.int .i64 8] (.bool (ko l)):=by
 refine aB (S.pure8 _ (by decide)) fun H=>am Tryz.func32 rfl (S.prim _ (by decide)) (by simp) (by kernel_rfl) ?_
 unfold Tryz.f32
 have hn:=hl.n
 have hlen9:(l.take 9).length=min 9 l.length:=by simp
 simp [aG]
 refine az (l.take 9).length (fun i s H'=>H'=H∧s 0=aw k (l.map ah.cells)∧s 1=.int .i64 8∧s 6=.int .i64 i∧s 5=.int .i64 ((((l.take 9).take i).map fun x=>sK x.patch).sum:Nat)∧(l.take 9).any (fun x=>eF x.patch)=((l.take 9).drop i).any (fun x=>eF x.patch)) ?_ ?_
 ·exact ⟨rfl,rfl,rfl,rfl,rfl,rfl⟩
 rintro i s H' ⟨rfl,e0,e1,e6,e5,hany⟩ hi
 by_cases h:i<(l.take 9).length
 ·have hil:i<l.length:=by omega
  have hi8:(i:Int)≤8:=by omega
  have hget:(l.take 9)[i]=l[i]:=List.getElem_take
  have hst:=qH (f:=fun x:ah=>sK x.patch) h
  have hs:=pE (l:=(l.take 9).take i) (f:=fun x:ah=>sK x.patch) (b:=2^42) fun x hx=>C7 (hl.p x (List.mem_of_mem_take (List.mem_of_mem_take hx)))
  have hsl:((l.take 9).take i).length≤9:=by simp;omega
  rw [yB h] at hany
  rw [hget] at hany hst
  have hp:=hl.p _ (List.getElem_mem hil)
  have g:=(An S l[i].patch hp).eq
  have hcp:=C7 hp
  cases hbg:eF l[i].patch with
  | true =>
   have hgr:ko l=true:=by unfold ko;rw [hany];simp [hbg]
   simp [e0,e1,e6,e5,hil,hi8,an,g,hbg,hgr]
  | false =>
   have hany':(l.take 9).any (fun x=>eF x.patch)=((l.take 9).drop (i+1)).any (fun x=>eF x.patch):=by rw [hany,hbg];rfl
   generalize hq:(((l.take 9).take i).map fun x=>sK x.patch).sum=q at *
   simp [e0,e1,e6,e5,hil,hi8,an,g,hbg]
   refine az l[i].patch.changes.length (fun j s H''=>H''=H'∧s 0=aw k (l.map ah.cells)∧s 1=.int .i64 8∧s 6=.int .i64 i∧s 7=.int .i64 j∧s 5=.int .i64 (q+((l[i].patch.changes.take j).map sJ).sum:Nat)) ?_ ?_
   ·exact ⟨rfl,e0,e1,e6,rfl,e5⟩
   clear e0 e1 e6 e5
   rintro j s H'' ⟨rfl,e0,e1,e6,e7,e5⟩ hj
   by_cases hjl:j<l[i].patch.changes.length
   ·have hjt:=qH (f:=sJ) hjl
    have hjs:=pE (l:=l[i].patch.changes.take j) (f:=sJ) (b:=2^22) fun c hc=>by have:=(hp.changes c (List.mem_of_mem_take hc)).linesN;have:=(hp.changes c (List.mem_of_mem_take hc)).over;unfold sJ;omega
    have hjl2:(l[i].patch.changes.take j).length≤2^20:=by have:=hp.changesN;simp;omega
    have hc:=hp.changes _ (List.getElem_mem hjl)
    have hc1:=hc.linesN
    have hc2:=hc.over
    have hcc:sJ l[i].patch.changes[j]=1+l[i].patch.changes[j].lines.length+l[i].patch.changes[j].over.length:=rfl
    have hmt:∀j,(l[i].patch.changes.map sJ).take j=(l[i].patch.changes.take j).map sJ:=fun j=>List.map_take.symm
    generalize hr:((l[i].patch.changes.take j).map sJ).sum=r at *
    generalize hr2:((l[i].patch.changes.take (j+1)).map sJ).sum=r2 at *
    have w1:IntKind.i64.wrap (((q+r:Nat):Int)+1)=((q+r+1:Nat):Int):=by rw [aK (by omega) (by omega)];omega
    have w2:IntKind.i64.wrap (((q+r+1:Nat):Int)+(l[i].patch.changes[j].lines.length:Int))=((q+r+1+l[i].patch.changes[j].lines.length:Nat):Int):=by rw [aK (by omega) (by omega)];omega
    have w3:IntKind.i64.wrap (((q+r+1+l[i].patch.changes[j].lines.length:Nat):Int)+(l[i].patch.changes[j].over.length:Int))=((q+r2:Nat):Int):=by rw [aK (by omega) (by omega)];omega
    have hcn:=hp.changesN
    generalize hA:q+r=A at *
    generalize hB:A+1=B at *
    generalize hD:B+l[i].patch.changes[j].lines.length=D at *
    generalize hE:q+r2=E at *
    simp [e0,e1,e6,e7,e5,hil,hjl,w1,w2,w3,ay hjl (by omega)]
    rw [hmt,hr2];omega
   ·have hj':j=l[i].patch.changes.length:=by omega
    subst hj'
    rw [List.take_length] at e5
    have e5:s 5=.int .i64 ((q+sK l[i].patch:Nat):Int):=e5
    simp [e0,e1,e6,e7,e5,hil,ay (show i<10 by omega) (by decide)]
    have hmt:((l.map fun x=>sK x.patch).take 9).take (i+1)=((l.take 9).take (i+1)).map fun x=>sK x.patch:=by rw [List.map_take,List.map_take]
    refine ⟨by omega,?_,hany'⟩
    rw [hmt,hst];omega
 ·have h':i=(l.take 9).length:=by omega
  subst h'
  rw [List.take_length] at e5
  have hg:ko l=(decide (8<(l.length:Int))||decide (300<((((l.take 9).map fun x=>sK x.patch).sum:Nat):Int))):=by
   unfold ko
   rw [hany,List.drop_length]
   simp only [List.any_nil,Bool.false_or]
   congr 1<;>simp<;>omega
  rw [hg]
  rw [hlen9] at e6
  generalize ((l.take 9).map fun x=>sK x.patch).sum=n at *
  by_cases h8:(8:Int)<l.length
  ·have h9:min 9 l.length=9:=by omega
   rw [h9] at e6
   have h9l:9<l.length∨l.length=9:=by omega
   rcases h9l with h9l | h9l
   ·simp [e0,e1,e6,e5,an,h8,show (9:Int)<l.length by omega]
   ·simp [e0,e1,e6,e5,an,h8,h9l]
  ·have h9:min 9 l.length=l.length:=by omega
   rw [h9] at e6
   simp [e0,e1,e6,e5,an,h8]
theorem Ao (S:cm C) (l:List ah) (k:SK) (hl:om l):cE Tryz.prog C 12 [] [aw k (l.map ah.cells)] (.bool (ko l)):=by
 refine aB (S.pure8 _ (by decide)) fun H=>am Tryz.func12 rfl (S.prim _ (by decide)) (by simp) (by kernel_rfl) ?_
 unfold Tryz.f12
 have e:=(Fs S l k hl).eq
 simp [aG,e]
end Go.Proofs.Ev
