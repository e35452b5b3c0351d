/- Part 15 of the proof that quiltlaw38.BlameTouching returns true: no statement of its own. -/
import Derived.Test.YtbpaeodbnleoaaaGreatDoorT14
set_option linter.all false
namespace Go.Proofs.Ev
open Go.Proofs
variable {C:bG}
structure eP (C:bG):Prop extends cm C where
 pureA:∀f,f∈[218,140,219,280,217,142,79,69]→C.pure f=true
 plainA:∀f,f∈[141]→C.pure f=false∧C.frz f=false
theorem NU:∀n:Nat,n<32→0<n→IntKind.u64.wrap (BitVec.ofInt 64 (IntKind.u64.wrap (IntKind.i64.wrap (-(n:Int)))) &&& BitVec.ofInt 64 31).toNat=((32-n:Nat):Int):=by decide
theorem H4 (S:eP C) (x:oo) (n:Nat) (h:n<32) (h0:0<n):cE Tryz.prog C 280 [] [bW x,.int .i64 (IntKind.i64.wrap (-(n:Int)))] (bW (fa x n)):=by
 refine aB (S.pureA _ (by decide)) fun H=>am Tryz.func280 rfl (S.prim _ (by decide)) (by simp) (by kernel_rfl) ?_
 unfold Tryz.f280
 have ha:∀t,bU Tryz.prog C .and t (.int .u64 (IntKind.u64.wrap (IntKind.i64.wrap (-(n:Int))))) (.int .u64 31)=some (.int .u64 ((32-n:Nat):Int)):=fun t=>by
  show some (AV.int .u64 (IntKind.u64.wrap (BitVec.ofInt 64 (IntKind.u64.wrap (IntKind.i64.wrap (-(n:Int)))) &&& BitVec.ofInt 64 31).toNat))=_
  rw [NU n h h0]
 obtain ⟨m,hm⟩:∃m,m=32-n:=⟨_,rfl⟩
 rw [←hm] at ha
 have e1:=fun t=>wN (P:=Tryz.prog) (C:=C) t x .u64 m (by omega)
 have e2:=fun t=>sw (P:=Tryz.prog) (C:=C) t x .u64 n (by omega)
 have w1:IntKind.u64.wrap (32-(m:Int))=(n:Int):=by rw [IntWalk.u64_in _ (by omega)];omega
 have hr:fa x n=x <<< m ||| x >>> n:=by rw [fa,←hm,BitVec.or_comm]
 have cv:∀H y,bi Tryz.prog H 3 146 (.int .i64 y)=some (.int .u64 (IntKind.u64.wrap y),H):=fun H y=>by simp [bi]
 generalize IntKind.i64.wrap (-(n:Int))=y at *
 rw [hr]
 simp [aG,cv,ha,e1,e2,w1,KM]
theorem fH (S:eP C) (x:oo) (n:Nat) (h:n<32) (h0:0<n):cE Tryz.prog C 219 [] [bW x,.int .i64 (n:Int)] (bW (fa x n)):=by
 refine aB (S.pureA _ (by decide)) fun H=>am Tryz.func219 rfl (S.prim _ (by decide)) (by simp) (by kernel_rfl) ?_
 unfold Tryz.f219
 have e:=(H4 S x n h h0).eq
 simp [aG,e]
theorem uI (S:eP C):cE Tryz.prog C 218 [] [] (.agg (pB.map bW)):=by
 refine aB (S.pureA _ (by decide)) fun H=>am Tryz.func218 rfl (S.prim _ (by decide)) (by simp) (by kernel_rfl) ?_
 unfold Tryz.f218
 simp [aG,ao,aE]
 rw [aq (by simp [AV.closed,AV.closeds])]
 rfl
theorem Ap (S:eP C):cE Tryz.prog C 140 [] [] (.agg (gY oz)):=by
 refine aB (S.pureA _ (by decide)) fun H=>am Tryz.func140 rfl (S.prim _ (by decide)) (by simp) (by kernel_rfl) ?_
 unfold Tryz.f140
 simp [aG,ao,aE]
 rw [aq (by simp [AV.closed,AV.closeds])]
 rfl
def CV (block:List UInt8) (t:Nat):Nat→oo
 | 0=>0
 | j+1=>CV block t j <<< 8 ||| kW (block.getD (4*t+j) 0)
theorem Pa (block:List UInt8) (t:Nat):CV block t 4=rL block t:=by
 simp only [CV,rL]
 generalize kW (block.getD (4*t) 0)=a
 simp only [Nat.add_zero,BitVec.shiftLeft_or_distrib,←BitVec.shiftLeft_add]
 simp
def AM (block:List UInt8) (T j:Nat):List AV:=(iZ block T).take T++bW (CV block T j)::(iZ block T).drop (T+1)
theorem KO {block:List UInt8} {T j:Nat} (h:T<64):(AM block T j).length=64:=by
 have:=kG (block:=block) (t:=T) (by omega)
 simp [AM];omega
theorem MU {block:List UInt8} {T j:Nat} (h:T<64):(AM block T j)[T]?=some (bW (CV block T j)):=by
 have:=kG (block:=block) (t:=T) (by omega)
 have hl:((iZ block T).take T).length=T:=by simp;omega
 rw [AM,List.getElem?_append_right (by omega),hl,Nat.sub_self];rfl
theorem KP {block:List UInt8} {T j:Nat} (h:T<64):(AM block T j).take T++bW (CV block T j <<< 8 ||| kW (block.getD (4*T+j) 0))::(AM block T j).drop (T+1)=AM block T (j+1):=by
 have:=kG (block:=block) (t:=T) (by omega)
 have hl:((iZ block T).take T).length=T:=by simp;omega
 have e1:(AM block T j).take T=(iZ block T).take T:=by rw [AM,List.take_append_of_le_length (by omega),List.take_of_length_le (by omega)]
 have e2:(AM block T j).drop (T+1)=(iZ block T).drop (T+1):=by rw [AM,List.drop_append,List.drop_of_length_le (by omega),hl];simp [show T+1-T=1 by omega]
 rw [e1,e2];rfl
theorem IT {block:List UInt8} {T:Nat} (h:T<64):AM block T 0=iZ block T:=by
 have hl:=kG (block:=block) (t:=T) (by omega)
 have hat:(iZ block T)[T]?=some (bW 0):=by
  rw [iZ,List.getElem?_append_right (by rw [List.length_map,df];omega),List.length_map,df,Nat.sub_self,show 64-T=(64-T-1)+1 by omega,List.replicate_succ];rfl
 have h1:T<(iZ block T).length:=by omega
 have h2:(iZ block T)[T]=bW 0:=by rw [List.getElem?_eq_getElem h1] at hat;exact Option.some.inj hat
 rw [AM]
 show (iZ block T).take T++bW 0::(iZ block T).drop (T+1)=_
 rw [←h2,←List.drop_eq_getElem_cons h1,List.take_append_drop]
theorem IS {block:List UInt8} {T:Nat} (h:T<16):AM block T 4=iZ block (T+1):=by
 rw [AM,Pa];exact qD (by omega) (by rw [if_pos h])
set_option maxRecDepth 100000 in
set_option maxHeartbeats 4000000 in
theorem vu (S:eP C) (block:List UInt8) (hb:block.length=64):cE Tryz.prog C 217 [] [.str block] (.agg ((bu block 64).map bW)):=by
 refine aB (S.pureA _ (by decide)) fun H=>am Tryz.func217 rfl (S.prim _ (by decide)) (by simp) (by kernel_rfl) ?_
 unfold Tryz.f217
 have sh8:∀t x,bU Tryz.prog C .shl t (bW x) (.int .u64 8)=some (bW (x <<< 8)):=fun t x=>wN t x .u64 8 (by decide)
 have sr10:∀t x,bU Tryz.prog C .shr t (bW x) (.int .u64 10)=some (bW (x >>> 10)):=fun t x=>sw t x .u64 10 (by decide)
 have sr3:∀t x,bU Tryz.prog C .shr t (bW x) (.int .u64 3)=some (bW (x >>> 3)):=fun t x=>sw t x .u64 3 (by decide)
 have r17:∀x base H K,aD Tryz.prog C base (.fn 219 []) [bW x,.int .i64 17] H K=K (bW (fa x 17)) H:=fun x=>(fH S x 17 (by decide) (by decide)).eq
 have r19:∀x base H K,aD Tryz.prog C base (.fn 219 []) [bW x,.int .i64 19] H K=K (bW (fa x 19)) H:=fun x=>(fH S x 19 (by decide) (by decide)).eq
 have r7:∀x base H K,aD Tryz.prog C base (.fn 219 []) [bW x,.int .i64 7] H K=K (bW (fa x 7)) H:=fun x=>(fH S x 7 (by decide) (by decide)).eq
 have r18:∀x base H K,aD Tryz.prog C base (.fn 219 []) [bW x,.int .i64 18] H K=K (bW (fa x 18)) H:=fun x=>(fH S x 18 (by decide) (by decide)).eq
 simp [aG]
 refine az 64 (fun T s H'=>∃(Z:List AV) (J:ag),Z.length=64∧s 0=.str block∧s 2=.ptr H.length 0 64 0 0∧s 3=.ptr (H.length+1) 0 64 0 0∧s 9=.int .i64 T∧H'=H++.rows 64 0 [Z]::.rows 64 0 [iZ block T]::J) ?_ ?_
 ·exact ⟨List.replicate 64 (.int .u32 0),[],rfl,rfl,rfl,rfl,rfl,rfl⟩
 rintro T s H' ⟨Z,J,hZ,e0,e2,e3,e9,rfl⟩ hT
 have hl:=kG (block:=block) (t:=T) (by omega)
 by_cases h:T<64
 ·have kT:(T:Int)<64∧T<64∧T+1≤64:=by omega
  by_cases h16:T<16
  ·have k16:(T:Int)<16:=by omega
   obtain ⟨q,hq⟩:∃q,q=4*T:=⟨_,rfl⟩
   have w0:IntKind.i64.wrap (4*(T:Int))=(q:Int):=by rw [aK (by omega) (by omega)];omega
   have w4:IntKind.i64.wrap ((q:Int)+4)=((q+4:Nat):Int):=by rw [aK (by omega) (by omega)];omega
   obtain ⟨q4,hq4⟩:∃q4,q4=q+4:=⟨_,rfl⟩
   rw [←hq4] at w4
   obtain ⟨B,hB⟩:∃B,B=(block.take q4).drop q:=⟨_,rfl⟩
   have hBl:B.length=4:=by rw [hB];simp;omega
   have hBat:∀j,j<4→B[j]?=some (block.getD (q+j) 0):=by
    intro j hj
    rw [hB,List.getElem?_drop,List.getElem?_take,if_pos (by omega),List.getD_eq_getElem?_getD,List.getElem?_eq_getElem (show q+j<block.length by omega)];rfl
   simp [e0,e2,e3,e9,kT,k16,w0,w4,cX,bJ,hb,show (q4:Int)<65 by omega,show (q:Int)<(q4:Int)+1 by omega,←hB,bi,hBl]
   refine az 4 (fun j s H'=>s 0=.str block∧s 2=.ptr H.length 0 64 0 0∧s 3=.ptr (H.length+1) 0 64 0 0∧s 9=.int .i64 T∧s 4=.int .i64 T∧s 21=.sl (H.length+(J.length+1+1)) 0 1 0 4∧s 22=.int .i64 4∧s 23=.int .i64 j∧H'=H++.rows 64 0 [Z]::.rows 64 0 [AM block T j]::(J++[.rows 1 0 (B.map fun b=>[.int .u8 b.toNat])])) ?_ ?_
   ·exact ⟨e0,e2,e3,e9,rfl,by simp,rfl,rfl,by rw [IT kT.2.1]⟩
   clear e0 e2 e3 e9
   rintro j s H' ⟨e0,e2,e3,e9,e4,e21,e22,e23,rfl⟩ hj
   have hwl:=KO (block:=block) (T:=T) (j:=j) kT.2.1
   by_cases hj4:j<4
   ·have hat:=MU (block:=block) (T:=T) (j:=j) kT.2.1
    have hset:=KP (block:=block) (T:=T) (j:=j) kT.2.1
    have hBj:=hBat j hj4
    rw [←hq] at hset
    generalize block.getD (q+j) 0=b at hBj hset
    generalize hwa:CV block T j=a at hat hset
    generalize hwc:AM block T j=Wc at *
    simp [-getElem?_pos,List.getElem?_cons_zero,e0,e2,e3,e9,e4,e21,e22,e23,show (j:Int)<4 by omega,hj4,hBj,kT,hat,sh8,bi,vO,KM,ao,hwl,hset,ay hj4 (by decide)]
   ·have hj':j=4:=by omega
    subst hj'
    rw [IS h16]
    simp [e0,e2,e3,e9,e4,e21,e22,e23,hZ,ay kT.2.1 (by decide),h]
  ·have k16:¬(T:Int)<16:=by omega
   obtain ⟨j15,hj15⟩:∃j,j=T-15:=⟨_,rfl⟩
   obtain ⟨j2,hj2⟩:∃j,j=T-2:=⟨_,rfl⟩
   obtain ⟨j7,hj7⟩:∃j,j=T-7:=⟨_,rfl⟩
   obtain ⟨j16,hj16⟩:∃j,j=T-16:=⟨_,rfl⟩
   have w15:IntKind.i64.wrap ((T:Int)-15)=(j15:Int):=by rw [aK (by omega) (by omega)];omega
   have w2:IntKind.i64.wrap ((T:Int)-2)=(j2:Int):=by rw [aK (by omega) (by omega)];omega
   have w7:IntKind.i64.wrap ((T:Int)-7)=(j7:Int):=by rw [aK (by omega) (by omega)];omega
   have w16:IntKind.i64.wrap ((T:Int)-16)=(j16:Int):=by rw [aK (by omega) (by omega)];omega
   have a15:=kZ (block:=block) (t:=T) (j:=j15) (by omega)
   have a2:=kZ (block:=block) (t:=T) (j:=j2) (by omega)
   have a7:=kZ (block:=block) (t:=T) (j:=j7) (by omega)
   have a16:=kZ (block:=block) (t:=T) (j:=j16) (by omega)
   have hset:=qD (block:=block) (t:=T) (x:=sg (bu block T)) (by omega) (by rw [if_neg (by omega)])
   have hn:sg (bu block T)=((fa ((bu block T).getD j2 0) 17 ^^^ fa ((bu block T).getD j2 0) 19 ^^^ (bu block T).getD j2 0 >>> 10)+(bu block T).getD j7 0+(fa ((bu block T).getD j15 0) 7 ^^^ fa ((bu block T).getD j15 0) 18 ^^^ (bu block T).getD j15 0 >>> 3))+(bu block T).getD j16 0:=by
    unfold sg
    simp only [df]
    rw [←hj15,←hj2,←hj7,←hj16]
   rw [hn] at hset
   generalize (bu block T).getD j2 0=b0 at a2 hset
   generalize (bu block T).getD j7 0=b1 at a7 hset
   generalize (bu block T).getD j15 0=b2 at a15 hset
   generalize (bu block T).getD j16 0=b3 at a16 hset
   have k15:(j15:Int)<64∧j15<64:=by omega
   have k2:(j2:Int)<64∧j2<64:=by omega
   have k7:(j7:Int)<64∧j7<64:=by omega
   have kk16:(j16:Int)<64∧j16<64:=by omega
   simp [-getElem?_pos,List.getElem?_cons_zero,e0,e2,e3,e9,k16,w15,w2,w7,w16,a15,a2,a7,a16,k15,k2,k7,kk16,kT,r17,r19,r7,r18,sr10,sr3,wM,DN,ao,hl]
   rw [aN (h:=by kernel_rfl)]
   simp [h,e0,e2,e3,e9,ay kT.2.1 (by decide),hl,kT]
   exact ⟨Z,hZ,rfl,hset⟩
 ·have h:T=64:=by omega
  subst h
  have e64:iZ block 64=(bu block 64).map bW:=by simp [iZ]
  have l64:=df block 64
  rw [e64] at hl ⊢
  generalize bu block 64=W at *
  simp [e0,e2,e3,e9,ao,hZ,List.take_of_length_le,List.drop_of_length_le (Nat.le_of_eq hZ),l64]
  exact aq (v:=.agg (W.map bW)) (qX W)
set_option maxRecDepth 100000 in
set_option maxHeartbeats 4000000 in
theorem xW (S:eP C) (v0:vz) (block:List UInt8) (hb:block.length=64):cE Tryz.prog C 142 [] [.agg (gY v0),.str block] (.agg (gY (nM v0 block))):=by
 refine aB (S.pureA _ (by decide)) fun H=>am Tryz.func142 rfl (S.prim _ (by decide)) (by simp) (by kernel_rfl) ?_
 unfold Tryz.f142
 have r6:∀x base H K,aD Tryz.prog C base (.fn 219 []) [bW x,.int .i64 6] H K=K (bW (fa x 6)) H:=fun x=>(fH S x 6 (by decide) (by decide)).eq
 have r11:∀x base H K,aD Tryz.prog C base (.fn 219 []) [bW x,.int .i64 11] H K=K (bW (fa x 11)) H:=fun x=>(fH S x 11 (by decide) (by decide)).eq
 have MB:∀x base H K,aD Tryz.prog C base (.fn 219 []) [bW x,.int .i64 25] H K=K (bW (fa x 25)) H:=fun x=>(fH S x 25 (by decide) (by decide)).eq
 have r2:∀x base H K,aD Tryz.prog C base (.fn 219 []) [bW x,.int .i64 2] H K=K (bW (fa x 2)) H:=fun x=>(fH S x 2 (by decide) (by decide)).eq
 have r13:∀x base H K,aD Tryz.prog C base (.fn 219 []) [bW x,.int .i64 13] H K=K (bW (fa x 13)) H:=fun x=>(fH S x 13 (by decide) (by decide)).eq
 have r22:∀x base H K,aD Tryz.prog C base (.fn 219 []) [bW x,.int .i64 22] H K=K (bW (fa x 22)) H:=fun x=>(fH S x 22 (by decide) (by decide)).eq
 have c1:=(vu S block hb).eq
 have c2:=(uI S).eq
 have l1:((bu block 64).map bW).length=64:=by rw [List.length_map,df]
 have l2:(pB.map bW).length=64:=rfl
 obtain ⟨fW,hfW⟩:∃f:Nat→oo,f=fun t=>(bu block 64).getD t 0:=⟨_,rfl⟩
 obtain ⟨fK,hfK⟩:∃f:Nat→oo,f=fun t=>pB.getD t 0:=⟨_,rfl⟩
 have hround:∀t,cO block v0 (t+1)=CG (cO block v0 t) (fK t) (fW t):=fun t=>by rw [hfK,hfW];rfl
 have hs:∀t,t<64→((bu block 64).map bW)[t]?=some (bW (fW t)):=fun t ht=>by
  rw [hfW,List.getElem?_map];simp only;rw [List.getD_eq_getElem?_getD,List.getElem?_eq_getElem (by rw [df];exact ht)];rfl
 have hk:∀t,t<64→(pB.map bW)[t]?=some (bW (fK t)):=fun t ht=>by
  rw [hfK,List.getElem?_map];simp only;rw [List.getD_eq_getElem?_getD,List.getElem?_eq_getElem (show t<pB.length from ht)];rfl
 have hfin:nM v0 block=⟨v0.a+(cO block v0 64).a,v0.b+(cO block v0 64).b,v0.c+(cO block v0 64).c,v0.d+(cO block v0 64).d,v0.e+(cO block v0 64).e,v0.f+(cO block v0 64).f,v0.g+(cO block v0 64).g,v0.h+(cO block v0 64).h⟩:=rfl
 rw [hfin]
 have h0:cO block v0 0=v0:=rfl
 have q1:∀x∈(bu block 64).map bW,x.leaf=true:=by intro x hx;obtain ⟨y,_,rfl⟩:=List.mem_map.1 hx;rfl
 have q2:∀x∈pB.map bW,x.leaf=true:=by intro x hx;obtain ⟨y,_,rfl⟩:=List.mem_map.1 hx;rfl
 clear hfW hfK
 generalize cO block v0=R at *
 generalize (bu block 64).map bW=W at *
 generalize pB.map bW=Kc at *
 simp [aG,gY,ao,aE,c1,c2,l1,l2]
 refine ⟨q1,q2,?_⟩
 refine az 64 (fun i s H'=>∃Z,Z.length=8∧s 2=.ptr H.length 0 8 0 0∧s 4=.ptr (H.length+1) 0 8 0 0∧s 5=.ptr (H.length+2) 0 64 0 0∧s 6=.ptr (H.length+3) 0 64 0 0∧s 39=.int .i64 i∧
  s 7=bW (R i).a∧s 8=bW (R i).b∧s 9=bW (R i).c∧s 10=bW (R i).d∧s 11=bW (R i).e∧s 12=bW (R i).f∧s 13=bW (R i).g∧s 14=bW (R i).h∧
  H'=H++[.rows 8 0 [gY v0],.rows 8 0 [Z],.rows 64 0 [W],.rows 64 0 [Kc]]) ?_ ?_
 ·refine ⟨List.replicate 8 (.int .u32 0),rfl,rfl,rfl,rfl,rfl,rfl,?_⟩
  rw [h0];exact ⟨rfl,rfl,rfl,rfl,rfl,rfl,rfl,rfl,rfl⟩
 rintro i s H' ⟨Z,hZ,e2,e4,e5,e6,e39,e7,e8,e9,e10,e11,e12,e13,e14,rfl⟩ hi
 by_cases h:i<64
 ·have hs:=hs i h
  have hk:=hk i h
  have hr:=hround i
  have hi64:(i:Int)<64:=by omega
  simp [-getElem?_pos,List.getElem?_cons_zero,gY,e2,e4,e5,e6,e39,e7,e8,e9,e10,e11,e12,e13,e14,hi64,h,hs,hk,r6,r11,MB,r2,r13,r22,wM,DN,Lw,Lx,aE,ao,ay h (by decide)]
  refine ⟨Z,hZ,?_⟩
  rw [hr]
  exact ⟨rfl,rfl,rfl,rfl,rfl,rfl,rfl,rfl,rfl⟩
 have h:i=64:=by omega
 subst h
 clear hround hs hk
 generalize R 64=v at *
 simp [e2,e4,e5,e6,e39,e7,e8,e9,e10,e11,e12,e13,e14,aE]
 refine az 8 (fun i s H'=>s 2=.ptr H.length 0 8 0 0∧s 4=.ptr (H.length+1) 0 8 0 0∧s 110=.agg (gY v)∧s 111=.int .i64 i∧
  H'=H++[.rows 8 0 [(gY ⟨v0.a+v.a,v0.b+v.b,v0.c+v.c,v0.d+v.d,v0.e+v.e,v0.f+v.f,v0.g+v.g,v0.h+v.h⟩).take i++(gY v0).drop i],.rows 8 0 [Z],.rows 64 0 [W],.rows 64 0 [Kc]]) ?_ ?_
 ·exact ⟨e2,e4,rfl,rfl,rfl⟩
 clear e2 e4 e5 e6 e39 e7 e8 e9 e10 e11 e12 e13 e14
 rintro i s H' ⟨e2,e4,e110,e111,rfl⟩ hi
 by_cases h:i<8
 ·have hk:i=0∨i=1∨i=2∨i=3∨i=4∨i=5∨i=6∨i=7:=by omega
  rcases hk with rfl | rfl | rfl | rfl | rfl | rfl | rfl | rfl
  all_goals
   simp [gY,e2,e4,e110,e111,lf,nC,wM,ao]
   rfl
 have h:i=8:=by omega
 subst h
 simp [gY,e2,e4,e110,e111,ao,List.drop_of_length_le (Nat.le_of_eq hZ)]
 exact ⟨by omega,aq rfl⟩
end Go.Proofs.Ev
namespace Go.Proofs.Ev
open Go.Proofs
variable {C:bG}
theorem DY (S:eP C) (x:List UInt8) {base:Nat} {H:ag} (hb:base≤H.length) (K:AV→ag→Prop) :
 aD Tryz.prog C base (.fn 141 []) [.str x] H K=K (.fn 216 [.ptr H.length 0 1 0 0]) (H++[.rows 1 0 [[.str x]]]):=by
 refine aD.eq (bn (S.plainA _ (by decide)).1 (S.plainA _ (by decide)).2 (am Tryz.func141 rfl (S.prim _ (by decide)) (by simp) (by kernel_rfl) ?_)) K
 unfold Tryz.f141
 simp [aG]
def bR (b:UInt8):List AV:=[.int .u8 b.toNat]
@[simp] theorem P4 (b:UInt8):(bR b).length=1:=rfl
theorem vK:∀l:List UInt8,gi (l.map bR)=some l
 | []=>rfl
 | b::l=>by simp only [List.map_cons,bR,gi,vK l,Option.map_some,Int.toNat_natCast];simp
theorem Gc {Z J H0:ag} {n:Nat} (hn:n=Z.length) (hZ:H0.length≤Z.length) {v x:AV} {r ys:List UInt8} (hg:aT n 1 J v (r.map bR)) (hx:cQ (Z++J) (.slice 5) x=some (ys.map bR)) (hb:r.length+ys.length≤2^43) :
 ∃v' J',bA Tryz.prog H0.length (Z++J) #[207,207] v.denil x=some (v',Z++J')∧aT n 1 J' v' ((r++ys).map bR)∧((ys≠[]∨∃b g l,v=.sl b g 1 0 l)→∃b g l,v'=.sl b g 1 0 l):=by
 obtain ⟨v',J',h1,h2,h3⟩:=aT.appendG (P:=Tryz.prog) (base:=H0.length) (Z:=Z) (J:=J) (e:=5) (e':=5) (ts:=#[207,207]) (ys:=ys.map bR) (x:=x) (v:=v) (rows:=r.map bR) (by simp) (by simp) NM P8 (by simp) (by decide) hn hZ hg (by simp) hx (by simp) (by simp;omega)
 exact ⟨v',J',h1,by simpa using h2,by simpa using h3⟩
set_option maxRecDepth 100000 in
set_option maxHeartbeats 4000000 in
theorem yG (S:eP C) (x:List UInt8) (hx:x.length≤2^40) (H:ag) (d L:bQ)
 (hy:∀st J blk K,blk.length=64→aD Tryz.prog C H.length (.yld (H.length+3)) [.str blk] (H++d::.rows 8 0 [gY st]::.rows 1 0 [[.str x]]::L::J) K=K (.bool true) (H++d::.rows 8 0 [gY (nM st blk)]::.rows 1 0 [[.str x]]::L::J))
 (K:AV→ag→Prop) (hK:∀J,K (.tup []) (H++d::.rows 8 0 [gY (qE x)]::.rows 1 0 [[.str x]]::L::J)) :
 dW Tryz.prog C H.length 216 [.yld (H.length+3),.ptr (H.length+2) 0 1 0 0] (H++[d,.rows 8 0 [gY oz],.rows 1 0 [[.str x]],L]) K:=by
 refine am Tryz.func216 rfl (S.prim _ (by decide)) (by simp) (by kernel_rfl) ?_
 unfold Tryz.f216
 obtain ⟨q,hq,hq0,hq1⟩:=uA x
 have hsha:qE x=mP (de x) q:=by rw [qE,hq,show 64*q / 64=q by omega];rfl
 have h0:mP (de x) 0=oz:=rfl
 obtain ⟨w,hw⟩:∃w,w=x.length / 64:=⟨_,rfl⟩
 have d1:∀t,bU Tryz.prog C .quo t (.int .i64 (x.length:Int)) (.int .i64 64)=some (.int .i64 (w:Int)):=fun t=>by
  rw [wW (h:=by decide),Int.tdiv_eq_ediv_of_nonneg (by omega),aK (by omega) (by omega)];congr 2;omega
 obtain ⟨wh,hwh⟩:∃wh,wh=64*w:=⟨_,rfl⟩
 have w1:IntKind.i64.wrap ((w:Int)*64)=(wh:Int):=by rw [aK (by omega) (by omega)];omega
 have hpre:de x=x++(128::List.replicate ((120-(x.length+1) % 64) % 64) 0++cx x.length):=by rw [de];simp
 have hge:x.length≤64*q:=by rw [←hq,hpre];simp
 simp [aG,d1,w1]
 refine az w (fun i s H'=>s 0=.yld (H.length+3)∧s 1=.ptr (H.length+2) 0 1 0 0∧s 3=.int .i64 (wh:Int)∧s 4=.int .i64 ((64*i:Nat):Int)∧H'=H++[d,.rows 8 0 [gY (mP (de x) i)],.rows 1 0 [[.str x]],L]) ?_ ?_
 ·exact ⟨rfl,rfl,rfl,rfl,rfl⟩
 rintro i s H' ⟨e0,e1,e3,e4,rfl⟩ hi
 obtain ⟨j,hj⟩:∃j,j=64*i:=⟨_,rfl⟩
 rw [←hj] at e4
 by_cases h:i<w
 ·have w2:IntKind.i64.wrap ((j:Int)+64)=((j+64:Nat):Int):=by rw [aK (by omega) (by omega)];omega
  have hbl:((x.take (j+64)).drop j)=((de x).drop (64*i)).take 64:=by
   rw [hpre,List.drop_append_of_le_length (by omega),List.take_append_of_le_length (by simp;omega),List.drop_take,hj];congr 1;omega
  have hlen:((x.take (j+64)).drop j).length=64:=by simp;omega
  have hnext:nM (mP (de x) i) ((x.take (j+64)).drop j)=mP (de x) (i+1):=by rw [uS,hbl]
  generalize hj2:j+64=j2 at *
  have cy:=fun K=>hy (mP (de x) i) [] ((x.take j2).drop j) K hlen
  rw [hnext] at cy
  generalize hB:(x.take j2).drop j=B at *
  simp [e0,e1,e3,e4,w2,cX,bJ,show (j:Int)<wh by omega,show (j2:Int)<(x.length:Int)+1 by omega,show (j:Int)<(j2:Int)+1 by omega,hB,cy]
  exact ⟨h,by omega⟩
 have h:i=w:=by omega
 subst h
 obtain ⟨st,hst⟩:∃st,st=mP (de x) i:=⟨_,rfl⟩
 rw [←hst]
 obtain ⟨T,hT⟩:∃T,T=x.drop wh:=⟨_,rfl⟩
 have hTl:T.length=x.length-wh:=by rw [hT];simp
 have hTm:T.map (fun b=>[AV.int .u8 (b.toNat:Int)])=T.map bR:=rfl
 obtain ⟨z,hz⟩:∃z,z=(120-(x.length+1) % 64) % 64:=⟨_,rfl⟩
 have hlast:(de x).drop (64*i)=T++[128]++List.replicate z 0++cx x.length:=by
  rw [hpre,List.drop_append_of_le_length (by omega),←hwh,←hT,←hz];simp
 have hl8:(cx x.length).length=8:=by simp [cx]
 obtain ⟨v1,J1,ha1,hg1,hs1⟩:=Gc (H0:=H) (Z:=H++[d,.rows 8 0 [gY st],.rows 1 0 [[.str x]],L]) (J:=[.rows 1 0 (T.map bR)]) (v:=.sl ((H++[d,bQ.rows 8 0 [gY st],bQ.rows 1 0 [[AV.str x]],L]).length+0) 0 1 0 T.length) (r:=T) (x:=.lst ([128].map bR) true) (ys:=[128]) rfl (by simp) (.inr (.inr ⟨0,0,by simp,rfl⟩)) rfl (by simp;omega)
 have hs1:=hs1 (.inl (by simp))
 simp only [List.append_assoc,List.cons_append,List.nil_append,List.length_append,List.length_cons,List.length_nil,AV.denil,List.map_cons,List.map_nil,bR] at ha1
 have hg1:aT (H.length+4) 1 J1 v1 ((T++[128]).map bR):=by simpa using hg1
 simp at ha1
 simp [e0,e1,e3,e4,show ¬(j:Int)<wh by omega,cX,bJ,show (wh:Int)<(x.length:Int)+1 by omega,←hT,bi,show T.length≤70368744177664 by omega,aj,au]
 have hTm2:(List.map (fun b=>[AV.int IntKind.u8 (b.toNat:Int)]) T)=List.map bR T:=rfl
 rw [hTm2]
 rw [ha1]
 simp [e0,e1]
 have hlenI:∀{J:ag} {v:AV} {r:List UInt8} (_:aT (H.length+4) 1 J v (r.map bR)) (HH:ag),fc Tryz.prog HH 207 v.denil=some (.int .i64 r.length):=fun hg HH=>by
  have:=hg.len (P:=Tryz.prog) (t:=207) (e:=5) (H:=HH) (by simp)
  rwa [List.length_map] at this
 have happ:∀{J:ag} {v:AV} {r:List UInt8} (b:UInt8) (_:aT (H.length+4) 1 J v (r.map bR)) (_:r.length≤2^42),∃v' J',bA Tryz.prog H.length (H++d::.rows 8 0 [gY st]::.rows 1 0 [[.str x]]::L::J) #[207,207] v.denil (.lst [[.int .u8 b.toNat]] true)=some (v',H++d::.rows 8 0 [gY st]::.rows 1 0 [[.str x]]::L::J')∧aT (H.length+4) 1 J' v' ((r++[b]).map bR)∧∃b g l,v'=.sl b g 1 0 l:=by
  intro J v r b hg hr
  obtain ⟨v',J',h1,h2,h3⟩:=Gc (H0:=H) (Z:=H++[d,.rows 8 0 [gY st],.rows 1 0 [[.str x]],L]) (n:=H.length+4) (x:=.lst ([b].map bR) true) (ys:=[b]) (by simp) (by simp) hg rfl (by simp;omega)
  simp only [List.append_assoc,List.cons_append,List.nil_append] at h1
  exact ⟨v',J',h1,h2,h3 (.inl (by simp))⟩
 refine az z (fun k s H'=>s 0=.yld (H.length+3)∧s 1=.ptr (H.length+2) 0 1 0 0∧(∃b g l,s 5=.sl b g 1 0 l)∧∃J,H'=H++d::.rows 8 0 [gY st]::.rows 1 0 [[.str x]]::L::J∧aT (H.length+4) 1 J (s 5) ((T++[128]++List.replicate k 0).map bR)) ?_ ?_
 ·exact ⟨e0,e1,hs1,J1,rfl,by simpa using hg1⟩
 clear e0 e1 e3 e4
 rintro k s H' ⟨e0,e1,hs5,J,rfl,hg⟩ hk
 have hln:=hlenI hg
 obtain ⟨n,hn⟩:∃n,n=(T++[128]++List.replicate k 0).length:=⟨_,rfl⟩
 rw [←hn] at hln
 have hn2:n=T.length+1+k:=by rw [hn];simp;omega
 have hrem:∀t,bU Tryz.prog C .rem t (.int .i64 (n:Int)) (.int .i64 64)=some (.int .i64 ((n:Int) % 64)):=fun t=>by
  rw [pX (h:=by decide),Int.tmod_eq_emod_of_nonneg (by omega)]
 by_cases h:k<z
 ·have hne:¬(n:Int) % 64=56:=by omega
  have hnb:((n:Int) % 64 != 56)=true:=by simpa using hne
  obtain ⟨v',J',ha,hg',hs'⟩:=happ 0 hg (by omega)
  have ha':bA Tryz.prog H.length (H++d::.rows 8 0 [gY st]::.rows 1 0 [[.str x]]::L::J) #[207,207] (s 5).denil (.lst [[.int .u8 0]] true)=some (v',H++d::.rows 8 0 [gY st]::.rows 1 0 [[.str x]]::L::J'):=ha
  have er:T++[128]++List.replicate k 0++[0]=T++[128]++List.replicate (k+1) 0:=by rw [List.replicate_succ'];simp
  rw [er] at hg'
  simp [e0,e1,hln,hrem,hnb,aj,au,ha',h]
  exact ⟨hs',by simpa using hg'⟩
 have h:k=z:=by omega
 subst h
 have hne:(n:Int) % 64=56:=by omega
 have hnb:((n:Int) % 64 != 56)=false:=by simpa using hne
 simp [e0,e1,hln,hrem,hnb]
 generalize hR:T++[128]++List.replicate k 0=R at *
 refine az 8 (fun k s H'=>s 0=.yld (H.length+3)∧s 1=.ptr (H.length+2) 0 1 0 0∧s 6=.int .i64 (56-8*(k:Int))∧(∃b g l,s 5=.sl b g 1 0 l)∧∃J,H'=H++d::.rows 8 0 [gY st]::.rows 1 0 [[.str x]]::L::J∧aT (H.length+4) 1 J (s 5) ((R++(cx x.length).take k).map bR)) ?_ ?_
 ·exact ⟨e0,e1,rfl,hs5,J,rfl,by simpa using hg⟩
 clear e0 e1 hln
 rintro k2 s H' ⟨e0,e1,e6,hs5,J,rfl,hg⟩ hk2
 by_cases h:k2<8
 ·have k56:8*(k2:Int)≤56∧¬56<8*(k2:Int):=by omega
  have w3:IntKind.i64.wrap (56-8*(k2:Int)-8)=56-8*((k2:Int)+1):=by rw [aK (by omega) (by omega)];omega
  have q3:IntKind.u64.wrap ((x.length:Int))=x.length:=IntWalk.u64_in _ (by omega)
  have q4:IntKind.u64.wrap ((x.length:Int)*8)=(x.length:Int)*8:=IntWalk.u64_in _ (by omega)
  obtain ⟨Q,hQ⟩:∃Q:Nat,Q=x.length*8 / 2^(8*(7-k2)):=⟨_,rfl⟩
  have s1:∀t,bU Tryz.prog C .shr t (.int .u64 ((x.length:Int)*8)) (.int .i64 (56-8*(k2:Int)))=some (.int .u64 (Q:Int)):=fun t=>by
   simp only [bU,IntKind.bits]
   rw [if_pos (by omega),hQ]
   have e:min (56-8*(k2:Int)).toNat 64=8*(7-k2):=by omega
   have e2:(((x.length*8:Nat):Int)).fdiv ((2^(8*(7-k2)):Nat):Int)=((x.length*8 / 2^(8*(7-k2)):Nat):Int):=by
    rw [Int.fdiv_eq_ediv_of_nonneg _ (Int.natCast_nonneg _)];rfl
   rw [e,show ((2:Int)^(8*(7-k2)))=((2^(8*(7-k2)):Nat):Int) by simp,show (x.length:Int)*8=((x.length*8:Nat):Int) by omega,e2]
  have hget:(cx x.length)[k2]?=some (UInt8.ofNat Q):=by
   unfold cx
   rw [List.getElem?_map,List.getElem?_range h,hQ,Nat.mod_eq_of_lt (by omega)];rfl
  have et:(cx x.length).take (k2+1)=(cx x.length).take k2++[UInt8.ofNat Q]:=by rw [List.take_add_one,hget];rfl
  have w4:AV.int .u8 (IntKind.u8.wrap (Q:Int))=AV.int .u8 ((UInt8.ofNat Q).toNat:Int):=by
   rw [IntKind.wrap_u8];congr 1
  have hRl:R.length≤2^41:=by rw [←hn,hn2];omega
  obtain ⟨v',J',ha,hg',hs'⟩:=happ (UInt8.ofNat Q) hg (by simp;omega)
  rw [List.append_assoc,←et] at hg'
  have cvi:∀H n,bi Tryz.prog H 3 218 (.int .i64 n)=some (.int .u64 (IntKind.u64.wrap n),H):=fun H n=>by simp [bi]
  have cv8:∀H,bi Tryz.prog H 218 5 (.int .u64 (Q:Int))=some (.int .u8 ((UInt8.ofNat Q).toNat:Int),H):=fun H=>by rw [←w4];simp [bi]
  generalize (UInt8.ofNat Q).toNat=u at *
  simp [e0,e1,e6,k56,h,cvi,cv8,q3,q4,s1,w3,aj,au,ha]
  exact ⟨hs',by simpa using hg'⟩
 have h:k2=8:=by omega
 subst h
 rw [List.take_of_length_le (by omega)] at hg
 simp [e0,e1,e6]
 obtain ⟨F,hF⟩:∃F,F=R++cx x.length:=⟨_,rfl⟩
 rw [←hF] at hg hlast
 have hFl:F.length=64*q-64*i:=by rw [←hlast,List.length_drop,hq]
 obtain ⟨b,g,h5,hb⟩:∃b g,s 5=.sl (H.length+4+b) g 1 0 F.length∧J[b]?=some (.rows 1 g (F.map bR)):=by
  obtain ⟨b0,g0,l0,hs5⟩:=hs5
  rcases hg with ⟨_,h4⟩ | h4 | ⟨b,g,h4,hb⟩
  ·rw [hs5] at h4;cases h4
  ·rw [hs5] at h4;cases h4
  ·exact ⟨b,g,by rw [h4,List.length_map],hb⟩
 have hcv:∀st' lo,lo+64≤F.length→bi Tryz.prog (H++d::.rows 8 0 [gY st']::.rows 1 0 [[.str x]]::L::J) 207 9 (.sl (H.length+4+b) g 1 lo 64)=some (.str ((F.drop lo).take 64),H++d::.rows 8 0 [gY st']::.rows 1 0 [[.str x]]::L::J):=by
  intro st' lo hlo
  have hget:(H++d::.rows 8 0 [gY st']::.rows 1 0 [[.str x]]::L::J)[H.length+4+b]?=some (.rows 1 g (F.map bR)):=by
   rw [show H.length+4+b=H.length+(b+1+1+1+1) by omega,bt]
   simpa using hb
  simp [bi,cF,hget,hlo,←List.map_drop,←List.map_take,vK]
 refine az (q-i) (fun k s H'=>s 0=.yld (H.length+3)∧s 5=.sl (H.length+4+b) g 1 0 F.length∧s 7=.int .i64 ((64*k:Nat):Int)∧H'=H++d::.rows 8 0 [gY (mP (de x) (i+k))]::.rows 1 0 [[.str x]]::L::J) ?_ ?_
 ·exact ⟨e0,h5,rfl,by rw [hst];rfl⟩
 clear e0 e1 e6 h5 hs5
 rintro k s H' ⟨e0,e5,e7,rfl⟩ hk
 obtain ⟨m,hm⟩:∃m,m=64*k:=⟨_,rfl⟩
 rw [←hm] at e7
 by_cases h:k<q-i
 ·have w2:IntKind.i64.wrap ((m:Int)+64)=((m+64:Nat):Int):=by rw [aK (by omega) (by omega)];omega
  have hbl:(F.drop m).take 64=((de x).drop (64*(i+k))).take 64:=by rw [←hlast,List.drop_drop,hm];congr 2;omega
  have hbl2:((F.drop m).take 64).length=64:=by simp;omega
  have cy:=fun K=>hy (mP (de x) (i+k)) J ((F.drop m).take 64) K hbl2
  have hnext:nM (mP (de x) (i+k)) ((F.drop m).take 64)=mP (de x) (i+(k+1)):=by rw [show i+(k+1)=(i+k)+1 by omega,uS,hbl]
  rw [hnext] at cy
  have cc:=hcv (mP (de x) (i+k)) m (by omega)
  generalize (F.drop m).take 64=B at *
  obtain ⟨m2,hm2⟩:∃m2,m2=m+64:=⟨_,rfl⟩
  rw [←hm2] at w2
  have hsl:∀t,cX Tryz.prog 207 (.sl (H.length+4+b) g 1 0 F.length) (some (.int .i64 (m:Int))) (some (.int .i64 (m2:Int))) t=(match t with | none=>some (.sl (H.length+4+b) g 1 m 64) | some _=>cX Tryz.prog 207 (.sl (H.length+4+b) g 1 0 F.length) (some (.int .i64 (m:Int))) (some (.int .i64 (m2:Int))) t):=by
   intro t
   cases t with
   | some t=>rfl
   | none =>
    have hne:¬m2=m:=by omega
    have hlen:m2-m=64:=by omega
    simp [cX,bJ,show (m2:Int)<(F.length:Int)+1 by omega,show (m:Int)<(m2:Int)+1 by omega,hne,hlen]
  simp [e0,e5,e7,w2,show m<F.length by omega,hsl,cc,cy]
  exact ⟨h,by omega⟩
 have h:k=q-i:=by omega
 subst h
 have hfin:qE x=mP (de x) (i+(q-i)):=by rw [hsha];congr 1;omega
 have hK':=hK J
 rw [hfin] at hK'
 simp [e0,e5,e7,show ¬m<F.length by omega]
 exact hK'
end Go.Proofs.Ev
namespace Go.Proofs.Ev
open Go.Proofs
variable {C:bG}
set_option maxRecDepth 100000 in
set_option maxHeartbeats 4000000 in
theorem H6 (S:eP C) (x:List UInt8) (hx:x.length≤2^40):cE Tryz.prog C 79 [] [.str x] (.agg (dig (AQ x))):=by
 refine aB (S.pureA _ (by decide)) fun H=>am Tryz.func79 rfl (S.prim _ (by decide)) (by simp) (by kernel_rfl) ?_
 unfold Tryz.f79
 have ci:=(Ap S).eq
 have hT:∀v:vz,List.take 8 (gY v)=gY v:=fun v=>rfl
 have hl8:∀v:vz,(gY v).length=8:=fun v=>rfl
 have hD8:∀v:vz,List.drop 8 (gY v)=[]:=fun v=>rfl
 have f8:∀v:vz,(gY v).all AV.leaf=true:=fun v=>rfl
 have cb:=fun (H':ag) hb K=>DY S x (base:=H.length) (H:=H') hb K
 refine cut (fun s H'=>s 0=.str x∧s 2=.ptr H.length 0 32 0 0∧H'=H++[.rows 32 0 [dig aP]]) ?_ ?_
 ·simp [aG]
  rfl
 rintro s H' ⟨e0,e2,rfl⟩
 refine cut (fun s H'=>s 0=.str x∧s 2=.ptr H.length 0 32 0 0∧s 3=.ptr (H.length+1) 0 8 0 0∧H'=H++[.rows 32 0 [dig aP],.rows 8 0 [gY oz]]) ?_ ?_
 ·simp [e0,e2,ci,ao,hT,hl8]
  exact fun v hv=>List.all_eq_true.1 (f8 oz) v hv
 rintro s H' ⟨e0,e2,e3,rfl⟩
 refine cut (fun s H'=>s 2=.ptr H.length 0 32 0 0∧s 3=.ptr (H.length+1) 0 8 0 0∧∃J,H'=H++.rows 32 0 [dig aP]::.rows 8 0 [gY (qE x)]::J) ?_ ?_
 ·refine cut (fun s' H'=>s' 2=.ptr H.length 0 32 0 0∧s' 3=.ptr (H.length+1) 0 8 0 0∧s' 11=.fn 216 [.ptr (H.length+2) 0 1 0 0]∧H'=H++[.rows 32 0 [dig aP],.rows 8 0 [gY oz],.rows 1 0 [[.str x]]]) ?_ ?_
  ·simp [e0,e2,e3]
   rw [cb _ (by simp)]
   simp [e2,e3]
  clear e2 e3
  rintro s H' ⟨e2,e3,e11,rfl⟩
  rw [cq,nR]
  refine il (f:=216) (caps:=[.ptr (H.length+2) 0 1 0 0]) (by simp [e11]) fun l hr=>?_
  have hlen:(H++[bQ.rows 32 0 [dig aP],bQ.rows 8 0 [gY oz],bQ.rows 1 0 [[AV.str x]]]).length=H.length+3:=by simp
  simp only [hlen,List.append_assoc,List.cons_append,List.nil_append]
  refine yG S x hx H _ _ ?_ _ ?_
  ·intro st J blk K hb
   have cc:=(xW S st blk hb).eq
   refine aD.eq (ir hr (hget:=(bt H _ 3).trans rfl) (by omega) rfl (by decide) (by kernel_rfl) (by kernel_rfl) ?_) K
   simp [e3,cc,ao,hT,hl8,hD8]
   exact ⟨fun v hv=>List.all_eq_true.1 (f8 _) v hv,rfl⟩
  ·intro J
   rw [gf ((bt H _ 3).trans rfl)]
   simp [e2,e3]
 rintro s H' ⟨e2,e3,J,rfl⟩
 have hsl:AQ x=sL (qE x).list:=rfl
 rw [hsl]
 obtain ⟨v,hv⟩:∃v,v=qE x:=⟨_,rfl⟩
 rw [←hv]
 obtain ⟨D,hDd⟩:∃D,D=sL v.list:=⟨_,rfl⟩
 have hD:D.length=32:=by rw [hDd];simp [sL]
 have hDat:∀k,k<32→D[k]?=some (((v.list.getD (k / 4) 0 >>> (24-8*(k % 4))).toNat) % 256):=by
  intro k hk
  rw [hDd,sL,List.getElem?_map,List.getElem?_range hk]
  simp [BitVec.toNat_ushiftRight,Nat.shiftRight_eq_div_pow]
 have hVat:∀k,k<8→(gY v)[k]?=some (bW (v.list.getD k 0)):=by
  intro k hk
  rw [uT,List.getElem?_map,List.getD_eq_getElem?_getD,List.getElem?_eq_getElem (show k<v.list.length from hk)];rfl
 rw [←hDd]
 have l8:=hl8 v
 have t8:=hT v
 clear hDd hv
 generalize gY v=V at *
 generalize v.list=L at *
 simp [e2,e3,l8,t8]
 refine ⟨rfl,?_⟩
 refine az 8 (fun i s H'=>∃J,s 2=.ptr H.length 0 32 0 0∧s 5=.ptr (H.length+(J.length+1+1)) 0 32 0 0∧s 16=.agg V∧s 17=.int .i64 i∧H'=H++.rows 32 0 [dig aP]::.rows 8 0 [V]::(J++[.rows 32 0 [rd D (4*i)]])) ?_ ?_
 ·exact ⟨J,e2,rfl,rfl,rfl,rfl⟩
 clear e2 e3
 rintro i s H' ⟨J,e2,e5,e16,e17,rfl⟩ hi
 by_cases h:i<8
 ·have hVi:=hVat i h
  generalize hx0:L.getD i 0=X at *
  simp [e2,e5,e16,e17,show (i:Int)<8 by omega,h,lf,nC,hVi]
  refine ⟨by omega,?_⟩
  refine az 4 (fun k s H'=>s 2=.ptr H.length 0 32 0 0∧s 5=.ptr (H.length+(J.length+1+1)) 0 32 0 0∧s 16=.agg V∧s 17=.int .i64 i∧s 6=.int .i64 i∧s 7=bW X∧s 21=.int .i64 k∧H'=H++.rows 32 0 [dig aP]::.rows 8 0 [V]::(J++[.rows 32 0 [rd D (4*i+k)]])) ?_ ?_
  ·exact ⟨e2,e5,e16,e17,rfl,rfl,rfl,rfl⟩
  clear e2 e5 e16 e17
  rintro k s H' ⟨e2,e5,e16,e17,e6,e7,e21,rfl⟩ hk
  have hl:=yU (D:=D) (i:=4*i+k) hD (by omega)
  by_cases hk4:k<4
  ·obtain ⟨m,hm⟩:∃m,m=4*i+k:=⟨_,rfl⟩
   obtain ⟨m4,hm4⟩:∃m4,m4=4*i:=⟨_,rfl⟩
   obtain ⟨b,hb⟩:∃b,b=24-8*k:=⟨_,rfl⟩
   obtain ⟨k8,hk8⟩:∃k8,k8=8*k:=⟨_,rfl⟩
   have w1:IntKind.i64.wrap (4*(i:Int))=(m4:Int):=by rw [aK (by omega) (by omega)];omega
   have w2:IntKind.i64.wrap ((m4:Int)+(k:Int))=(m:Int):=by rw [aK (by omega) (by omega)];omega
   have w3:IntKind.i64.wrap (8*(k:Int))=(k8:Int):=by rw [aK (by omega) (by omega)];omega
   have w4:IntKind.i64.wrap (24-(k8:Int))=(b:Int):=by rw [aK (by omega) (by omega)];omega
   have hDk:=hDat m (by omega)
   rw [show m / 4=i by omega,show m % 4=k by omega,←hb,hx0] at hDk
   have sh:=fun t=>sw (P:=Tryz.prog) (C:=C) t X .i64 b (by omega)
   have cv:∀H,bi Tryz.prog H 216 5 (bW (X >>> b))=some (.int .u8 (((X >>> b).toNat % 256:Nat):Int),H):=fun H=>by
    simp [bi,bW,IntKind.wrap_u8]
   have hset:=yV hD (show m<32 by omega) hDk
   rw [←hm] at hl ⊢
   generalize hn:(X >>> b).toNat % 256=n at *
   have G7:(m:Int)<32∧m<32∧m+1≤32:=by omega
   simp [e2,e5,e16,e17,e6,e7,e21,show (k:Int)<4 by omega,hk4,w1,w2,w3,w4,sh,cv,G7,ao,hl,hset,ay hk4 (by decide)]
   congr 1;omega
  ·have hk':k=4:=by omega
   subst hk'
   simp [e2,e5,e16,e17,e6,e7,e21,h,ay h (by decide)]
   exact ⟨J,rfl,rfl,by congr 1⟩
 ·have h':i=8:=by omega
  subst h'
  have e32:rd D (4*8)=dig D:=by simp [rd,List.take_of_length_le,hD]
  rw [e32]
  have d0:(dig aP).length=32:=rfl
  simp [e2,e5,e16,e17,ao,hD,List.take_of_length_le,show aP.length=32 from rfl]
  have dd:List.drop 32 (dig aP)=[]:=rfl
  rw [dd,List.append_nil]
  exact aq (v:=.agg (dig D)) (gk D)
end Go.Proofs.Ev
namespace Go.Proofs.Ev
open Go.Proofs
variable {C:bG}
structure d8 (C:bG):Prop extends eP C where
 copy:∀{base:Nat} {H:ag} {b:Nat} {a v:AV},base≤b→H[b]?=some (.rows 2 1 [[a,v]])→(a=.nilp∨a=.ptr b 1 2 0 0)→∀K:AV→ag→Prop,
  aD Tryz.prog C base (.fn 392 []) [.ptr b 1 2 0 0] H K=K (.tup []) (H.set b (.rows 2 1 [[.ptr b 1 2 0 0,v]]))
 str:∀{base:Nat} {H:ag} {b:Nat} {a v:AV} {l:List UInt8},base≤b→H[b]?=some (.rows 2 1 [[a,v]])→l≠[]→l.length≤2^60→(∃b' g',v=.sl b' g' 1 0 l.length∧base≤b'∧g' % 4=2∧H[b']?=some (.rows 1 g' (l.map bR)))→∃H',∀K:AV→ag→Prop,
  aD Tryz.prog C base (.fn 338 []) [.ptr b 1 2 0 0] H K=K (.str l) H'
 itoa:∀n:Int,-(2^62)≤n→n≤2^62→∀base H (K:AV→ag→Prop),aD Tryz.prog C base (.fn 155 []) [.int .i64 n] H K=K (.str (m6 n)) H
 pureD:∀f,f∈[335,374,336]→C.pure f=true
 frzD:∀f,f∈[279]→C.pure f=false∧C.frz f=true
 plainD:∀f,f∈[337,373,375,376,392,338]→C.pure f=false∧C.frz f=false
theorem HW (S:d8 C) (n:Int):cE Tryz.prog C 335 [] [.int .i64 n] (.tup [.agg (fO n).cells,.int .i64 (if n < -1099511627776∨1099511627776<n then 2 else 0)]):=by
 refine aB (S.pureD _ (by decide)) fun H=>am Tryz.func335 rfl (S.prim _ (by decide)) (by simp) (by kernel_rfl) ?_
 unfold Tryz.f335
 rw [us]
 by_cases h:n < -1099511627776∨1099511627776<n
 ·rw [if_pos h,if_pos h]
  by_cases h1:n < -1099511627776
  ·simp [aG,an,ao,aE,h1]
   simp [aq,AV.closed,AV.closeds]
  ·have h2:1099511627776<n:=by omega
   simp [aG,an,ao,aE,h1,h2]
   simp [aq,AV.closed,AV.closeds]
 ·rw [if_neg h,if_neg h]
  have e1:=S.itoa n (by omega) (by omega)
  simp [aG,an,e1,ao,aE,show ¬n < -1099511627776 by omega,show ¬(1099511627776:Int)<n by omega]
  simp [aq,AV.closed,AV.closeds]
set_option maxRecDepth 100000 in
set_option maxHeartbeats 2000000 in
theorem wD (S:d8 C):∀(n:Nat) (x:SX),x.nodes≤n→n≤2^60→cE Tryz.prog C 374 [] [.agg x.cells] (.int .i64 x.chk)
 | 0,x,h,_=>by have:=x.nodes_pos;omega
 | n+1,.mk b a l k,hn,hn2=>by
  have ih:=wD S n
  refine aB (S.pureD _ (by decide)) fun H=>am Tryz.func374 rfl (S.prim _ (by decide)) (by simp) (by kernel_rfl) ?_
  unfold Tryz.f374
  rw [SX.nodes] at hn
  have hll:=SX.length_le l
  rw [SX.cells,SX.rows_map]
  cases b with
  | false =>
   rw [SX.chk]
   by_cases h1:0<l.length
   ·simp [aG,an,h1]
   ·have hl0:l=[]:=List.length_eq_zero_iff.1 (by omega)
    subst hl0
    by_cases h2:65536<a.length
    ·simp [aG,an,h2,show (65536:Int)<a.length by omega]
    ·simp [aG,an,h2,show ¬(65536:Int)<a.length by omega]
     refine az 0 (fun i s H'=>H'=H++[.rows 3 0 [[.bool false,.str a,aw k []]]]∧s 32=.int .i64 0∧s 33=.int .i64 0) ?_ ?_
     ·exact ⟨rfl,rfl,rfl⟩
     rintro i s H' ⟨rfl,e1,e3⟩ hi
     simp [e1,e3]
  | true =>
   by_cases ha:a=[]
   ·subst ha
    have hx:(SX.mk true [] l k).chk=SX.chks l:=rfl
    rw [hx]
    simp [aG,an]
    refine az l.length (fun i s H'=>(∃J,H'=H++J)∧s 31=aw k (l.map SX.cells)∧s 32=.int .i64 l.length∧s 33=.int .i64 i∧SX.chks l=SX.chks (l.drop i)) ?_ ?_
    ·exact ⟨⟨_,rfl⟩,rfl,rfl,rfl,rfl⟩
    rintro i s H' ⟨⟨J,rfl⟩,e1,e2,e3,hc⟩ hi
    by_cases h:i<l.length
    ·rw [List.drop_eq_getElem_cons h,SX.chks] at hc
     have hno:=SX.nodes_mem (List.getElem_mem h)
     have c1:=(ih l[i] (by omega) (by omega)).eq
     by_cases h0:l[i].chk=0
     ·rw [if_neg (by simpa using h0)] at hc
      simp [e3,e1,e2,h,h0,c1,ay h (by omega),ao,aE]
      exact hc
     ·rw [if_pos h0] at hc
      simp [e3,e1,e2,h,h0,c1,hc,ao,aE]
    ·have h':i=l.length:=by omega
     subst h'
     rw [List.drop_length,SX.chks] at hc
     simp [e3,e1,e2,hc]
   ·have hx:(SX.mk true a l k).chk=1:=by rw [SX.chk,if_pos ha]
    have ha':a.isEmpty=false:=by cases a with | nil=>exact absurd rfl ha | cons=>rfl
    simp [aG,an,ha',hx]
def fl (sz:Nat) (J J':ag):Prop:=∀(k:Nat) (blk:bQ),J[k]?=some blk→(∀g rs,blk≠bQ.rows sz g rs)→J'[k]?=some blk
theorem aT.appendP {P:Program} {base:Nat} {ts:Array TypeId} {e:TypeId} {xd:TypeDesc} {sz by_:Nat} (h0:(ts[0]?).bind P.underlying=some (.slice e)) (h1:(ts[1]?).bind P.underlying=some xd) (hs:bF P e=some sz) (hb:bytesOf P e=some by_)
 (hz:(aQ P e).map (fun z=>z.cells.length)=some sz) (hp:0<sz) {n:Nat} {Z J:ag} (hn:n=Z.length) (hY:base≤Z.length) {v x:AV} {rows ys:List (List AV)} (hg:aT n sz J v rows) (hr:∀r∈rows,r.length=sz)
 (hx:cQ (Z++J) xd x=some ys) (hy:∀r∈ys,r.length=sz) (hbound:(rows.length+ys.length)*(by_+1)≤2^45) :
 ∃v' J',bA P base (Z++J) ts v.denil x=some (v',Z++J')∧aT n sz J' v' (rows++ys)∧fl sz J J':=by
 subst hn
 have hc:(ys.all fun r=>decide (r.length=sz))=true:=by simpa using hy
 have hd:(rows.all fun r=>decide (r.length=sz))=true:=by simpa using hr
 have stay:∀(L:ag) (k:Nat) (blk:bQ),J[k]?=some blk→(J++L)[k]?=some blk:=fun L k blk h=>by rw [List.getElem?_append_left (List.getElem?_eq_some_iff.1 h).1];exact h
 unfold bA
 simp only [h0,h1,hs,hb,hx,hc,hp,hz,and_self,if_true]
 rcases hg with ⟨rfl,rfl⟩ | rfl | ⟨b,g,rfl,hb⟩
 ·simp only [AV.denil]
  by_cases he:ys=[]
  ·subst he
   exact ⟨.lst [] true,J,by simp,.lst [],fun _ _ h _=>h⟩
  ·rw [if_neg (by simpa using he),if_pos ⟨trivial,by simpa using hbound,by simp⟩]
   exact ⟨_,J++[.rows sz (c8 P e sz) ys],by simp;rfl,.inr (.inr ⟨J.length,c8 P e sz,by simp,by simp⟩),fun k blk h _=>stay _ k blk h⟩
 ·simp only [AV.denil]
  by_cases he:ys=[]
  ·subst he
   exact ⟨.lst rows true,J,by simp,by rw [List.append_nil];exact .lst rows,fun _ _ h _=>h⟩
  ·rw [if_neg (by simpa using he),if_pos ⟨trivial,hbound,hd⟩]
   exact ⟨_,J++[.rows sz (c8 P e sz) (rows++ys)],by simp;rfl,.inr (.inr ⟨J.length,c8 P e sz,by simp,by simp⟩),fun k blk h _=>stay _ k blk h⟩
 ·have hlt:b<J.length:=(List.getElem?_eq_some_iff.1 hb).1
  have hg:(Z++J)[Z.length+b]?=some (.rows sz g rows):=by rw [bt];exact hb
  simp only [AV.denil,hg]
  rw [if_pos ⟨by omega,trivial,trivial,trivial,trivial,hbound⟩]
  refine ⟨_,J.set b (.rows sz (fm P e sz g) (rows++ys)),by rw [pR],.inr (.inr ⟨b,fm P e sz g,by simp,by simp [hlt]⟩),fun k blk h hne=>?_⟩
  rw [List.getElem?_set_ne]
  ·exact h
  ·rintro rfl
   rw [hb] at h;cases h
   exact hne _ _ rfl
def LH (v:AV):Prop:=v=.nils∨v=.lst [] true∨∃b g l,v=.sl b g 1 0 l∧g % 4=2
theorem Ja {base:Nat} {H H':ag} {ts:Array TypeId} {v x v':AV} (h0:(ts[0]?).bind (Tryz.prog).underlying=some (.slice 5)) (h:bA Tryz.prog base H ts v.denil x=some (v',H')) (hv:LH v):LH v':=by
 have c1:c8 Tryz.prog 5 1=2:=by kernel_rfl
 unfold bA at h
 rw [h0] at h
 split at h
 ·rename_i elem xd hu hx
  cases hu
  simp only [NM,P8] at h
  split at h
  ·split at h
   ·rcases hv with rfl | rfl | ⟨b,g,l,rfl,hg⟩
    ·simp only [AV.denil] at h
     split at h
     ·cases h;exact .inr (.inl rfl)
     ·split at h
      ·cases h;exact .inr (.inr ⟨_,_,_,rfl,by rw [c1]⟩)
      ·cases h
    ·simp only [AV.denil] at h
     split at h
     ·cases h;exact .inr (.inl rfl)
     ·split at h
      ·cases h;exact .inr (.inr ⟨_,_,_,rfl,by rw [c1]⟩)
      ·cases h
    ·simp only [AV.denil] at h
     split at h
     ·split at h
      ·cases h;exact .inr (.inr ⟨_,_,_,rfl,by unfold fm;rw [if_pos ⟨hg,c1⟩];omega⟩)
      ·cases h
     ·cases h
   ·cases h
  ·cases h
 ·cases h
def i6 (n sz:Nat) (J:ag) (v:AV) (rows:List (List AV)):Prop:=aT n sz J v rows∧LH v
theorem i6.nils {n sz:Nat} {J:ag}:i6 n sz J .nils []:=⟨.nils,.inl rfl⟩
theorem i6.app {n sz:Nat} {J:ag} {v:AV} {rows:List (List AV)} (h:i6 n sz J v rows) (L:ag):i6 n sz (J++L) v rows:=⟨h.1.app L,h.2⟩
theorem i6.cellv {n sz:Nat} {J:ag} {v:AV} {rows:List (List AV)} (h:i6 n sz J v rows):v.cells=[v]:=h.1.cellv
theorem i6.leafv {n sz:Nat} {J:ag} {v:AV} {rows:List (List AV)} (h:i6 n sz J v rows):v.leaf=true:=h.1.leafv
theorem Gb {Z J:ag} {base n:Nat} (hn:n=Z.length) (hZ:base≤Z.length) {v x:AV} {r ys:List UInt8} {ts:Array TypeId} {xd:TypeDesc} (h0:(ts[0]?).bind (Tryz.prog).underlying=some (.slice 5)) (h1:(ts[1]?).bind (Tryz.prog).underlying=some xd)
 (hg:i6 n 1 J v (r.map bR)) (hx:cQ (Z++J) xd x=some (ys.map bR)) (hb:r.length+ys.length≤2^43) :
 ∃v' J',bA Tryz.prog base (Z++J) ts v.denil x=some (v',Z++J')∧i6 n 1 J' v' ((r++ys).map bR)∧fl 1 J J':=by
 obtain ⟨v',J',a1,a2,a3⟩:=aT.appendP (P:=Tryz.prog) (base:=base) (rows:=r.map bR) (ys:=ys.map bR) h0 h1 NM P8 (by simp) (by decide) hn hZ hg.1 (by simp) hx (by simp) (by simp;omega)
 exact ⟨v',J',a1,⟨by simpa using a2,Ja h0 a1 hg.2⟩,a3⟩
def dD (Z:ag):AV:=.ptr Z.length 1 2 0 0
theorem LF (S:d8 C) {Z J:ag} {base:Nat} (hZ:base≤Z.length) {a v:AV} (ha:a=.nilp∨a=dD Z) {r x:List UInt8} (hg:i6 (Z.length+1) 1 J v (r.map bR)) (hb:r.length+x.length≤2^43) :
 ∃v' J',i6 (Z.length+1) 1 J' v' ((r++x).map bR)∧fl 1 J J'∧
  ∀K:AV→ag→Prop,aD Tryz.prog C base (.fn 375 []) [dD Z,.str x] (Z++.rows 2 1 [[a,v]]::J) K=K (.tup [.int .i64 x.length,.undef]) (Z++.rows 2 1 [[dD Z,v']]::J'):=by
 obtain ⟨v',J',h1,h2,h3⟩:=Gb (base:=base) (Z:=Z++[bQ.rows 2 1 [[dD Z,v]]]) (n:=Z.length+1) (ts:=#[207,9]) (x:=.str x) (ys:=x) (xd:=.string) (by simp) (by simp;omega) (by simp) (by simp) hg rfl hb
 refine ⟨v',J',h2,h3,fun K=>aD.eq (bn (S.plainD _ (by decide)).1 (S.plainD _ (by decide)).2 (am Tryz.func375 rfl (S.prim _ (by decide)) (by simp) (by kernel_rfl) ?_)) K⟩
 unfold Tryz.f375
 have cc:=S.copy (base:=base) (H:=Z++bQ.rows 2 1 [[a,v]]::J) (b:=Z.length) (a:=a) (v:=v) hZ (by simp) (by rcases ha with h | h;exact .inl h;exact .inr h)
 simp only [List.append_assoc,List.cons_append,List.nil_append] at h1
 simp only [dD] at h1 h2
 simp at cc
 simp [aG,dD,cc,h1,ao,aE]
 exact ⟨⟨hZ,by rw [h2.cellv];rfl,by rw [h2.cellv];simpa using h2.leafv⟩,rfl,h2.cellv⟩
theorem IR (S:d8 C) {Z J:ag} {base:Nat} (hZ:base≤Z.length) {a v:AV} (ha:a=.nilp∨a=dD Z) {r:List UInt8} {x:UInt8} (hg:i6 (Z.length+1) 1 J v (r.map bR)) (hb:r.length+1≤2^43) :
 ∃v' J',i6 (Z.length+1) 1 J' v' ((r++[x]).map bR)∧fl 1 J J'∧
  ∀K:AV→ag→Prop,aD Tryz.prog C base (.fn 376 []) [dD Z,.int .u8 x.toNat] (Z++.rows 2 1 [[a,v]]::J) K=K .undef (Z++.rows 2 1 [[dD Z,v']]::J'):=by
 obtain ⟨v',J',h1,h2,h3⟩:=Gb (base:=base) (Z:=Z++[bQ.rows 2 1 [[dD Z,v]]]) (n:=Z.length+1) (ts:=#[207,207]) (x:=.lst [[.int .u8 x.toNat]] true) (ys:=[x]) (xd:=.slice 5) (by simp) (by simp;omega) (by simp) (by simp) hg rfl hb
 refine ⟨v',J',h2,h3,fun K=>aD.eq (bn (S.plainD _ (by decide)).1 (S.plainD _ (by decide)).2 (am Tryz.func376 rfl (S.prim _ (by decide)) (by simp) (by kernel_rfl) ?_)) K⟩
 unfold Tryz.f376
 have cc:=S.copy (base:=base) (H:=Z++bQ.rows 2 1 [[a,v]]::J) (b:=Z.length) (a:=a) (v:=v) hZ (by simp) (by rcases ha with h | h;exact .inl h;exact .inr h)
 simp only [List.append_assoc,List.cons_append,List.nil_append] at h1
 simp only [dD] at h1 h2
 simp at cc
 simp [aG,dD,cc,h1,ao,aE,aj,au]
 exact ⟨⟨hZ,by rw [h2.cellv];rfl,by rw [h2.cellv];simpa using h2.leafv⟩,rfl,h2.cellv⟩
theorem aD.ex {P:Program} {base:Nat} {f:AV} {args:List AV} {H:ag} {v:AV} {Q:ag→Prop} (h:aD P C base f args H fun v' H'=>v'=v∧Q H'):∃H',Q H'∧∀K:AV→ag→Prop,aD P C base f args H K=K v H':=by
 obtain ⟨n,v1,H1,h1,rfl,h2⟩:=h
 exact ⟨H1,h2,fun K=>aD.eq ⟨n,v1,H1,h1,rfl,rfl⟩ K⟩
theorem fl.trans {sz:Nat} {J J' J'':ag} (h:fl sz J J') (h':fl sz J' J''):fl sz J J'':=fun k blk hk hb=>h' k blk (h k blk hk hb) hb
theorem fl.app {sz:Nat} (J L:ag):fl sz J (J++L):=fun k blk h _=>by rw [List.getElem?_append_left (List.getElem?_eq_some_iff.1 h).1];exact h
def P0 (Z J:ag) (r ys:List UInt8) (H':ag):Prop:=∃v' J',i6 (Z.length+1) 1 J' v' ((r++ys).map bR)∧fl 1 J J'∧H'=Z++.rows 2 1 [[dD Z,v']]::J'
set_option maxRecDepth 100000 in
set_option maxHeartbeats 2000000 in
theorem vS (S:d8 C):∀(n:Nat) (x:SX),x.nodes≤n→n≤2^40→x.chk=0→∀(Z J:ag) (base:Nat),base≤Z.length→∀(a v:AV),a=.nilp∨a=dD Z→∀(r:List UInt8),i6 (Z.length+1) 1 J v (r.map bR)→r.length+x.enc.length≤2^43→
 ∃H',P0 Z J r x.enc H'∧∀K:AV→ag→Prop,aD Tryz.prog C base (.fn 337 []) [dD Z,.agg x.cells] (Z++.rows 2 1 [[a,v]]::J) K=K (.tup []) H'
 | 0,x,h,_,_=>by have:=x.nodes_pos;omega
 | n+1,.mk b at_ l k,hn,hn2,hk=>by
  intro Z J base hZ a v ha r hg hb
  have ih:=fun x h1 h2=>vS S n x h1 (by omega) h2
  refine aD.ex (bn (S.plainD _ (by decide)).1 (S.plainD _ (by decide)).2 (am Tryz.func337 rfl (S.prim _ (by decide)) (by simp) (by kernel_rfl) ?_))
  unfold Tryz.f337
  rw [SX.nodes] at hn
  have hll:=SX.length_le l
  rw [SX.cells,SX.rows_map]
  cases b with
  | false =>
   rw [SX.chk] at hk
   have hl0:l=[]:=by
    cases l with
    | nil=>rfl
    | cons x l=>simp at hk
   subst hl0
   have hal:at_.length≤65536:=by
    rcases Nat.lt_or_ge 65536 at_.length with h | h
    ·simp [h] at hk
    ·exact h
   have hx:(SX.mk false at_ [] k).enc=ld at_.length++58::at_:=rfl
   rw [hx] at hb ⊢
   simp only [List.length_append,List.length_cons] at hb
   have e0:=S.itoa at_.length (by omega) (by omega)
   have hdI:m6 (at_.length:Int)=ld at_.length:=by
    rw [m6,if_neg (by omega)];rfl
   rw [hdI] at e0
   obtain ⟨v1,J1,g1,s1,e1⟩:=LF S (x:=ld at_.length) hZ ha (hg.app [.rows 3 0 [[.bool false,.str at_,aw k []]]]) (by omega)
   obtain ⟨v2,J2,g2,s2,e2⟩:=IR S (x:=58) hZ (.inr rfl) g1 (by simp;omega)
   obtain ⟨v3,J3,g3,s3,e3⟩:=LF S (x:=at_) hZ (.inr rfl) g2 (by simp;omega)
   have b2:=(s1.trans s2) J.length (.rows 3 0 [[.bool false,.str at_,aw k []]]) (by simp) (by intro g rs h;cases h)
   simp only [dD,show ((58:UInt8).toNat:Int)=58 from rfl] at e1 e2 e3
   have b3:ax J2 J.length 0 3 0=some [.bool false,.str at_,aw k []]:=by simp [ax,b2]
   simp [aG,dD,e0,e1,e2,e3,b3]
   exact ⟨v3,J3,by simpa using g3,((fl.app J _).trans s1).trans (s2.trans s3),rfl⟩
  | true =>
   rw [SX.chk] at hk
   have ha0:at_=[]:=by
    by_cases ha:at_=[]
    ·exact ha
    ·simp [ha] at hk
   subst ha0
   have hk:SX.chks l=0:=by simpa using hk
   have hx:(SX.mk true [] l k).enc=40::SX.encs l++[41]:=rfl
   rw [hx] at hb ⊢
   simp only [List.length_append,List.length_cons,List.length_nil] at hb
   obtain ⟨v1,J1,g1,s1,e1⟩:=IR S (x:=40) hZ ha (hg.app [.rows 3 0 [[.bool true,.str [],aw k (l.map SX.cells)]]]) (by omega)
   have b1:=s1 J.length (.rows 3 0 [[.bool true,.str [],aw k (l.map SX.cells)]]) (by simp) (by intro g rs h;cases h)
   simp only [dD,show ((40:UInt8).toNat:Int)=40 from rfl] at e1
   have b3:ax J1 J.length 0 3 0=some [.bool true,.str [],aw k (l.map SX.cells)]:=by simp [ax,b1]
   simp [aG,dD,e1,b3]
   refine az l.length (fun i s H'=>s 0=dD Z∧s 24=aw k (l.map SX.cells)∧s 25=.int .i64 l.length∧s 26=.int .i64 i∧∃v' J',i6 (Z.length+1) 1 J' v' ((r++40::SX.encs (l.take i)).map bR)∧fl 1 J J'∧H'=Z++.rows 2 1 [[dD Z,v']]::J') ?_ ?_
   ·exact ⟨rfl,rfl,rfl,rfl,v1,J1,by simpa [SX.encs] using g1,(fl.app J _).trans s1,rfl⟩
   rintro i s H' ⟨q0,q1,q2,q3,v2,J2,g2,s2,rfl⟩ hi
   by_cases h:i<l.length
   ·have hno:=SX.nodes_mem (List.getElem_mem h)
    have hc0:=SX.chks_mem hk (List.getElem_mem h)
    have et:l.take (i+1)=l.take i++[l[i]]:=by rw [List.take_add_one,List.getElem?_eq_getElem h];rfl
    have hle:(SX.encs (l.take (i+1))).length≤(SX.encs l).length:=by
     conv=>rhs;rw [←List.take_append_drop (i+1) l]
     rw [SX.encs_append,List.length_append];omega
    rw [et,SX.encs_append,List.length_append] at hle
    simp only [SX.encs,List.append_nil] at hle
    obtain ⟨H3,⟨v3,J3,g3,s3,rfl⟩,e3⟩:=ih l[i] (by omega) hc0 Z (J2++[.rows 3 0 [l[i].cells]]) base hZ _ v2 (.inr rfl) _ (g2.app _) (by simp;omega)
    simp only [dD] at e3
    simp [q0,q1,q2,q3,h,ao,aE,dD,e3,ay h (by omega)]
    refine ⟨by omega,v3,J3,?_,s2.trans ((fl.app J2 _).trans s3),rfl,rfl⟩
    rw [et,SX.encs_append]
    simpa [SX.encs] using g3
   ·have h':i=l.length:=by omega
    subst h'
    rw [List.take_length] at g2
    obtain ⟨v3,J3,g3,s3,e3⟩:=IR S (x:=41) hZ (.inr rfl) g2 (by simp;omega)
    simp only [dD,show ((41:UInt8).toNat:Int)=41 from rfl] at e3
    simp [q0,q1,q2,q3,dD,e3]
    exact ⟨v3,J3,by simpa using g3,s2.trans s3,rfl⟩
end Go.Proofs.Ev
namespace Go.Proofs.Ev
open Go.Proofs
variable {C:bG}
mutual
def SX.ms:SX→Int→Int→Bool→Int×Bool
 | .mk b _ l _,lv,c,o=>if b then SX.mss l lv (c+1) (decide (20000<c+1)||decide (12<lv)||o) else (c+1,decide (20000<c+1)||decide (12<lv)||o)
def SX.mss:List SX→Int→Int→Bool→Int×Bool
 | [],_,c,o=>(c,o)
 | x::l,lv,c,o=>if o then (c,o) else SX.mss l lv (SX.ms x (lv+1) c o).1 (SX.ms x (lv+1) c o).2
end
def PY (Z:ag) (c:Int) (m:Nat) (r:Int×Bool) (H':ag):Prop:=∃(c':Int) (o':Bool) (J':ag),c≤c'∧c'≤c+m∧r=(c',o')∧H'=Z++.rows 2 0 [[.int .i64 c',.bool o']]::J'
theorem SX.nodess_append:∀a b:List SX,SX.nodess (a++b)=SX.nodess a+SX.nodess b
 | [],b=>by simp [SX.nodess]
 | x::a,b=>by simp [SX.nodess,SX.nodess_append a b];omega
set_option maxRecDepth 100000 in
set_option maxHeartbeats 2000000 in
theorem F8 (S:d8 C):∀(n:Nat) (x:SX),x.nodes≤n→n≤2^40→∀(Z J:ag) (base:Nat),base≤Z.length→∀(c:Int) (o:Bool) (lv:Int),0≤c→c+x.nodes≤2^60→0≤lv→lv+n≤2^50→
 ∃H',PY Z c x.nodes (x.ms lv c o) H'∧∀K:AV→ag→Prop,aD Tryz.prog C base (.fn 373 []) [.ptr Z.length 0 2 0 0,.agg x.cells,.int .i64 lv] (Z++.rows 2 0 [[.int .i64 c,.bool o]]::J) K=K (.tup []) H'
 | 0,x,h,_=>by have:=x.nodes_pos;omega
 | n+1,.mk b at_ l k,hn,hn2=>by
  intro Z J base hZ c o lv hc0 hc hl0 hl
  have ih:=fun x h1=>F8 S n x h1 (by omega)
  refine aD.ex (bn (S.plainD _ (by decide)).1 (S.plainD _ (by decide)).2 (am Tryz.func373 rfl (S.prim _ (by decide)) (by simp) (by kernel_rfl) ?_))
  unfold Tryz.f373
  have hno:(SX.mk b at_ l k).nodes=SX.nodess l+1:=by rw [SX.nodes]
  rw [hno] at hn hc ⊢
  have hll:=SX.length_le l
  rw [SX.cells,SX.rows_map]
  obtain ⟨bx,hbx⟩:∃bx:List AV,bx=[.bool b,.str at_,aw k (l.map SX.cells)]:=⟨_,rfl⟩
  have w1:IntKind.i64.wrap (c+1)=c+1:=aK (by omega) (by omega)
  refine cut (fun s H'=>s 0=.ptr Z.length 0 2 0 0∧s 2=.int .i64 lv∧s 4=.ptr (Z.length+(J.length+1)) 0 3 0 0∧H'=Z++.rows 2 0 [[.int .i64 c,.bool o]]::(J++[.rows 3 0 [bx]])) ?_ ?_
  ·simp [aG,hbx]
  rintro s H' ⟨q0,q2,q4,rfl⟩
  refine cut (fun s H'=>s 0=.ptr Z.length 0 2 0 0∧s 2=.int .i64 lv∧s 4=.ptr (Z.length+(J.length+1)) 0 3 0 0∧H'=Z++.rows 2 0 [[.int .i64 (c+1),.bool o]]::(J++[.rows 3 0 [bx]])) ?_ ?_
  ·simp [q0,q2,q4,w1,ao,aE]
   exact hZ
  rintro s H' ⟨q0,q2,q4,rfl⟩
  refine cut (fun s H'=>s 0=.ptr Z.length 0 2 0 0∧s 2=.int .i64 lv∧s 4=.ptr (Z.length+(J.length+1)) 0 3 0 0∧H'=Z++.rows 2 0 [[.int .i64 (c+1),.bool (decide (20000<c+1)||decide (12<lv)||o)]]::(J++[.rows 3 0 [bx]])) ?_ ?_
  ·by_cases h1:20000<c+1
   ·simp [q0,q2,q4,h1,an,ao,aE]
    exact hZ
   ·by_cases h2:12<lv
    ·simp [q0,q2,q4,h1,h2,an,ao,aE]
     exact hZ
    ·simp [q0,q2,q4,h1,h2,an,ao,aE]
  rintro s H' ⟨q0,q2,q4,rfl⟩
  obtain ⟨o',ho'⟩:∃o',o'=(decide (20000<c+1)||decide (12<lv)||o):=⟨_,rfl⟩
  rw [hbx,SX.ms,←ho']
  cases b with
  | false =>
   simp [q0,q2,q4]
   exact ⟨c+1,o',_,by omega,by omega,rfl,rfl⟩
  | true =>
   simp [q0,q2,q4]
   refine az l.length (fun i s H'=>s 0=.ptr Z.length 0 2 0 0∧s 2=.int .i64 lv∧s 31=aw k (l.map SX.cells)∧s 32=.int .i64 l.length∧s 33=.int .i64 i∧∃(c':Int) (o2:Bool) (J':ag),c+1≤c'∧c'≤c+1+SX.nodess (l.take i)∧SX.mss l lv (c+1) o'=SX.mss (l.drop i) lv c' o2∧H'=Z++.rows 2 0 [[.int .i64 c',.bool o2]]::J') ?_ ?_
   ·exact ⟨q0,q2,rfl,rfl,rfl,c+1,o',_,by omega,by simp [SX.nodess],rfl,rfl⟩
   rintro i s H' ⟨r0,r2,r31,r32,r33,c',o2,J',hc1,hc2,hm,rfl⟩ hi
   by_cases h:i<l.length
   ·rw [List.drop_eq_getElem_cons h,SX.mss] at hm
    have hno:=SX.nodes_mem (List.getElem_mem h)
    have et:l.take (i+1)=l.take i++[l[i]]:=by rw [List.take_add_one,List.getElem?_eq_getElem h];rfl
    have hsum:SX.nodess (l.take (i+1))=SX.nodess (l.take i)+l[i].nodes:=by rw [et,SX.nodess_append];simp [SX.nodess]
    have hle:SX.nodess (l.take (i+1))≤SX.nodess l:=by
     conv=>rhs;rw [←List.take_append_drop (i+1) l]
     rw [SX.nodess_append];omega
    have w2:IntKind.i64.wrap (lv+1)=lv+1:=aK (by omega) (by omega)
    cases o2 with
    | true =>
     simp [r0,r2,r31,r32,r33,h,ao,aE]
     exact ⟨by omega,c',true,_,by omega,by omega,hm,rfl⟩
    | false =>
     obtain ⟨H3,⟨c3,o3,J3,g1,g2,g3,rfl⟩,e3⟩:=ih l[i] (by omega) Z (J'++[.rows 3 0 [l[i].cells]]) base hZ c' false (lv+1) (by omega) (by omega) (by omega) (by omega)
     simp [r0,r2,r31,r32,r33,h,ao,aE,w2,e3,ay h (by omega)]
     simp only [Bool.false_eq_true,if_false,g3] at hm
     refine ⟨by omega,by omega,by omega,?_⟩
     cases o3<;>simp [hm]<;>omega
   ·have h':i=l.length:=by omega
    subst h'
    rw [List.take_length] at hc2
    rw [List.drop_length,SX.mss] at hm
    simp [r0,r2,r31,r32,r33]
    exact ⟨c',o2,_,by omega,by omega,hm,rfl⟩
def pe (x:SX):Int:=if (x.ms 1 0 false).2 then 4 else x.chk
theorem GK {x:SX} (h:pe x=0):x.chk=0:=by
 unfold pe at h
 split at h
 ·omega
 ·exact h
theorem Fi (S:d8 C) (x:SX) (h:x.nodes≤2^40):cE Tryz.prog C 336 [] [.agg x.cells] (.int .i64 (pe x)):=by
 refine aB (S.pureD _ (by decide)) fun H=>am Tryz.func336 rfl (S.prim _ (by decide)) (by simp) (by kernel_rfl) ?_
 unfold Tryz.f336 pe
 have e1:=(wD S _ x (Nat.le_refl _) (by omega)).eq
 obtain ⟨H0,⟨c',o',J',g1,g2,g3,h0⟩,e0⟩:=F8 S _ x (Nat.le_refl _) h (H++[.rows 3 0 [x.cells]]) [] H.length (by simp) 0 false 1 (by omega) (by omega) (by omega) (by omega)
 subst h0
 rw [g3]
 simp at e0
 cases o' with
 | true=>simp [aG,e0,e1,aE]
 | false=>simp [aG,e0,e1,aE]
theorem SX.enc_ne (x:SX):x.enc≠[]:=by
 cases x with
 | mk b at_ l k =>
  cases b with
  | false=>show ld at_.length++58::at_≠[];simp
  | true=>show 40::SX.encs l++[41]≠[];simp
theorem Cl (S:d8 C) (x:SX) (h:x.nodes≤2^26):sD Tryz.prog C 279 [.agg x.cells] (.tup [.str (if pe x=0 then x.enc else []),.int .i64 (pe x)]):=by
 refine lN (S.frzD _ (by decide)).1 (S.frzD _ (by decide)).2 rfl fun H=>am Tryz.func279 rfl (S.prim _ (by decide)) (by simp) (by kernel_rfl) ?_
 unfold Tryz.f279
 have e1:=(Fi S x (by omega)).eq
 by_cases h0:pe x=0
 ·have hk:=GK h0
  have hel:=SX.enc_len _ x (Nat.le_refl _) hk
  have hel2:x.nodes*65544≤2^26*65544:=Nat.mul_le_mul_right _ h
  obtain ⟨H2,⟨v',J',g3,s3,rfl⟩,e3⟩:=vS S _ x (Nat.le_refl _) (by omega) hk (H++[.rows 3 0 [x.cells]]) [] H.length (by simp) .nilp .nils (.inl rfl) [] .nils (by simp;omega)
  simp [dD] at e3
  have hne:=SX.enc_ne x
  have hr:(∃b' g',v'=.sl b' g' 1 0 x.enc.length∧H.length≤b'∧g' % 4=2∧(H++.rows 3 0 [x.cells]::.rows 2 1 [[.ptr (H.length+1) 1 2 0 0,v']]::J')[b']?=some (.rows 1 g' (x.enc.map bR))):=by
   obtain ⟨g3,u3⟩:=g3
   rw [List.nil_append] at g3
   rcases g3 with ⟨h1,rfl⟩ | rfl | ⟨b',g',rfl,hb'⟩
   ·exact absurd (by simpa using h1) hne
   ·rcases u3 with h1 | h1 | ⟨_,_,_,h1,_⟩
    ·cases h1
    ·have h2:x.enc=[]:=by simpa using h1
     exact absurd h2 hne
    ·cases h1
   ·rcases u3 with h1 | h1 | ⟨_,_,_,h1,h2⟩
    ·cases h1
    ·cases h1
    ·cases h1
     refine ⟨_,g',by rw [List.length_map],by simp;omega,h2,?_⟩
     rw [show (H++[bQ.rows 3 0 [x.cells]]).length+1+b'=H.length+(b'+2) by simp;omega,bt]
     exact hb'
  obtain ⟨H9,e9⟩:=S.str (base:=H.length) (H:=H++.rows 3 0 [x.cells]::.rows 2 1 [[.ptr (H.length+1) 1 2 0 0,v']]::J') (b:=H.length+1) (a:=.ptr (H.length+1) 1 2 0 0) (v:=v') (l:=x.enc) (by omega) ((bt H _ 1).trans rfl) hne (by omega) hr
  rw [if_pos h0,h0]
  rw [h0] at e1
  simp [aG,e1,e3,e9]
 ·simp [aG,e1,h0]
end Go.Proofs.Ev
