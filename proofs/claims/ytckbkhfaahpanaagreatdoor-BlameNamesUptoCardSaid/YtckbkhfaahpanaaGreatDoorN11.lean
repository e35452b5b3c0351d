/- Part 11 of the proof that quiltlaw38.BlameNames returns true: no statement of its own. -/
import Derived.Test.YtckbkhfaahpanaaGreatDoorN10
set_option linter.all false
namespace Go.Proofs.Ev
open Go.Proofs
variable {C:Cfg}
theorem str_at {block:List UInt8} {j:Nat} (h:j<block.length):block[j]?=some (block.getD j 0):=by
 rw [List.getD_eq_getElem?_getD,List.getElem?_eq_getElem h];rfl
def schC (block:List UInt8) (t:Nat):List AV:=(schedL block t).map w32++List.replicate (64-t) (w32 0)
@[simp] theorem schC_len {block:List UInt8} {t:Nat} (h:t≤64):(schC block t).length=64:=by simp [schC,schedL_len];omega
theorem closeds_w:∀l:List W32,AV.closeds (l.map w32)=true
 | []=>rfl
 | x::l=>by simp [AV.closeds,closeds_w l]
theorem schC_at {block:List UInt8} {t j:Nat} (h:j<t):(schC block t)[j]?=some (w32 ((schedL block t).getD j 0)):=by
 rw [←List.head?_drop];exact cells_at (by rw [schedL_len];exact h)
theorem schC_set {block:List UInt8} {t:Nat} {x:W32} (h:t<64) (hx:(if t<16 then wordAt block t else nextW (schedL block t))=x):(schC block t).take t++w32 x::(schC block t).drop (t+1)=schC block (t+1):=by
 have e:64-t=(64-(t+1))+1:=by omega
 unfold schC
 rw [e,cells_set (by rw [schedL_len]),schedL]
 simp only [hx]
set_option maxHeartbeats 2000000 in
theorem ret_schedule (S:Setting6 C) (block:List UInt8) (hb:block.length=64):Ret Tryz.prog C 179 [] [.str block] (.agg ((schedL block 64).map w32)):=by
 refine ret_pure (S.pure6 _ (by decide)) fun H=>func_rule Tryz.func179 rfl (S.prim _ (by decide)) (by simp) (by kernel_rfl) ?_
 unfold Tryz.f179
 have sh24:∀t x,binA Tryz.prog C .shl t (w32 x) (.int .u64 24)=some (w32 (x <<< 24)):=fun t x=>w_shl t x .u64 24 (by decide)
 have sh16:∀t x,binA Tryz.prog C .shl t (w32 x) (.int .u64 16)=some (w32 (x <<< 16)):=fun t x=>w_shl t x .u64 16 (by decide)
 have sh8:∀t x,binA Tryz.prog C .shl t (w32 x) (.int .u64 8)=some (w32 (x <<< 8)):=fun t x=>w_shl t x .u64 8 (by decide)
 have sr10:∀t x,binA Tryz.prog C .shr t (w32 x) (.int .u64 10)=some (w32 (x >>> 10)):=fun t x=>w_shr t x .u64 10 (by decide)
 have sr3:∀t x,binA Tryz.prog C .shr t (w32 x) (.int .u64 3)=some (w32 (x >>> 3)):=fun t x=>w_shr t x .u64 3 (by decide)
 have r17:∀x base H K,CallW Tryz.prog C base (.fn 181 []) [w32 x,.int .u64 17] H K=K (w32 (rotr x 17)) H:=fun x=>(ret_rotate S x 17 (by decide)).eq
 have r19:∀x base H K,CallW Tryz.prog C base (.fn 181 []) [w32 x,.int .u64 19] H K=K (w32 (rotr x 19)) H:=fun x=>(ret_rotate S x 19 (by decide)).eq
 have r7:∀x base H K,CallW Tryz.prog C base (.fn 181 []) [w32 x,.int .u64 7] H K=K (w32 (rotr x 7)) H:=fun x=>(ret_rotate S x 7 (by decide)).eq
 have r18:∀x base H K,CallW Tryz.prog C base (.fn 181 []) [w32 x,.int .u64 18] H K=K (w32 (rotr x 18)) H:=fun x=>(ret_rotate S x 18 (by decide)).eq
 simp [argS,storeA,fillA]
 refine loop_count 16 (fun i s H'=>∃Z:List AV,Z.length=64∧s 0=.str block∧s 2=.ptr H.length 0 64 0 0∧s 3=.ptr (H.length+1) 0 64 0 0∧s 4=.int .i64 i∧H'=H++[.rows 64 0 [Z],.rows 64 0 [schC block i]]) ?_ ?_
 ·exact ⟨List.replicate 64 (.int .u32 0),rfl,rfl,rfl,rfl,rfl,rfl⟩
 rintro i s H' ⟨Z,hZ,e0,e2,e3,e4,rfl⟩ hi
 by_cases h:i<16
 ·have q0:=str_at (block:=block) (j:=4*i) (by omega)
  have q1:=str_at (block:=block) (j:=4*i+1) (by omega)
  have q2:=str_at (block:=block) (j:=4*i+2) (by omega)
  have q3:=str_at (block:=block) (j:=4*i+3) (by omega)
  have w0:IntKind.i64.wrap (4*(i:Int))=((4*i:Nat):Int):=by rw [wrap_in (by omega) (by omega)];omega
  have w1:IntKind.i64.wrap (((4*i:Nat):Int)+1)=((4*i+1:Nat):Int):=by rw [wrap_in (by omega) (by omega)];omega
  have w2:IntKind.i64.wrap (((4*i:Nat):Int)+2)=((4*i+2:Nat):Int):=by rw [wrap_in (by omega) (by omega)];omega
  have w3:IntKind.i64.wrap (((4*i:Nat):Int)+3)=((4*i+3:Nat):Int):=by rw [wrap_in (by omega) (by omega)];omega
  have hset:=schC_set (block:=block) (t:=i) (x:=wordAt block i) (by omega) (by rw [if_pos h])
  have hw:wordAt block i=byteW (block.getD (4*i) 0) <<< 24 ||| byteW (block.getD (4*i+1) 0) <<< 16 ||| byteW (block.getD (4*i+2) 0) <<< 8 ||| byteW (block.getD (4*i+3) 0):=rfl
  rw [hw] at hset
  generalize block.getD (4*i) 0=b0 at q0 hset
  generalize block.getD (4*i+1) 0=b1 at q1 hset
  generalize block.getD (4*i+2) 0=b2 at q2 hset
  generalize block.getD (4*i+3) 0=b3 at q3 hset
  generalize hj0:4*i=j0 at w0 w1 w2 w3 q0 q1 q2 q3
  generalize hj1:j0+1=j1 at w1 q1
  generalize hj2:j0+2=j2 at w2 q2
  generalize hj3:j0+3=j3 at w3 q3
  simp [-getElem?_pos,List.getElem?_cons_zero,e0,e2,e3,e4,w0,w1,w2,w3,q0,q1,q2,q3,show j0<block.length by omega,show j1<block.length by omega,show j2<block.length by omega,show j3<block.length by omega,convertA,conv_byte,sh24,sh16,sh8,w_or,storeA,show (i:Int)<16 by omega,show (i:Int)<64 by omega,show i<64 by omega]
  rw [kOpsU_turn (h:=by kernel_rfl)]
  have hl:=schC_len (block:=block) (t:=i) (by omega)
  simp [h,e0,e2,e3,e4,wrap_succ (show i<64 by omega) (by decide),hl,show i+1≤64 by omega]
  exact ⟨Z,hZ,rfl,hset⟩
 have h:i=16:=by omega
 subst h
 simp [e0,e2,e3,e4]
 refine loop_count 48 (fun i s H'=>∃T:Nat,T=16+i∧s 2=.ptr H.length 0 64 0 0∧s 3=.ptr (H.length+1) 0 64 0 0∧s 5=.int .i64 (T:Int)∧H'=H++[.rows 64 0 [Z],.rows 64 0 [schC block T]]) ?_ ?_
 ·exact ⟨16,rfl,e2,e3,rfl,rfl⟩
 clear e0 e2 e3 e4
 rintro i s H' ⟨T,hT,e2,e3,e5,rfl⟩ hi
 have hl:=schC_len (block:=block) (t:=T) (by omega)
 by_cases h:i<48
 ·obtain ⟨j15,hj15⟩:∃j,j=T-15:=⟨_,rfl⟩
  obtain ⟨j2,hj2⟩:∃j,j=T-2:=⟨_,rfl⟩
  obtain ⟨j7,hj7⟩:∃j,j=T-7:=⟨_,rfl⟩
  obtain ⟨j16,hj16⟩:∃j,j=T-16:=⟨_,rfl⟩
  have w15:IntKind.i64.wrap ((T:Int)-15)=(j15:Int):=by rw [wrap_in (by omega) (by omega)];omega
  have w2:IntKind.i64.wrap ((T:Int)-2)=(j2:Int):=by rw [wrap_in (by omega) (by omega)];omega
  have w7:IntKind.i64.wrap ((T:Int)-7)=(j7:Int):=by rw [wrap_in (by omega) (by omega)];omega
  have w16:IntKind.i64.wrap ((T:Int)-16)=(j16:Int):=by rw [wrap_in (by omega) (by omega)];omega
  have a15:=schC_at (block:=block) (t:=T) (j:=j15) (by omega)
  have a2:=schC_at (block:=block) (t:=T) (j:=j2) (by omega)
  have a7:=schC_at (block:=block) (t:=T) (j:=j7) (by omega)
  have a16:=schC_at (block:=block) (t:=T) (j:=j16) (by omega)
  have hset:=schC_set (block:=block) (t:=T) (x:=nextW (schedL block T)) (by omega) (by rw [if_neg (by omega)])
  have hn:nextW (schedL block T)=((rotr ((schedL block T).getD j2 0) 17 ^^^ rotr ((schedL block T).getD j2 0) 19 ^^^ (schedL block T).getD j2 0 >>> 10)+(schedL block T).getD j7 0+(rotr ((schedL block T).getD j15 0) 7 ^^^ rotr ((schedL block T).getD j15 0) 18 ^^^ (schedL block T).getD j15 0 >>> 3))+(schedL block T).getD j16 0:=by
   unfold nextW
   simp only [schedL_len]
   rw [←hj15,←hj2,←hj7,←hj16]
  rw [hn] at hset
  generalize (schedL block T).getD j2 0=b0 at a2 hset
  generalize (schedL block T).getD j7 0=b1 at a7 hset
  generalize (schedL block T).getD j15 0=b2 at a15 hset
  generalize (schedL block T).getD j16 0=b3 at a16 hset
  have k15:(j15:Int)<64∧j15<64:=by omega
  have k2:(j2:Int)<64∧j2<64:=by omega
  have k7:(j7:Int)<64∧j7<64:=by omega
  have k16:(j16:Int)<64∧j16<64:=by omega
  have kT:(T:Int)<64∧T<64∧T+1≤64:=by omega
  simp [-getElem?_pos,List.getElem?_cons_zero,e2,e3,e5,w15,w2,w7,w16,a15,a2,a7,a16,k15,k2,k7,k16,kT,r17,r19,r7,r18,sr10,sr3,w_add,w_xor,storeA,hl]
  rw [kOpsU_turn (h:=by kernel_rfl)]
  simp [h,e2,e3,e5,wrap_succ kT.2.1 (by decide),hl,kT]
  refine ⟨by omega,?_⟩
  rw [hset];congr 1;omega
 ·have h:i=48:=by omega
  subst h
  have hT:T=64:=by omega
  subst hT
  have e64:schC block 64=(schedL block 64).map w32:=by simp [schC]
  have l64:=schedL_len block 64
  rw [e64] at hl ⊢
  generalize schedL block 64=W at *
  simp [e2,e3,e5,storeA,hZ,List.take_of_length_le,List.drop_of_length_le (Nat.le_of_eq hZ),l64]
  exact freeze_closed (v:=.agg (W.map w32)) (closeds_w W)
def stW (s:St8):List AV:=[w32 s.a,w32 s.b,w32 s.c,w32 s.d,w32 s.e,w32 s.f,w32 s.g,w32 s.h]
set_option maxRecDepth 100000 in
set_option maxHeartbeats 2000000 in
theorem ret_step (S:Setting6 C) (v0:St8) (block:List UInt8) (hb:block.length=64):Ret Tryz.prog C 117 [] [.agg (stW v0),.str block] (.agg (stW (stepS v0 block))):=by
 refine ret_pure (S.pure6 _ (by decide)) fun H=>func_rule Tryz.func117 rfl (S.prim _ (by decide)) (by simp) (by kernel_rfl) ?_
 unfold Tryz.f117
 have r6:∀x base H K,CallW Tryz.prog C base (.fn 181 []) [w32 x,.int .u64 6] H K=K (w32 (rotr x 6)) H:=fun x=>(ret_rotate S x 6 (by decide)).eq
 have r11:∀x base H K,CallW Tryz.prog C base (.fn 181 []) [w32 x,.int .u64 11] H K=K (w32 (rotr x 11)) H:=fun x=>(ret_rotate S x 11 (by decide)).eq
 have r25:∀x base H K,CallW Tryz.prog C base (.fn 181 []) [w32 x,.int .u64 25] H K=K (w32 (rotr x 25)) H:=fun x=>(ret_rotate S x 25 (by decide)).eq
 have r2:∀x base H K,CallW Tryz.prog C base (.fn 181 []) [w32 x,.int .u64 2] H K=K (w32 (rotr x 2)) H:=fun x=>(ret_rotate S x 2 (by decide)).eq
 have r13:∀x base H K,CallW Tryz.prog C base (.fn 181 []) [w32 x,.int .u64 13] H K=K (w32 (rotr x 13)) H:=fun x=>(ret_rotate S x 13 (by decide)).eq
 have r22:∀x base H K,CallW Tryz.prog C base (.fn 181 []) [w32 x,.int .u64 22] H K=K (w32 (rotr x 22)) H:=fun x=>(ret_rotate S x 22 (by decide)).eq
 have c1:=(ret_schedule S block hb).eq
 have c2:=(ret_constants S).eq
 have l1:((schedL block 64).map w32).length=64:=by rw [List.length_map,schedL_len]
 have l2:(shaK.map w32).length=64:=rfl
 obtain ⟨fW,hfW⟩:∃f:Nat→W32,f=fun t=>(schedL block 64).getD t 0:=⟨_,rfl⟩
 obtain ⟨fK,hfK⟩:∃f:Nat→W32,f=fun t=>shaK.getD t 0:=⟨_,rfl⟩
 have hround:∀t,rounds8 block v0 (t+1)=round8 (rounds8 block v0 t) (fK t) (fW t):=fun t=>by rw [hfK,hfW];rfl
 have hs:∀t,t<64→((schedL block 64).map w32)[t]?=some (w32 (fW t)):=fun t ht=>by
  rw [hfW,List.getElem?_map];simp only;rw [List.getD_eq_getElem?_getD,List.getElem?_eq_getElem (by rw [schedL_len];exact ht)];rfl
 have hk:∀t,t<64→(shaK.map w32)[t]?=some (w32 (fK t)):=fun t ht=>by
  rw [hfK,List.getElem?_map];simp only;rw [List.getD_eq_getElem?_getD,List.getElem?_eq_getElem (show t<shaK.length from ht)];rfl
 have hfin:stepS v0 block=⟨v0.a+(rounds8 block v0 64).a,v0.b+(rounds8 block v0 64).b,v0.c+(rounds8 block v0 64).c,v0.d+(rounds8 block v0 64).d,v0.e+(rounds8 block v0 64).e,v0.f+(rounds8 block v0 64).f,v0.g+(rounds8 block v0 64).g,v0.h+(rounds8 block v0 64).h⟩:=rfl
 rw [hfin]
 have h0:rounds8 block v0 0=v0:=rfl
 have q1:∀x∈(schedL block 64).map w32,x.leaf=true:=by intro x hx;obtain ⟨y,_,rfl⟩:=List.mem_map.1 hx;rfl
 have q2:∀x∈shaK.map w32,x.leaf=true:=by intro x hx;obtain ⟨y,_,rfl⟩:=List.mem_map.1 hx;rfl
 clear hfW hfK
 generalize rounds8 block v0=R at *
 generalize (schedL block 64).map w32=W at *
 generalize shaK.map w32=Kc at *
 simp [argS,stW,storeA,fillA,c1,c2,l1,l2]
 refine ⟨q1,q2,?_⟩
 refine loop_count 64 (fun i s H'=>∃Z,Z.length=8∧s 2=.ptr H.length 0 8 0 0∧s 4=.ptr (H.length+1) 0 8 0 0∧s 5=.ptr (H.length+2) 0 64 0 0∧s 6=.ptr (H.length+3) 0 64 0 0∧s 7=.ptr (H.length+4) 0 8 0 0∧s 8=.int .i64 i∧
  H'=H++[.rows 8 0 [stW v0],.rows 8 0 [Z],.rows 64 0 [W],.rows 64 0 [Kc],.rows 8 0 [stW (R i)]]) ?_ ?_
 ·refine ⟨List.replicate 8 (.int .u32 0),rfl,rfl,rfl,rfl,rfl,rfl,rfl,?_⟩
  rw [h0];rfl
 rintro i s H' ⟨Z,hZ,e2,e4,e5,e6,e7,e8,rfl⟩ hi
 by_cases h:i<64
 ·have hs:=hs i h
  have hk:=hk i h
  have hr:=hround i
  have hi64:(i:Int)<64:=by omega
  simp [-getElem?_pos,List.getElem?_cons_zero,stW,e2,e4,e5,e6,e7,e8,hi64,h,hs,hk,r6,r11,r25,r2,r13,r22,w_add,w_xor,w_and,w_not,fillA,storeA,wrap_succ h (by decide)]
  refine ⟨Z,hZ,rfl,?_⟩
  rw [hr]
  exact ⟨rfl,rfl,rfl,rfl,rfl,rfl,rfl,rfl⟩
 have h:i=64:=by omega
 subst h
 clear hround hs hk
 generalize R 64=v at *
 simp [e2,e4,e5,e6,e7,e8]
 refine loop_count 8 (fun i s H'=>s 2=.ptr H.length 0 8 0 0∧s 4=.ptr (H.length+1) 0 8 0 0∧s 7=.ptr (H.length+4) 0 8 0 0∧s 13=.int .i64 i∧
  H'=H++[.rows 8 0 [(stW ⟨v0.a+v.a,v0.b+v.b,v0.c+v.c,v0.d+v.d,v0.e+v.e,v0.f+v.f,v0.g+v.g,v0.h+v.h⟩).take i++(stW v0).drop i],.rows 8 0 [Z],.rows 64 0 [W],.rows 64 0 [Kc],.rows 8 0 [stW v]]) ?_ ?_
 ·exact ⟨e2,e4,e7,rfl,rfl⟩
 clear e2 e4 e5 e6 e7 e8
 rintro i s H' ⟨e2,e4,e7,e13,rfl⟩ hi
 by_cases h:i<8
 ·have hk:i=0∨i=1∨i=2∨i=3∨i=4∨i=5∨i=6∨i=7:=by omega
  rcases hk with rfl | rfl | rfl | rfl | rfl | rfl | rfl | rfl
  all_goals
   simp [stW,e2,e4,e7,e13,w_add,storeA]
   rw [kOpsU_turn (h:=by kernel_rfl)]
   simp [stW,e2,e4,e7,e13]
   try rfl
 have h:i=8:=by omega
 subst h
 simp [stW,e2,e4,e7,e13,storeA,List.drop_of_length_le (Nat.le_of_eq hZ)]
 exact ⟨by omega,freeze_closed rfl⟩
end Go.Proofs.Ev
namespace Go.Proofs.Ev
open Go.Proofs
variable {C:Cfg}
theorem blocksN_succ:∀(n:Nat) (m:List UInt8),blocksN m (n+1)=blocksN m n++[(m.drop (64*n)).take 64]
 | 0,m=>by simp [blocksN]
 | n+1,m=>by
  rw [blocksN,blocksN_succ n (m.drop 64),blocksN]
  simp [List.drop_drop,show 64+64*n=64*(n+1) by omega]
def stK (m:List UInt8) (k:Nat):St8:=(blocksN m k).foldl stepS initS
theorem stK_succ (m:List UInt8) (k:Nat):stK m (k+1)=stepS (stK m k) ((m.drop (64*k)).take 64):=by
 rw [stK,blocksN_succ,List.foldl_append];rfl
theorem padded_len (x:List UInt8):∃q,(padded x).length=64*q∧0<q∧64*q≤x.length+72+64:=by
 refine ⟨(padded x).length / 64,?_,?_,?_⟩<;>simp [padded,lenBytes]<;>omega
theorem stW_list (v:St8):stW v=v.list.map w32:=rfl
def digC (D:List Nat) (i:Nat):List AV:=dig (D.take i)++List.replicate (32-i) (.int .u8 0)
theorem digC_len {D:List Nat} {i:Nat} (hD:D.length=32) (h:i≤32):(digC D i).length=32:=by simp [digC];omega
theorem digC_set {D:List Nat} {i n:Nat} (hD:D.length=32) (h:i<32) (hn:D[i]?=some n):(digC D i).take i++AV.int .u8 (n:Int)::(digC D i).drop (i+1)=digC D (i+1):=by
 have e:32-i=(32-(i+1))+1:=by omega
 have l1:(dig (D.take i)).length=i:=by simp;omega
 have et:D.take (i+1)=D.take i++[n]:=by rw [List.take_add_one,hn];rfl
 unfold digC
 rw [List.take_append_of_le_length (by omega),List.take_of_length_le (by omega),List.drop_append,List.drop_of_length_le (by omega),l1,e,List.replicate_succ,et]
 simp [dig,show i+1-i=1 by omega]
set_option maxRecDepth 100000 in
set_option maxHeartbeats 2000000 in
theorem ret_sum (S:Setting6 C) (x:List UInt8) (hx:x.length≤2^40):Ret Tryz.prog C 66 [] [.str x] (.agg (dig (sha x))):=by
 refine ret_pure (S.pure6 _ (by decide)) fun H=>func_rule Tryz.func66 rfl (S.prim _ (by decide)) (by simp) (by kernel_rfl) ?_
 unfold Tryz.f66
 have cp:=(ret_padded S x hx).eq
 obtain ⟨q,hq,hq0,hq1⟩:=padded_len x
 have hsha:sha x=digW (stK (padded x) q).list:=by rw [sha,shaSt,hq,show 64*q / 64=q by omega];rfl
 have h0:stK (padded x) 0=initS:=rfl
 rw [hsha]
 generalize hm:padded x=m at *
 simp [argS,storeA,fillA,cp]
 refine ⟨rfl,?_⟩
 refine loop_count q (fun i s H'=>∃Z,Z.length=32∧s 2=.ptr H.length 0 32 0 0∧s 3=.ptr (H.length+1) 0 8 0 0∧s 4=.str m∧s 5=.int .i64 ((64*i:Nat):Int)∧H'=H++[.rows 32 0 [Z],.rows 8 0 [stW (stK m i)]]) ?_ ?_
 ·exact ⟨List.replicate 32 (.int .u8 0),rfl,rfl,rfl,rfl,rfl,by rw [h0];rfl⟩
 rintro i s H' ⟨Z,hZ,e2,e3,e4,e5,rfl⟩ hi
 obtain ⟨j,hj⟩:∃j,j=64*i:=⟨_,rfl⟩
 rw [←hj] at e5
 have w1:IntKind.i64.wrap ((j:Int)+64)=((j+64:Nat):Int):=by rw [wrap_in (by omega) (by omega)];omega
 by_cases h:i<q
 ·have hb:((m.take (j+64)).drop j).length=64:=by simp;omega
  have hbl:(m.take (j+64)).drop j=(m.drop (64*i)).take 64:=by rw [List.drop_take,hj];congr 1;omega
  have cs:=(ret_step S (stK m i) _ hb).eq
  have hnext:stepS (stK m i) ((m.take (j+64)).drop j)=stK m (i+1):=by rw [stK_succ,hbl]
  have l8:(stW (stK m i)).length=8:=rfl
  have l9:(stW (stK m (i+1))).length=8:=rfl
  have f8:∀v∈stW (stK m (i+1)),v.leaf=true:=by intro v hv;rw [stW_list] at hv;obtain ⟨y,_,rfl⟩:=List.mem_map.1 hv;rfl
  have hT:List.take 8 (stW (stK m i))=stW (stK m i):=rfl
  rw [hnext] at cs
  generalize hj2:j+64=j2 at w1 hb cs
  generalize hV:stW (stK m i)=V at *
  generalize hV':stW (stK m (i+1))=V' at *
  generalize hB:(m.take j2).drop j=B at *
  simp [e2,e3,e4,e5,w1,sliceA,boundsA,show (j2:Int)≤m.length by omega,show (j2:Int)<(m.length:Int)+1 by omega,show (j:Int)<(j2:Int)+1 by omega,hB,l8,hT,cs,storeA,l9,List.drop_of_length_le (Nat.le_of_eq l8)]
  rw [kOpsU_turn (h:=by kernel_rfl)]
  simp [e2,e3,e4,e5,w1,h]
  exact ⟨f8,Z,hZ,by omega,rfl,hV'.symm⟩
 have h:i=q:=by omega
 subst h
 obtain ⟨D,hDd⟩:∃D,D=digW (stK m i).list:=⟨_,rfl⟩
 have hD:D.length=32:=by rw [hDd];simp [digW]
 have hDat:∀k,k<32→D[k]?=some (((((stK m i).list.getD (k / 4) 0) >>> (24-8*(k % 4))).toNat) % 256):=by
  intro k hk
  rw [hDd,digW,List.getElem?_map,List.getElem?_range hk]
  simp [BitVec.toNat_ushiftRight,Nat.shiftRight_eq_div_pow]
 have hVat:∀k,k<32→(stW (stK m i))[k / 4]?=some (w32 ((stK m i).list.getD (k / 4) 0)):=by
  intro k hk
  rw [stW_list,List.getElem?_map,List.getD_eq_getElem?_getD,List.getElem?_eq_getElem (show k / 4<(stK m i).list.length by simp [St8.list];omega)];rfl
 rw [←hDd]
 have l8:(stW (stK m i)).length=8:=rfl
 clear hDd
 generalize stW (stK m i)=V at *
 generalize (stK m i).list=L at *
 simp [e2,e3,e4,e5,w1,show ¬(j:Int)+64≤m.length by omega,fillA,storeA,show digest0.length=32 from rfl]
 refine loop_count 32 (fun i s H'=>s 2=.ptr H.length 0 32 0 0∧s 3=.ptr (H.length+1) 0 8 0 0∧s 6=.ptr (H.length+2) 0 32 0 0∧s 7=.int .i64 i∧H'=H++[.rows 32 0 [Z],.rows 8 0 [V],.rows 32 0 [digC D i]]) ?_ ?_
 ·exact ⟨e2,e3,rfl,rfl,rfl⟩
 clear e2 e3 e4 e5
 rintro k s H' ⟨e2,e3,e6,e7,rfl⟩ hi
 have hl:=digC_len (D:=D) (i:=k) hD (by omega)
 by_cases h:k<32
 ·obtain ⟨a,ha⟩:∃a,a=k / 4:=⟨_,rfl⟩
  obtain ⟨b,hb⟩:∃b,b=24-8*(k % 4):=⟨_,rfl⟩
  have d1:∀t,binA Tryz.prog C .quo t (.int .i64 (k:Int)) (.int .i64 4)=some (.int .i64 (a:Int)):=fun t=>by
   rw [bin_quo (h:=by decide),Int.tdiv_eq_ediv_of_nonneg (by omega),wrap_in (by omega) (by omega)];congr 2;omega
  have d2:∀t,binA Tryz.prog C .rem t (.int .i64 (k:Int)) (.int .i64 4)=some (.int .i64 ((k % 4:Nat):Int)):=fun t=>by
   rw [bin_rem (h:=by decide),Int.tmod_eq_emod_of_nonneg (by omega)];congr 2
  obtain ⟨r,hr⟩:∃r,r=k % 4:=⟨_,rfl⟩
  rw [←hr] at d2 hb
  have w2:IntKind.i64.wrap (8*(r:Int))=((8*r:Nat):Int):=by rw [wrap_in (by omega) (by omega)];omega
  have w3:IntKind.i64.wrap (24-((8*r:Nat):Int))=(b:Int):=by rw [wrap_in (by omega) (by omega)];omega
  have w4:IntKind.u64.wrap (b:Int)=(b:Int):=IntWalk.u64_in _ (by omega)
  have hDk:=hDat k h
  have hVk:=hVat k h
  rw [←ha] at hDk hVk
  rw [←hr,←hb] at hDk
  have sh:=fun t=>w_shr (P:=Tryz.prog) (C:=C) t (L.getD a 0) .u64 b (by omega)
  generalize L.getD a 0=x at *
  have cv:∀H,convertA Tryz.prog H 213 5 (w32 (x >>> b))=some (.int .u8 (((x >>> b).toNat % 256:Nat):Int),H):=fun H=>by
   simp [convertA,w32,IntKind.wrap_u8]
  have cvi:∀H n,convertA Tryz.prog H 3 217 (.int .i64 n)=some (.int .u64 (IntKind.u64.wrap n),H):=fun H n=>by simp [convertA]
  have hset:=digC_set hD h hDk
  generalize hn:(x >>> b).toNat % 256=n at *
  generalize h8r:8*r=r8 at *
  have k8:(a:Int)<8∧a<8:=by omega
  have k32:(k:Int)<32∧k<32∧k+1≤32:=by omega
  simp [-getElem?_pos,List.getElem?_cons_zero,e2,e3,e6,e7,d1,d2,w2,w3,w4,k8,k32,hVk,sh,cv,cvi,storeA,hl,hset,wrap_succ k32.2.1 (by decide)]
 ·have h:k=32:=by omega
  subst h
  have e32:digC D 32=dig D:=by simp [digC,List.take_of_length_le,hD]
  rw [e32] at hl ⊢
  simp [e2,e3,e6,e7,storeA,hZ,hD,List.take_of_length_le,List.drop_of_length_le (Nat.le_of_eq hZ)]
  exact freeze_closed (v:=.agg (dig D)) (closeds_dig D)
end Go.Proofs.Ev
namespace Go.Proofs.Ev
open Go.Proofs
variable {C:Cfg}
structure Setting7 (C:Cfg):Prop extends Setting6 C where
 frz7:∀f,f∈[67,36]→C.pure f=false∧C.frz f=true
 pure7:∀f,f∈[35,182,38]→C.pure f=true
theorem EncodeS_len {p:PatchV}:(EncodeS p).length≤65536:=by
 unfold EncodeS
 by_cases h:EncodeE p=0
 ·rw [if_pos h]
  unfold EncodeE at h
  by_cases hc:checkE p=0
  ·rw [if_neg (by simpa using hc)] at h
   unfold encodeE at h
   split at h
   ·omega
   ·omega
  ·rw [if_pos hc] at h;omega
 ·rw [if_neg h];simp
def IdD (p:PatchV):List Nat:=if EncodeE p=0 then sha (treeX p).enc else digest0
theorem IdD_len (p:PatchV):(IdD p).length=32:=by unfold IdD;split<;>simp [digest0]
theorem IdD_byt (p:PatchV):∀x∈IdD p,x<256:=by
 unfold IdD;split
 ·exact sha_byt _
 ·decide
theorem ret_Id16 (S:Setting6 C) (p:PatchV) (hp:p.Ok) (hp2:p.Ok2):Ret Tryz.prog C 33 [] [.agg p.cells] (.tup [.agg (dig (IdD p)),.int .i64 (EncodeE p)]):=by
 refine ret_pure (S.pure6 _ (by decide)) fun H=>func_rule Tryz.func33 rfl (S.prim _ (by decide)) (by simp) (by kernel_rfl) ?_
 unfold Tryz.f33
 have e1:=(ret_Encode16 S.toSetting5 p hp hp2).eq
 have e2:=(ret_sum S (EncodeS p) (by have:=EncodeS_len (p:=p);omega)).eq
 have l1:(sha (EncodeS p)).length=32:=sha_len _
 by_cases h:EncodeE p=0
 ·have hE:EncodeS p=(treeX p).enc:=by unfold EncodeS;rw [if_pos h]
  have hI:IdD p=sha (EncodeS p):=by unfold IdD;rw [if_pos h,hE]
  rw [hI]
  generalize sha (EncodeS p)=D at *
  simp [argS,e1,e2,h,storeA,fillA,l1,List.take_of_length_le,show digest0.length=32 from rfl,List.drop_of_length_le]
  exact freeze_two (freeze_closed (v:=.agg (dig D)) (closeds_dig D)) (by simp)
 ·have hI:IdD p=digest0:=by unfold IdD;rw [if_neg h]
  have hb:(EncodeE p != 0)=true:=by simpa using h
  rw [hI]
  simp [argS,e1,h,hb,storeA,fillA,show digest0.length=32 from rfl,List.take_of_length_le,List.drop_of_length_le]
  exact freeze_two (freeze_closed (v:=.agg (dig digest0)) (closeds_dig digest0)) (by simp)
def hasD (l:List DigV) (d:List Nat):Bool:=l.any fun x=>decide (x.d=d)
theorem hasD_cons (x:DigV) (l:List DigV) (d:List Nat):hasD (x::l) d=(decide (x.d=d)||hasD l d):=rfl
theorem hasD_iff {l:List DigV} {d:List Nat}:hasD l d=true↔∃x∈l,x.d=d:=by simp [hasD]
theorem eq_digV (S:Setting C) (a b:DigV):binA Tryz.prog C .eql 25 (.agg a.cells) (.agg b.cells)=some (.bool (decide (a.d=b.d))):=eq_dig S a.d b.d a.h b.h
theorem ret_has (S:Setting7 C) (l:List DigV) (k:SK) (d:DigV) (hl:l.length≤2^40):Ret0 Tryz.prog C 67 [slAV k (l.map DigV.cells),.agg d.cells] (.bool (hasD l d.d)):=by
 refine ret_frzH (S.frz7 _ (by decide)).1 (S.frz7 _ (by decide)).2 rfl fun H=>func_rule Tryz.func67 rfl (S.prim _ (by decide)) (by simp) (by kernel_rfl) ?_
 unfold Tryz.f67
 have e:=eq_digV S.toSetting
 simp [argS]
 refine loop_count l.length (fun i s H'=>H'=H++[.rows 32 0 [d.cells]]∧s 0=slAV k (l.map DigV.cells)∧s 3=.ptr H.length 0 32 0 0∧s 5=.int .i64 i∧hasD l d.d=hasD (l.drop i) d.d) ?_ ?_
 ·exact ⟨rfl,rfl,rfl,rfl,rfl⟩
 rintro i s H' ⟨rfl,e0,e3,e5,hc⟩ hi
 by_cases h:i<l.length
 ·rw [List.drop_eq_getElem_cons h,hasD_cons] at hc
  by_cases hd:l[i].d=d.d
  ·have hc1:hasD l d.d=true:=by rw [hc];simp [hd]
   simp [e0,e3,e5,h,e,hd,hc1]
  ·have hc1:hasD l d.d=hasD (l.drop (i+1)) d.d:=by rw [hc];simp [hd]
   simp [e0,e3,e5,h,e,hd,hc1,wrap_succ h (by omega)]
 ·have h':i=l.length:=by omega
  subst h'
  have hc1:hasD l d.d=false:=by rw [hc];simp [hasD]
  simp [e0,e3,e5,hc1]
def allD (l some:List DigV):Bool:=some.all fun x=>hasD l x.d
theorem allD_cons (l:List DigV) (x:DigV) (m:List DigV):allD l (x::m)=(hasD l x.d&&allD l m):=rfl
theorem ret_all (S:Setting7 C) (l m:List DigV) (k k2:SK) (hl:l.length≤2^40) (hm:m.length≤2^40):Ret0 Tryz.prog C 36 [slAV k (l.map DigV.cells),slAV k2 (m.map DigV.cells)] (.bool (allD l m)):=by
 refine ret_frzH (S.frz7 _ (by decide)).1 (S.frz7 _ (by decide)).2 rfl fun H=>func_rule Tryz.func36 rfl (S.prim _ (by decide)) (by simp) (by kernel_rfl) ?_
 unfold Tryz.f36
 have e:=fun d=>((ret_has S l k d hl).ret (by simp [AV.closeds,AV.closed,slAV_closed (closedss_map DigV.closed _)])).eq
 simp [argS]
 refine loop_count m.length (fun i s H'=>H'=H∧s 0=slAV k (l.map DigV.cells)∧s 1=slAV k2 (m.map DigV.cells)∧s 5=.int .i64 i∧allD l m=allD l (m.drop i)) ?_ ?_
 ·exact ⟨rfl,rfl,rfl,rfl,rfl⟩
 rintro i s H' ⟨rfl,e0,e1,e5,hc⟩ hi
 by_cases h:i<m.length
 ·rw [List.drop_eq_getElem_cons h,allD_cons] at hc
  cases hh:hasD l m[i].d with
  | false =>
   have hc1:allD l m=false:=by rw [hc,hh];rfl
   simp [e0,e1,e5,h,e,hh,hc1]
  | true =>
   have hc1:allD l m=allD l (m.drop (i+1)):=by rw [hc,hh];rfl
   simp [e0,e1,e5,h,e,hh,hc1,wrap_succ h (by omega)]
 ·have h':i=m.length:=by omega
  subst h'
  have hc1:allD l m=true:=by rw [hc];simp [allD]
  simp [e0,e1,e5,hc1]
end Go.Proofs.Ev
namespace Go.Proofs.Ev
open Go.Proofs
variable {C:Cfg}
theorem app_dg {Z J H0:Heap} {n:Nat} (hn:n=Z.length) (hZ:H0.length≤Z.length) {v x:AV} {r ys:List DigV} (hg:GrowX n 32 J v (r.map DigV.cells)) (hx:tailRows (Z++J) (.slice 25) x=some (ys.map DigV.cells)) (hb:r.length+ys.length≤2^30) :
 ∃v' J',appendA Tryz.prog H0.length (Z++J) #[60,60] v.denil x=some (v',Z++J')∧GrowX n 32 J' v' ((r++ys).map DigV.cells)∧((ys≠[]∨∃b g l,v=.sl b g 32 0 l)→∃b g l,v'=.sl b g 32 0 l):=by
 obtain ⟨v',J',h1,h2,h3⟩:=GrowX.appendG (P:=Tryz.prog) (base:=H0.length) (Z:=Z) (J:=J) (e:=25) (e':=25) (ts:=#[60,60]) (ys:=ys.map DigV.cells) (x:=x) (v:=v) (rows:=r.map DigV.cells) (by simp) (by simp) sz25 by25 (by simp [digest0]) (by decide) hn hZ hg (by simp) hx (by simp) (by simp;omega)
 exact ⟨v',J',h1,by simpa using h2,by simpa using h3⟩
theorem sl_take {P:Program} {t e:TypeId} {n:Nat} (h:P.underlying t=some (.slice e)) (hs:szOf P e=some n) {k:SK} {rows:List (List AV)} (hw:∀r∈rows,r.length=n) {j:Nat} {K:IntKind} (hj:j≤rows.length) :
 ∃x,sliceA P t (slAV k rows).denil none (some (.int K (j:Int))) none=some (.lst (rows.take j) x):=by
 obtain ⟨x,hx⟩:=slAV_denil k rows
 have hwd:wide (szOf P e) rows=true:=by
  cases rows with
  | nil=>simp [wide,hs]
  | cons r l=>simp [wide,hs,hw r (by simp)]
 rw [hx]
 exact ⟨_,by simp only [sliceA,h,hwd,if_true,boundsA,idx_nat,show j<rows.length+1 by omega,Option.map_some,List.drop_zero];rfl⟩
theorem sl_drop {P:Program} {t e:TypeId} {n:Nat} (h:P.underlying t=some (.slice e)) (hs:szOf P e=some n) {k:SK} {rows:List (List AV)} (hw:∀r∈rows,r.length=n) {j:Nat} {K:IntKind} (hj:j≤rows.length) :
 ∃x,sliceA P t (slAV k rows).denil (some (.int K (j:Int))) none none=some (.lst (rows.drop j) x):=by
 obtain ⟨x,hx⟩:=slAV_denil k rows
 have hwd:wide (szOf P e) rows=true:=by
  cases rows with
  | nil=>simp [wide,hs]
  | cons r l=>simp [wide,hs,hw r (by simp)]
 rw [hx]
 exact ⟨_,by simp only [sliceA,h,hwd,if_true,boundsA,idx_nat,show j<rows.length+1 by omega,Option.map_some,List.take_length];rfl⟩
def posD (l:List DigV) (d:DigV):Nat:=(l.takeWhile fun x=>decide (cmpD x.d d.d<0)).length
def withR (a:SK×List DigV) (d:DigV):SK×List DigV:=if (a.2[posD a.2 d]?).map (·.d)=some d.d then a else (.loose,a.2.take (posD a.2 d)++d::a.2.drop (posD a.2 d))
theorem posD_le (l:List DigV) (d:DigV):posD l d≤l.length:=by
 unfold posD;exact (List.takeWhile_sublist _).length_le
theorem posD_lt {l:List DigV} {d:DigV}:∀{i:Nat} (_:i<posD l d) (hi:i<l.length),cmpD l[i].d d.d<0:=by
 induction l with
 | nil=>intro i h hi;simp at hi
 | cons x l ih =>
  intro i h hi
  unfold posD at h
  rw [List.takeWhile_cons] at h
  split at h
  ·rename_i hx
   cases i with
   | zero=>simpa using hx
   | succ i=>exact ih (by unfold posD;simpa using h) (by simpa using hi)
  ·simp at h
theorem posD_at {l:List DigV} {d:DigV}:∀(hi:posD l d<l.length),¬cmpD l[posD l d].d d.d<0:=by
 induction l with
 | nil=>intro hi;simp at hi
 | cons x l ih =>
  intro hi
  by_cases hx:cmpD x.d d.d<0
  ·have e:posD (x::l) d=posD l d+1:=by unfold posD;rw [List.takeWhile_cons,if_pos (by simpa using hx)];rfl
   have hi':posD l d<l.length:=by rw [e] at hi;simpa using hi
   have:=ih hi'
   simp only [e,List.getElem_cons_succ];exact this
  ·have e:posD (x::l) d=0:=by unfold posD;rw [List.takeWhile_cons,if_neg (by simpa using hx)];rfl
   simp only [e,List.getElem_cons_zero];exact hx
theorem withR_mem {a:SK×List DigV} {d:DigV} {e:List Nat}:(∃x∈(withR a d).2,x.d=e)↔(∃x∈a.2,x.d=e)∨d.d=e:=by
 unfold withR
 by_cases h:(a.2[posD a.2 d]?).map (·.d)=some d.d
 ·rw [if_pos h]
  obtain ⟨y,hy,hyd⟩:=Option.map_eq_some_iff.1 h
  refine ⟨.inl,fun h=>h.elim id fun h=>⟨y,List.mem_of_getElem? hy,by rw [hyd,h]⟩⟩
 ·rw [if_neg h]
  have:∀x,x∈a.2.take (posD a.2 d)++d::a.2.drop (posD a.2 d)↔x∈a.2∨x=d:=by
   intro x
   conv=>rhs;rw [←List.take_append_drop (posD a.2 d) a.2]
   simp only [List.mem_append,List.mem_cons];grind
  simp only [this]
  refine ⟨?_,?_⟩
  ·rintro ⟨x,hx | rfl,rfl⟩
   ·exact .inl ⟨x,hx,rfl⟩
   ·exact .inr rfl
  ·rintro (⟨x,hx,rfl⟩ | rfl)
   ·exact ⟨x,.inl hx,rfl⟩
   ·exact ⟨d,.inr rfl,rfl⟩
theorem withR_len (a:SK×List DigV) (d:DigV):(withR a d).2.length≤a.2.length+1:=by
 unfold withR;split
 ·omega
 ·have:=posD_le a.2 d;simp;omega
set_option maxHeartbeats 2000000 in
theorem ret_with (S:Setting7 C) (a:SK×List DigV) (d:DigV) (hl:a.2.length≤2^20):Ret Tryz.prog C 69 [] [slAV a.1 (a.2.map DigV.cells),.agg d.cells] (slAV (withR a d).1 ((withR a d).2.map DigV.cells)):=by
 obtain ⟨k,l⟩:=a
 simp only at hl ⊢
 refine ret_pure (S.pure6 _ (by decide)) fun H=>func_rule Tryz.func69 rfl (S.prim _ (by decide)) (by simp) (by kernel_rfl) ?_
 unfold Tryz.f69
 have e:=eq_digV S.toSetting
 have c:∀a b:DigV,∀base H K,CallW Tryz.prog C base (.fn 34 []) [.agg a.cells,.agg b.cells] H K=K (.int .i64 (cmpD a.d b.d)) H:=fun a b=>(ret_cmpD (S.prim _ (by decide)) (S.pure _ (by decide)) a.d b.d a.h b.h).eq
 have hp:=posD_le l d
 simp [argS]
 refine loop_count (posD l d) (fun i s H'=>H'=H++[.rows 32 0 [d.cells]]∧s 0=slAV k (l.map DigV.cells)∧s 3=.ptr H.length 0 32 0 0∧s 5=.int .i64 i) ?_ ?_
 ·exact ⟨rfl,rfl,rfl,rfl⟩
 rintro i s H' ⟨rfl,e0,e3,e5⟩ hi
 by_cases h:i<posD l d
 ·have hil:i<l.length:=by omega
  have hc:=posD_lt h hil
  simp [e0,e3,e5,guardV,hil,c,hc,wrap_succ h (by omega),h]
 have h':i=posD l d:=by omega
 subst h'
 by_cases heq:(l[posD l d]?).map (·.d)=some d.d
 ·have hw:withR (k,l) d=(k,l):=by unfold withR;rw [if_pos heq]
  rw [hw]
  obtain ⟨y,hy,hyd⟩:=Option.map_eq_some_iff.1 heq
  obtain ⟨hlt,hy⟩:=List.getElem?_eq_some_iff.1 hy
  have hc:=posD_at hlt
  have heq:l[posD l d].d=d.d:=by rw [hy];exact hyd
  generalize posD l d=j at *
  simp [e0,e3,e5,guardV,hlt,c,hc,e,heq]
  rw [heq] at hc
  exact ⟨by omega,fun _=>freeze_closed (slAV_closed (closedss_map DigV.closed _))⟩
 ·have hw:withR (k,l) d=(.loose,l.take (posD l d)++d::l.drop (posD l d)):=by unfold withR;rw [if_neg heq]
  rw [hw]
  have hne:∀h:posD l d<l.length,¬l[posD l d].d=d.d:=by
   intro h hh
   exact heq (by rw [List.getElem?_eq_getElem h];simp [hh])
  have hca:=@posD_at l d
  clear hw heq
  generalize posD l d=j at *
  obtain ⟨x1,hx1⟩:=sl_take (P:=Tryz.prog) (t:=60) (e:=25) (k:=k) (rows:=l.map DigV.cells) (j:=j) (K:=.i64) (by simp) sz25 (by simp) (by simpa using hp)
  obtain ⟨x2,hx2⟩:=sl_drop (P:=Tryz.prog) (t:=60) (e:=25) (k:=k) (rows:=l.map DigV.cells) (j:=j) (K:=.i64) (by simp) sz25 (by simp) (by simpa using hp)
  have e1:(n:Nat)→n=(H++[Blk.rows 32 0 [d.cells]]).length→GrowX n 32 [] (.lst [] true) (([]:List DigV).map DigV.cells):=fun _ _=>.lst []
  obtain ⟨v1,J1,ha1,hg1,_⟩:=app_dg (H0:=H) (Z:=H++[.rows 32 0 [d.cells]]) (J:=[]) (x:=.lst ((l.take j).map DigV.cells) x1) (ys:=l.take j) rfl (by simp) (e1 _ rfl) rfl (by simp;omega)
  obtain ⟨v2,J2,ha2,hg2,hs2⟩:=app_dg (H0:=H) (Z:=H++[.rows 32 0 [d.cells]]) (x:=.lst [d.cells] true) (ys:=[d]) rfl (by simp) hg1 rfl (by simp;omega)
  obtain ⟨v3,J3,ha3,hg3,hs3⟩:=app_dg (H0:=H) (Z:=H++[.rows 32 0 [d.cells]]) (x:=.lst ((l.drop j).map DigV.cells) x2) (ys:=l.drop j) rfl (by simp) hg2 rfl (by simp;omega)
  have hs3:=hs3 (.inr (hs2 (.inl (by simp))))
  have hf:=hg3.freezeS (Z:=H++[.rows 32 0 [d.cells]]) (L:=[]) (k:=H.length) (d:=2) rfl (by simp) (closedss_map DigV.closed _) hs3
  simp only [List.append_assoc,List.cons_append,List.nil_append,List.append_nil,List.map_take,List.map_drop] at ha1 ha2 ha3 hf
  rw [denil_lst] at ha1
  by_cases hlt:j<l.length
  ·have hc:=hca hlt
   have hn:=hne hlt
   simp [e0,e3,e5,guardV,hlt,c,hc,e,hn,buildSliceA,fillRows]
   rw [hx1]
   simp [ha1,ha2,ha3,hx2,e0,e3,e5,buildSliceA,fillRows,show digest0.length=32 from rfl]
   simpa using hf
  ·simp [e0,e3,e5,guardV,hlt,buildSliceA,fillRows]
   rw [hx1]
   simp [ha1,ha2,ha3,hx2,e0,e3,e5,buildSliceA,fillRows,show digest0.length=32 from rfl]
   simpa using hf
end Go.Proofs.Ev
namespace Go.Proofs.Ev
open Go.Proofs
variable {C:Cfg}
def IdV.dv (x:IdV):DigV:=⟨x.d,x.h,x.b⟩
def zeroCh:ChV:=⟨0,zeroId,0,zeroId,[],0,[],zeroId,zeroId,[],.nil,[],.nil⟩
@[simp] theorem zeroCh_cells:AV.int .i64 0::(zeroId.cells++AV.int .i64 0::(zeroId.cells++AV.str []::AV.int .i64 0::AV.str []::(zeroId.cells++(zeroId.cells++[AV.nils,AV.nils]))))=zeroCh.cells:=by simp [ChV.cells,zeroCh,slAV]
def addN (a:SK×List DigV) (x:IdV):SK×List DigV:=if zeroD x.d then a else withR a x.dv
def idsN (c:ChV):List IdV:=[c.file,c.parent,c.after,c.before]++c.over
def chgN (a:SK×List DigV) (c:ChV):SK×List DigV:=(idsN c).foldl addN a
def needsR (p:PatchV):SK×List DigV:=if EncodeE p≠0 then (.exact,[]) else p.changes.foldl chgN (p.deps.foldl withR (.exact,[]))
theorem addN_len (a:SK×List DigV) (x:IdV):(addN a x).2.length≤a.2.length+1:=by
 unfold addN;split
 ·omega
 ·exact withR_len a _
theorem fold_len {α:Type} {f:SK×List DigV→α→SK×List DigV} (hf:∀a x,(f a x).2.length≤a.2.length+1):∀(l:List α) (a:SK×List DigV),(l.foldl f a).2.length≤a.2.length+l.length
 | [],a=>by simp
 | x::l,a=>by have:=fold_len hf l (f a x);have:=hf a x;simp only [List.foldl_cons,List.length_cons];omega
theorem foldl_take {α β:Type} {f:β→α→β} {a:β} {l:List α} {i:Nat} (h:i<l.length):(l.take (i+1)).foldl f a=f ((l.take i).foldl f a) l[i]:=by
 rw [List.take_add_one,List.getElem?_eq_getElem h,List.foldl_append];rfl
theorem chgN_len (c:ChV) (hc:c.over.length≤400) (a:SK×List DigV):(chgN a c).2.length≤a.2.length+404:=by
 have:=fold_len addN_len (idsN c) a
 unfold chgN
 have h2:(idsN c).length≤404:=by simp [idsN];omega
 omega
theorem chgs_len:∀(l:List ChV) (_:∀c∈l,c.over.length≤400) (a:SK×List DigV),(l.foldl chgN a).2.length≤a.2.length+404*l.length
 | [],_,a=>by simp
 | c::l,h,a=>by
  have:=chgs_len l (fun c hc=>h c (by simp [hc])) (chgN a c)
  have:=chgN_len c (h c (by simp)) a
  simp only [List.foldl_cons,List.length_cons];omega
set_option maxRecDepth 100000 in
set_option maxHeartbeats 2000000 in
theorem ret_needs (S:Setting7 C) (p:PatchV) (hp:p.Ok) (hp2:p.Ok2) (hd:p.deps.length≤1000) (hcn:p.changes.length≤1000) (ho:∀c∈p.changes,c.over.length≤400) :
 Ret Tryz.prog C 37 [] [.agg p.cells] (slAV (needsR p).1 ((needsR p).2.map DigV.cells)):=by
 refine ret_pure (S.pure6 _ (by decide)) fun H=>func_rule Tryz.func37 rfl (S.prim _ (by decide)) (by simp) (by kernel_rfl) ?_
 unfold Tryz.f37
 have ck:=(ret_Check16 S.toSetting5 p hp hp2).eq
 by_cases hE:EncodeE p=0
 ·have hR:needsR p=p.changes.foldl chgN (p.deps.foldl withR (.exact,[])):=by unfold needsR;rw [if_neg (by simpa using hE)]
  rw [hR]
  simp [argS,ck,hE,buildSliceA,fillRows]
  refine loop_count p.deps.length (fun i s H'=>H'=H++[.rows 5 0 [p.cells]]∧s 1=.ptr H.length 0 5 0 0∧s 4=.int .i64 i∧s 3=slAV ((p.deps.take i).foldl withR (.exact,[])).1 (((p.deps.take i).foldl withR (.exact,[])).2.map DigV.cells)) ?_ ?_
  ·exact ⟨rfl,rfl,rfl,rfl⟩
  rintro i s H' ⟨rfl,e1,e4,e3⟩ hi
  by_cases h:i<p.deps.length
  ·have hl:=fold_len withR_len (p.deps.take i) (.exact,[])
   have c1:=(ret_with S ((p.deps.take i).foldl withR (.exact,[])) p.deps[i] (by simp at hl;omega)).eq
   rw [←foldl_take (f:=withR) h] at c1
   simp [e1,e4,e3,h,c1,wrap_succ h (by omega)]
  ·have h':i=p.deps.length:=by omega
   subst h'
   rw [List.take_length] at e3
   have hl:=fold_len withR_len p.deps (.exact,[])
   simp at hl
   generalize p.deps.foldl withR (.exact,[])=A at *
   simp [e1,e4,e3]
   refine loop_count p.changes.length (fun i s H'=>∃J,H'=H++.rows 5 0 [p.cells]::J∧s 1=.ptr H.length 0 5 0 0∧s 5=.int .i64 i∧s 3=slAV ((p.changes.take i).foldl chgN A).1 (((p.changes.take i).foldl chgN A).2.map DigV.cells)) ?_ ?_
   ·exact ⟨[],rfl,e1,rfl,e3⟩
   clear e1 e3 e4
   rintro i s H' ⟨J,rfl,e1,e5,e3⟩ hi
   by_cases h:i<p.changes.length
   ·have hlc:=chgs_len (p.changes.take i) (fun c hc=>ho c (List.mem_of_mem_take hc)) A
    have hlt:(p.changes.take i).length≤1000:=by simp;omega
    have hoc:=ho p.changes[i] (List.getElem_mem h)
    have hnext:(p.changes.take (i+1)).foldl chgN A=(idsN p.changes[i]).foldl addN ((p.changes.take i).foldl chgN A):=by rw [foldl_take h];rfl
    generalize (p.changes.take i).foldl chgN A=B at *
    obtain ⟨v7,J7,ha,hg7,_⟩:=GrowX.appendG (P:=Tryz.prog) (base:=H.length) (n:=(H++Blk.rows 5 0 [p.cells]::(J++[Blk.rows 139 0 [p.changes[i].cells]])).length) (Z:=H++.rows 5 0 [p.cells]::(J++[.rows 139 0 [p.changes[i].cells]])) (J:=[]) (e:=27) (e':=27) (ts:=#[34,34]) (v:=.lst [p.changes[i].file.cells,p.changes[i].parent.cells,p.changes[i].after.cells,p.changes[i].before.cells] true) (rows:=[p.changes[i].file.cells,p.changes[i].parent.cells,p.changes[i].after.cells,p.changes[i].before.cells]) (ys:=p.changes[i].over.map IdV.cells) (x:=(slAV p.changes[i].overK (p.changes[i].over.map IdV.cells)).denil) (by simp) (by simp) sz27 by27 (by simp) (by decide) rfl (by simp) (.lst _) (by simp) (slAV_tail _ _) (by simp) (by simp;omega)
    simp only [List.append_assoc,List.cons_append,List.append_nil,denil_lst,List.nil_append] at ha
    have hrow:[p.changes[i].file.cells,p.changes[i].parent.cells,p.changes[i].after.cells,p.changes[i].before.cells]++p.changes[i].over.map IdV.cells=(idsN p.changes[i]).map IdV.cells:=by simp [idsN]
    rw [hrow] at hg7
    simp [e1,e5,e3,h,storeA,buildSliceA,fillRows,ha]
    refine loop_count (idsN p.changes[i]).length (fun j s H'=>H'=H++.rows 5 0 [p.cells]::(J++.rows 139 0 [p.changes[i].cells]::J7)∧s 1=.ptr H.length 0 5 0 0∧s 5=.int .i64 i∧s 7=v7∧s 8=.int .i64 j∧s 3=slAV (((idsN p.changes[i]).take j).foldl addN B).1 ((((idsN p.changes[i]).take j).foldl addN B).2.map DigV.cells)) ?_ ?_
    ·exact ⟨rfl,e1,e5,rfl,rfl,e3⟩
    clear e1 e3 e5
    rintro j s H' ⟨rfl,e1,e5,e7,e8,e3⟩ hj
    have hlen7:=fun HH=>hg7.len (P:=Tryz.prog) (t:=34) (e:=27) (H:=HH) (by simp)
    rw [List.length_map] at hlen7
    by_cases hjl:j<(idsN p.changes[i]).length
    ·have hz:=(ret_zero S.toSetting (idsN p.changes[i])[j].d (idsN p.changes[i])[j].h).eq
     have hfl:=fold_len addN_len ((idsN p.changes[i]).take j) B
     have hidl:(idsN p.changes[i]).length≤404:=by simp [idsN];omega
     have c1:=(ret_with S (((idsN p.changes[i]).take j).foldl addN B) (idsN p.changes[i])[j].dv (by simp at hfl hl hlc;omega)).eq
     have hn2:=foldl_take (f:=addN) (a:=B) hjl
     have hjw:=wrap_succ hjl (by omega)
     generalize hB:((idsN p.changes[i]).take j).foldl addN B=B2 at *
     generalize hB3:((idsN p.changes[i]).take (j+1)).foldl addN B=B3 at *
     have c2:∀base H K,CallW Tryz.prog C base (.fn 69 []) [slAV B2.1 (B2.2.map DigV.cells),.agg (Ev.dig (idsN p.changes[i])[j].d)] H K=K (slAV (withR B2 (idsN p.changes[i])[j].dv).1 ((withR B2 (idsN p.changes[i])[j].dv).2.map DigV.cells)) H:=c1
     have hx:∃q,indexAddrA Tryz.prog 34 v7 (.int .i64 (j:Int))=some q∧addOff q 0=some q∧loadA Tryz.prog (H++.rows 5 0 [p.cells]::(J++.rows 139 0 [p.changes[i].cells]::J7)) 25 q=some (.agg (Ev.dig (idsN p.changes[i])[j].d)):=by
      rcases hg7 with ⟨h7,_⟩ | h7 | ⟨b7,g7,h7,hb7⟩
      ·simp [idsN] at h7
      ·rw [h7]
       exact ⟨.eptr (idsN p.changes[i])[j].cells,by simp [hjl],by simp,by simp⟩
      ·have hget:(H++.rows 5 0 [p.cells]::(J++.rows 139 0 [p.changes[i].cells]::J7))[(H++Blk.rows 5 0 [p.cells]::(J++[Blk.rows 139 0 [p.changes[i].cells]])).length+b7]?=some (.rows 33 g7 ((idsN p.changes[i]).map IdV.cells)):=by
        rw [show H++Blk.rows 5 0 [p.cells]::(J++.rows 139 0 [p.changes[i].cells]::J7)=(H++Blk.rows 5 0 [p.cells]::(J++[Blk.rows 139 0 [p.changes[i].cells]]))++J7 by simp,app_get]
        exact hb7
       rw [h7]
       refine ⟨.ptr ((H++Blk.rows 5 0 [p.cells]::(J++[Blk.rows 139 0 [p.changes[i].cells]])).length+b7) g7 33 (0+j) 0,by rw [ia_sl (by simp) sz27];simp [hjl],by simp,?_⟩
       rw [load_ptr,blkRow_eq hget]
       simp [hjl]
     obtain ⟨q,q1,q2,q3⟩:=hx
     cases hzz:zeroD (idsN p.changes[i])[j].d with
     | true =>
      have hB4:B3=B2:=by rw [hn2,addN,if_pos hzz]
      simp [e1,e5,e7,e8,e3,hlen7,hjl,q1,q2,q3,hz,hzz,hjw]
      rw [hB3,hB4]
     | false =>
      have hB4:B3=withR B2 (idsN p.changes[i])[j].dv:=by rw [hn2,addN,if_neg (by simp [hzz])]
      simp [e1,e5,e7,e8,e3,hlen7,hjl,q1,q2,q3,hz,hzz,hjw,c2]
      rw [hB3,hB4]
    ·have hj':j=(idsN p.changes[i]).length:=by omega
     subst hj'
     rw [List.take_length] at e3
     rw [←hnext] at e3
     simp [e1,e5,e7,e8,hlen7,e3,h,wrap_succ h (by omega)]
   ·have h':i=p.changes.length:=by omega
    subst h'
    rw [List.take_length] at e3
    simp [e1,e5,e3]
    exact freeze_closed (slAV_closed (closedss_map DigV.closed _))
 ·have hR:needsR p=(.exact,[]):=by unfold needsR;rw [if_pos hE]
  have hb:(EncodeE p != 0)=true:=by simpa using hE
  rw [hR]
  simp [argS,ck,hE,hb,buildSliceA,fillRows]
  rfl
end Go.Proofs.Ev
