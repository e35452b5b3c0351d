/- Part 10 of the proof that quiltlaw38.BlameNames returns true: no statement of its own. -/
import Derived.Test.YtckbkhfaahpanaaGreatDoorN9
set_option linter.all false
namespace Go.Proofs.Ev
open Go.Proofs
variable {C:Cfg}
structure Setting4 (C:Cfg):Prop extends Setting3 C where
 pure4:∀f,f∈[270,335,333,334,268,269]→C.pure f=true
 frz4:∀f,f∈[174]→C.pure f=false∧C.frz f=true
 plain4:∀f,f∈[175]→C.pure f=false∧C.frz f=false
@[simp] theorem SX.take3 (x:SX):x.cells.take 3=x.cells:=List.take_of_length_le (by simp)
@[simp] theorem SX.drop0 (x:SX):x.cells.drop 0=x.cells:=rfl
theorem SX.length_le:∀l:List SX,l.length≤SX.nodess l
 | []=>Nat.le_refl _
 | x::l=>by have:=SX.length_le l;have:=x.nodes_pos;rw [SX.nodess,List.length_cons];omega
set_option maxRecDepth 100000 in
set_option maxHeartbeats 2000000 in
theorem ret_count (S:Setting4 C):∀(n:Nat) (x:SX) (lim dep:Int),x.nodes≤n→n≤2^60→0≤lim→lim≤2^40→0≤dep→dep≤2^40→
 Ret Tryz.prog C 333 [] [.agg x.cells,.int .i64 lim,.int .i64 dep] (.int .i64 (x.cnt lim dep))
 | 0,x,_,_,h,_,_,_,_,_=>by have:=x.nodes_pos;omega
 | n+1,.mk b a l k,lim,dep,hn,hn2,hl,hl2,hd,hd2=>by
  have ih:=ret_count S n
  refine ret_pure (S.pure4 _ (by decide)) fun H=>func_rule Tryz.func333 rfl (S.prim _ (by decide)) (by simp) (by kernel_rfl) ?_
  unfold Tryz.f333
  rw [SX.nodes] at hn
  have hll:=SX.length_le l
  rw [SX.cells,SX.rows_map]
  by_cases h0:dep<1∨lim<1
  ·have w1:IntKind.i64.wrap (lim+1)=lim+1:=wrap_in (by omega) (by omega)
   rcases h0 with h0 | h0
   ·simp [argS,guardV,h0,SX.cnt,w1]
   ·by_cases h1:dep<1
    ·simp [argS,guardV,h1,SX.cnt,w1]
    ·simp [argS,guardV,h0,h1,SX.cnt,w1]
  ·have h1:¬dep<1:=by omega
   have h2:¬lim<1:=by omega
   cases b with
   | false=>simp [argS,guardV,h1,h2,SX.cnt]
   | true =>
    have hx:(SX.mk true a l k).cnt lim dep=SX.cnts l lim (dep-1) 1:=by rw [SX.cnt,if_neg (by omega)];rfl
    rw [hx]
    simp [argS,guardV,h1,h2]
    refine loop_count l.length (fun i s H'=>H'=H++[.rows 3 0 [[.bool true,.str a,slAV k (l.map SX.cells)]]]∧s 3=.ptr H.length 0 3 0 0∧s 1=.int .i64 lim∧s 2=.int .i64 dep∧s 8=.int .i64 i∧
     ∃m:Int,s 7=.int .i64 m∧1≤m∧m≤lim+1∧SX.cnts l lim (dep-1) 1=SX.cnts (l.drop i) lim (dep-1) m) ?_ ?_
    ·exact ⟨rfl,rfl,rfl,rfl,rfl,1,rfl,by omega,by omega,rfl⟩
    rintro i s H' ⟨rfl,e3,e1,e2,e8,m,e7,hm1,hm2,hc⟩ hi
    by_cases h:i<l.length
    ·rw [List.drop_eq_getElem_cons h,SX.cnts] at hc
     by_cases hm:m≤lim
     ·rw [if_pos hm] at hc
      have hmem:l[i]∈l:=List.getElem_mem h
      have hno:=SX.nodes_mem hmem
      have w1:IntKind.i64.wrap (lim-m)=lim-m:=wrap_in (by omega) (by omega)
      have w2:IntKind.i64.wrap (dep-1)=dep-1:=wrap_in (by omega) (by omega)
      have c1:=(ih l[i] (lim-m) (dep-1) (by omega) (by omega) (by omega) (by omega) (by omega) (by omega)).eq
      have b1:=SX.cnt_n n l[i] (lim-m) (dep-1) (by omega) (by omega)
      have w3:IntKind.i64.wrap (m+l[i].cnt (lim-m) (dep-1))=m+l[i].cnt (lim-m) (dep-1):=wrap_in (by omega) (by omega)
      simp [e3,e1,e2,e8,e7,guardV,h,hm,w1,w2,w3,c1,wrap_succ h (by omega)]
      exact ⟨by omega,by omega,hc⟩
     ·rw [if_neg hm] at hc
      simp [e3,e1,e2,e8,e7,guardV,h,hm,hc]
    ·have h':i=l.length:=by omega
     subst h'
     rw [List.drop_length,SX.cnts] at hc
     simp [e3,e1,e2,e8,e7,guardV,hc]
set_option maxRecDepth 100000 in
set_option maxHeartbeats 2000000 in
theorem ret_chk (S:Setting4 C):∀(n:Nat) (x:SX),x.nodes≤n→n≤2^60→Ret Tryz.prog C 334 [] [.agg x.cells] (.int .i64 x.chk)
 | 0,x,h,_=>by have:=x.nodes_pos;omega
 | n+1,.mk b a l k,hn,hn2=>by
  have ih:=ret_chk S n
  refine ret_pure (S.pure4 _ (by decide)) fun H=>func_rule Tryz.func334 rfl (S.prim _ (by decide)) (by simp) (by kernel_rfl) ?_
  unfold Tryz.f334
  rw [SX.nodes] at hn
  have hll:=SX.length_le l
  rw [SX.cells,SX.rows_map]
  cases b with
  | false =>
   rw [SX.chk]
   by_cases h1:0<l.length
   ·simp [argS,h1]
   ·have hl0:l=[]:=List.length_eq_zero_iff.1 (by omega)
    subst hl0
    by_cases h2:65536<a.length
    ·simp [argS,h2,show (65536:Int)<a.length by omega]
    ·simp [argS,h2,show ¬(65536:Int)<a.length by omega]
  | true =>
   by_cases ha:a=[]
   ·subst ha
    have hx:(SX.mk true [] l k).chk=SX.chks l:=rfl
    rw [hx]
    simp [argS]
    refine loop_count l.length (fun i s H'=>H'=H++[.rows 3 0 [[.bool true,.str [],slAV k (l.map SX.cells)]]]∧s 1=.ptr H.length 0 3 0 0∧s 3=.int .i64 i∧SX.chks l=SX.chks (l.drop i)) ?_ ?_
    ·exact ⟨rfl,rfl,rfl,rfl⟩
    rintro i s H' ⟨rfl,e1,e3,hc⟩ hi
    by_cases h:i<l.length
    ·rw [List.drop_eq_getElem_cons h,SX.chks] at hc
     have hno:=SX.nodes_mem (List.getElem_mem h)
     have c1:=(ih l[i] (by omega) (by omega)).eq
     by_cases h0:l[i].chk=0
     ·rw [if_neg (by simpa using h0)] at hc
      simp [e3,e1,h,h0,c1,wrap_succ h (by omega)]
      exact hc
     ·rw [if_pos h0] at hc
      simp [e3,e1,h,h0,c1,hc]
    ·have h':i=l.length:=by omega
     subst h'
     rw [List.drop_length,SX.chks] at hc
     simp [e3,e1,hc]
   ·have hx:(SX.mk true a l k).chk=1:=by rw [SX.chk,if_pos ha]
    simp [argS,ha,hx]
set_option maxRecDepth 100000 in
theorem ret_decimal (S:Setting4 C) (k:Nat):∀n:Nat,n<k→n≤2^60→Ret Tryz.prog C 335 [] [.int .i64 (n:Int)] (.str (decN n)):=by
 induction k with
 | zero=>intro n h;omega
 | succ k ihk =>
  intro n h h2
  refine ret_pure (S.pure4 _ (by decide)) fun H=>func_rule Tryz.func335 rfl (S.prim _ (by decide)) (by simp) (by kernel_rfl) ?_
  unfold Tryz.f335
  by_cases h10:n<10
  ·have h10':(n:Int)<10:=by omega
   have w1:IntKind.i64.wrap (48+n)=48+n:=wrap_in (by omega) (by omega)
   have w2:IntKind.u8.wrap (48+n)=48+n:=IntWalk.u8_in _ (by omega)
   have w3:((48:Int)+n).toNat=48+n:=by omega
   rw [decN,if_pos h10]
   simp [argS,h10,h10',w1,w2,w3,show ¬(n:Int)<0 by omega,buildSliceA,fillRows,convertA,rowsOf,bytesA,-UInt8.ofNat_add]
  ·have ih:∀base H K,CallW Tryz.prog C base (.fn 335 []) [.int .i64 ((n:Int) / 10)] H K=K (.str (decN (n / 10))) H:=(ihk (n / 10) (by omega) (by omega)).eq
   have e1:IntKind.i64.wrap ((n:Int) / 10)=(n:Int) / 10:=wrap_in (by omega) (by omega)
   have w1:IntKind.i64.wrap (48+(n:Int) % 10)=48+(n:Int) % 10:=wrap_in (by omega) (by omega)
   have w2:IntKind.u8.wrap (48+(n:Int) % 10)=48+(n:Int) % 10:=IntWalk.u8_in _ (by omega)
   have w3:((48:Int)+(n:Int) % 10).toNat=48+n % 10:=by omega
   have hd:=decN_len 60 (n / 10) (Nat.lt_of_le_of_lt (Nat.div_le_self _ _) (Nat.lt_of_le_of_lt h2 (by decide))) (by decide)
   rw [decN,if_neg h10]
   have a1:=bins_add (P:=Tryz.prog) (C:=C) (t:=9) (x:=decN (n / 10)) (y:=[UInt8.ofNat (48+n % 10)]) (by simp;omega)
   have q1:(n:Int).tdiv 10=(n:Int) / 10:=Int.tdiv_eq_ediv_of_nonneg (by omega)
   have q2:(n:Int).tmod 10=(n:Int) % 10:=Int.tmod_eq_emod_of_nonneg (by omega)
   simp [argS,h10,show ¬(n:Int)<0 by omega,show ¬(n:Int)<10 by omega,bin_quo,bin_rem,q1,q2,e1,ih,w1,w2,w3,a1,buildSliceA,fillRows,convertA,rowsOf,bytesA,-UInt8.ofNat_add]
theorem ret_decI (S:Setting4 C) (n:Int) (h1 : -(2^40)≤n) (h2:n≤2^40):Ret Tryz.prog C 335 [] [.int .i64 n] (.str (decI n)):=by
 by_cases hn:n<0
 ·obtain ⟨m,rfl⟩:∃m:Nat,n = -(m:Int):=⟨n.natAbs,by omega⟩
  have hm:m≤2^40:=by omega
  refine ret_pure (S.pure4 _ (by decide)) fun H=>func_rule Tryz.func335 rfl (S.prim _ (by decide)) (by simp) (by kernel_rfl) ?_
  unfold Tryz.f335
  have ih:=(ret_decimal S (m+1) m (by omega) (by omega)).eq
  have e1:IntKind.i64.wrap (m:Int)=m:=wrap_nat (by omega)
  have hd:=decN_len 60 m (Nat.lt_of_le_of_lt hm (by decide)) (by decide)
  have a1:=bins_add (P:=Tryz.prog) (C:=C) (t:=9) (x:=[45]) (y:=decN m) (by simp;omega)
  rw [decI,if_pos hn]
  simp [argS,hn,show ¬(-(m:Int)) < -9223372036854775807 by omega,show 0<m by omega,show ¬(9223372036854775807<m) by omega,e1,ih,a1]
 ·obtain ⟨m,rfl⟩:∃m:Nat,n=(m:Int):=⟨n.toNat,by omega⟩
  rw [decI,if_neg hn]
  exact ret_decimal S (m+1) m (by omega) (by omega)
def numX (n:Int):SX:=.mk false (if n < -1099511627776∨1099511627776<n then [] else decI n) [] .nil
theorem numX_cells (n:Int):(numX n).cells=[.bool false,.str (if n < -1099511627776∨1099511627776<n then [] else decI n),.nils]:=rfl
theorem ret_int (S:Setting4 C) (n:Int):Ret Tryz.prog C 270 [] [.int .i64 n] (.tup [.agg (numX n).cells,.int .i64 (if n < -1099511627776∨1099511627776<n then 2 else 0)]):=by
 refine ret_pure (S.pure4 _ (by decide)) fun H=>func_rule Tryz.func270 rfl (S.prim _ (by decide)) (by simp) (by kernel_rfl) ?_
 unfold Tryz.f270
 rw [numX_cells]
 by_cases h:n < -1099511627776∨1099511627776<n
 ·rw [if_pos h,if_pos h]
  by_cases h1:n < -1099511627776
  ·simp [argS,guardV,storeA,fillA,h1]
   simp [freeze_closed,AV.closed,AV.closeds]
  ·have h2:1099511627776<n:=by omega
   simp [argS,guardV,storeA,fillA,h1,h2]
   simp [freeze_closed,AV.closed,AV.closeds]
 ·rw [if_neg h,if_neg h]
  have e1:=(ret_decI S n (by omega) (by omega)).eq
  simp [argS,guardV,e1,storeA,fillA,show ¬n < -1099511627776 by omega,show ¬(1099511627776:Int)<n by omega]
  simp [freeze_closed,AV.closed,AV.closeds]
set_option maxRecDepth 100000 in
set_option maxHeartbeats 2000000 in
theorem ret_enc (S:Setting4 C):∀(n:Nat) (x:SX),x.nodes≤n→n≤2^40→x.chk=0→Ret Tryz.prog C 269 [] [.agg x.cells] (.str x.enc)
 | 0,x,h,_,_=>by have:=x.nodes_pos;omega
 | n+1,.mk b a l k,hn,hn2,hk=>by
  have ih:=ret_enc S n
  refine ret_pure (S.pure4 _ (by decide)) fun H=>func_rule Tryz.func269 rfl (S.prim _ (by decide)) (by simp) (by kernel_rfl) ?_
  unfold Tryz.f269
  rw [SX.nodes] at hn
  have hll:=SX.length_le l
  rw [SX.cells,SX.rows_map]
  cases b with
  | false =>
   rw [SX.chk] at hk
   have hl0:l=[]:=by
    cases l with
    | nil=>rfl
    | cons x l=>simp at hk
   subst hl0
   have ha:a.length≤65536:=by
    rcases Nat.lt_or_ge 65536 a.length with h | h
    ·simp [h] at hk
    ·exact h
   have hd:=decN_len 5 a.length (by omega) (by decide)
   have e1:=(ret_decimal S (a.length+1) a.length (by omega) (by omega)).eq
   have a1:=bins_add (P:=Tryz.prog) (C:=C) (t:=9) (x:=decN a.length) (y:=[58]) (by simp;omega)
   have a2:=bins_add (P:=Tryz.prog) (C:=C) (t:=9) (x:=decN a.length++[58]) (y:=a) (by simp;omega)
   rw [SX.enc]
   simp [argS,e1,a1,a2]
  | true =>
   rw [SX.chk] at hk
   have ha:a=[]:=by
    by_cases ha:a=[]
    ·exact ha
    ·simp [ha] at hk
   subst ha
   have hk:SX.chks l=0:=by simpa using hk
   have hx:(SX.mk true [] l k).enc=40::SX.encs l++[41]:=rfl
   rw [hx]
   simp [argS]
   refine loop_count l.length (fun i s H'=>H'=H++[.rows 3 0 [[.bool true,.str [],slAV k (l.map SX.cells)]]]∧s 1=.ptr H.length 0 3 0 0∧s 4=.int .i64 i∧s 3=.str (40::SX.encs (l.take i))) ?_ ?_
   ·exact ⟨rfl,rfl,rfl,rfl⟩
   rintro i s H' ⟨rfl,e1,e4,e3⟩ hi
   by_cases h:i<l.length
   ·have hno:=SX.nodes_mem (List.getElem_mem h)
    have hc0:=SX.chks_mem hk (List.getElem_mem h)
    have c1:=(ih l[i] (by omega) (by omega) hc0).eq
    have g1:=SX.encs_take_len n l hk (by omega) i
    have g2:=SX.enc_len n l[i] (by omega) hc0
    have a1:=bins_add (P:=Tryz.prog) (C:=C) (t:=9) (x:=40::SX.encs (l.take i)) (y:=l[i].enc) (by simp;omega)
    simp [e3,e1,e4,h,c1,a1,wrap_succ h (by omega)]
    have et:l.take (i+1)=l.take i++[l[i]]:=by rw [List.take_add_one,List.getElem?_eq_getElem h];rfl
    rw [et,SX.encs_append];simp [SX.encs]
   ·have h':i=l.length:=by omega
    subst h'
    have g1:=SX.encs_take_len n l hk (by omega) l.length
    rw [List.take_length] at e3 g1
    have a1:=bins_add (P:=Tryz.prog) (C:=C) (t:=9) (x:=40::SX.encs l) (y:=[41]) (by simp;omega)
    simp [e3,e1,e4,a1]
theorem ret_Check1 (S:Setting4 C) (x:SX) (h:x.nodes≤2^40):Ret Tryz.prog C 268 [] [.agg x.cells] (.int .i64 (if 20000<x.cnt 20000 12 then 4 else x.chk)):=by
 refine ret_pure (S.pure4 _ (by decide)) fun H=>func_rule Tryz.func268 rfl (S.prim _ (by decide)) (by simp) (by kernel_rfl) ?_
 unfold Tryz.f268
 have e1:=(ret_count S _ x 20000 12 h (by omega) (by omega) (by omega) (by omega) (by omega)).eq
 have e2:=(ret_chk S _ x h (by omega)).eq
 by_cases h:20000<x.cnt 20000 12
 ·simp [argS,e1,e2,h]
 ·simp [argS,e1,e2,h]
def encE (x:SX):Int:=if 20000<x.cnt 20000 12 then 4 else x.chk
theorem ret_Encode1 (S:Setting4 C) (x:SX) (h:x.nodes≤2^40):Ret0 Tryz.prog C 174 [.agg x.cells] (.tup [.str (if encE x=0 then x.enc else []),.int .i64 (encE x)]):=by
 refine ret_frzH (S.frz4 _ (by decide)).1 (S.frz4 _ (by decide)).2 rfl fun H=>func_rule Tryz.func174 rfl (S.prim _ (by decide)) (by simp) (by kernel_rfl) ?_
 unfold Tryz.f174
 have e1:∀base H K,CallW Tryz.prog C base (.fn 268 []) [.agg x.cells] H K=K (.int .i64 (encE x)) H:=(ret_Check1 S x h).eq
 by_cases h0:encE x=0
 ·have hk:x.chk=0:=by
   unfold encE at h0
   split at h0
   ·omega
   ·exact h0
  have e2:=(ret_enc S _ x h (by omega) hk).eq
  simp [argS,e1,e2,h0]
 ·simp [argS,e1,h0]
end Go.Proofs.Ev
namespace Go.Proofs.Ev
open Go.Proofs
variable {C:Cfg}
structure Setting5 (C:Cfg):Prop extends Setting4 C where
 pure5:∀f,f∈[176,177,172,266,267,173,115,65,68,265]→C.pure f=true
@[simp] theorem denil_ptr (b g e i f:Nat):AV.denil (.ptr b g e i f)=.ptr b g e i f:=rfl
@[simp] theorem denil_eptr (c:List AV):AV.denil (.eptr c)=.eptr c:=rfl
@[simp] theorem denil_fn (f:FuncId) (c:List AV):AV.denil (.fn f c)=.fn f c:=rfl
@[simp] theorem denil_bool (b:Bool):AV.denil (.bool b)=.bool b:=rfl
def atomX (s:List UInt8):SX:=.mk false s [] .nil
def listX (l:List SX) (k:SK):SX:=.mk true [] l k
theorem atomX_cells (s:List UInt8):(atomX s).cells=[.bool false,.str s,.nils]:=rfl
theorem listX_cells (l:List SX) (k:SK):(listX l k).cells=[.bool true,.str [],slAV k (l.map SX.cells)]:=by rw [listX,SX.cells,SX.rows_map]
def bytesD (d:List Nat):List UInt8:=d.map UInt8.ofNat
def digX (d:List Nat):SX:=if zeroD d then atomX [] else atomX (bytesD d)
def refX (x:IdV):SX:=listX [digX x.d,numX x.n] .exact
def exK {α:Type} (l:List α):SK:=if l.isEmpty then .exact else .loose
def overX (l:List IdV):SX:=listX (l.map refX) (exK l)
theorem ret_atom (S:Setting5 C) (s:List UInt8):Ret Tryz.prog C 176 [] [.str s] (.agg (atomX s).cells):=by
 refine ret_pure (S.pure5 _ (by decide)) fun H=>func_rule Tryz.func176 rfl (S.prim _ (by decide)) (by simp) (by kernel_rfl) ?_
 unfold Tryz.f176
 rw [atomX_cells]
 simp [argS,storeA,fillA]
 simp [freeze_closed,AV.closed,AV.closeds]
theorem ret_number (S:Setting5 C) (n:Int):Ret Tryz.prog C 177 [] [.int .i64 n] (.agg (numX n).cells):=by
 refine ret_pure (S.pure5 _ (by decide)) fun H=>func_rule Tryz.func177 rfl (S.prim _ (by decide)) (by simp) (by kernel_rfl) ?_
 unfold Tryz.f177
 have e1:=(ret_int S.toSetting4 n).eq
 simp [argS,storeA,fillA,e1,List.take_of_length_le]
 simp [freeze_closed,AV.closed,AV.closeds]
theorem list_eq (S:Setting5 C) (v:AV) (hv:v.leaf=true) (hc:v.cells=[v]) {base:Nat} {H:Heap} (hb:base≤H.length) (K:AV→Heap→Prop) :
 CallW Tryz.prog C base (.fn 175 []) [v] H K=K (.agg [.bool true,.str [],v]) (H++[.rows 3 0 [[.bool true,.str [],v]]]):=by
 refine CallW.eq (call_rule (S.plain4 _ (by decide)).1 (S.plain4 _ (by decide)).2 (func_rule Tryz.func175 rfl (S.prim _ (by decide)) (by simp) (by kernel_rfl) ?_)) K
 unfold Tryz.f175
 simp [argS,storeA,fillA,hv,hc,hb]
theorem Grow.leafv {n sz:Nat} {J:Heap} {v:AV} {rows:List (List AV)} (hg:Grow n sz J v rows):v.leaf=true:=by
 rcases hg with ⟨_,rfl | rfl⟩ | ⟨b,g,rfl,_⟩<;>rfl
theorem Grow.cellv {n sz:Nat} {J:Heap} {v:AV} {rows:List (List AV)} (hg:Grow n sz J v rows):v.cells=[v]:=by
 rcases hg with ⟨_,rfl | rfl⟩ | ⟨b,g,rfl,_⟩<;>rfl
theorem Grow.app {n sz:Nat} {J:Heap} {v:AV} {rows:List (List AV)} (hg:Grow n sz J v rows) (L:Heap):Grow n sz (J++L) v rows:=by
 rcases hg with ⟨h,hv⟩ | ⟨b,g,rfl,hb⟩
 ·exact .inl ⟨h,hv⟩
 ·exact .inr ⟨b,g,rfl,by rw [List.getElem?_append_left (List.getElem?_eq_some_iff.1 hb).1];exact hb⟩
theorem Grow.kind {n sz:Nat} {J:Heap} {v:AV} {rows:List (List AV)} (hg:Grow n sz J v rows) (hv:rows=[]→v=.lst [] true):growK v=exK rows:=by
 rcases hg with ⟨h,_⟩ | ⟨b,g,rfl,hb⟩
 ·subst h;rw [hv rfl];rfl
 ·cases rows with
  | nil=>have:=hv rfl;cases this
  | cons a l=>rfl
theorem bytesA_dig:∀d:List Nat,bytesA ((dig d).map fun c=>[c])=some (bytesD d)
 | []=>rfl
 | n::d=>by
  have:=bytesA_dig d
  simp only [dig,List.map_cons,bytesA,bytesD] at this ⊢
  rw [this];simp [bytesD]
theorem ret_bytes (S:Setting5 C) (d:List Nat) (hd:d.length=32):Ret Tryz.prog C 265 [] [.agg (dig d)] (.str (bytesD d)):=by
 refine ret_pure (S.pure5 _ (by decide)) fun H=>func_rule Tryz.func265 rfl (S.prim _ (by decide)) (by simp) (by kernel_rfl) ?_
 unfold Tryz.f265
 have hb:=bytesA_dig d
 simp [argS,hd,sliceA,boundsA,convertA,rowsOf,List.take_of_length_le,hb]
theorem ret_digest (S:Setting5 C) (d:List Nat) (hd:d.length=32):Ret Tryz.prog C 172 [] [.agg (dig d)] (.agg (digX d).cells):=by
 refine ret_pure (S.pure5 _ (by decide)) fun H=>func_rule Tryz.func172 rfl (S.prim _ (by decide)) (by simp) (by kernel_rfl) ?_
 unfold Tryz.f172
 have e1:=(ret_zero S.toSetting d hd).eq
 have e2:=fun s=>(ret_atom S s).eq
 have e3:=(ret_bytes S d hd).eq
 cases hz:zeroD d with
 | true =>
  simp [argS,hd,e1,e2,e3,hz,digX,storeA,List.take_of_length_le]
  simp [freeze_closed,AV.closed,AV.closeds]
 | false =>
  simp [argS,hd,e1,e2,e3,hz,digX,storeA,List.take_of_length_le]
  simp [freeze_closed,AV.closed,AV.closeds]
theorem ret_reference (S:Setting5 C) (x:IdV):Ret Tryz.prog C 266 [] [.agg x.cells] (.agg (refX x).cells):=by
 refine ret_pure (S.pure5 _ (by decide)) fun H=>func_rule Tryz.func266 rfl (S.prim _ (by decide)) (by simp) (by kernel_rfl) ?_
 unfold Tryz.f266
 have e1:=(ret_digest S x.d x.h).eq
 have e2:=(ret_number S x.n).eq
 have e3:=fun v hv hc (H':Heap) hb K=>list_eq (C:=C) S v hv hc (base:=H.length) (H:=H') hb K
 simp [argS,e1,e2,buildSliceA,fillRows]
 rw [e3 _ (by simp) (by simp) _ (by simp),kOpsU_turn (h:=by kernel_rfl)]
 simp [storeA,fillA]
 rw [kOpsU_turn (h:=by kernel_rfl)]
 rw [refX,listX_cells]
 simp [storeA,fillA]
 simp [freeze_closed,AV.closed,AV.closeds,AV.closedss,slAV]
set_option maxHeartbeats 1000000 in
theorem ret_over (S:Setting5 C) (l:List IdV) (K:SK) (hl:l.length≤2^30):Ret Tryz.prog C 267 [] [slAV K (l.map IdV.cells)] (.agg (overX l).cells):=by
 refine ret_pure (S.pure5 _ (by decide)) fun H=>func_rule Tryz.func267 rfl (S.prim _ (by decide)) (by simp) (by kernel_rfl) ?_
 unfold Tryz.f267
 simp [argS,buildSliceA,fillRows]
 refine loop_count l.length (fun i s H'=>∃J,H'=H++.rows 3 0 [[.bool false,.str [],.nils]]::J∧s 0=slAV K (l.map IdV.cells)∧s 2=.ptr H.length 0 3 0 0∧s 4=.int .i64 i∧
  Grow (H.length+1) 3 J (s 3) ((l.take i).map fun x=>(refX x).cells)∧(i=0→s 3=.lst [] true)) ?_ ?_
 ·exact ⟨[],rfl,rfl,rfl,rfl,.lst,fun _=>rfl⟩
 rintro i s H' ⟨J,rfl,e0,e2,e4,hg,hz⟩ hi
 by_cases h:i<l.length
 ·have c1:=(ret_reference S l[i]).eq
  obtain ⟨v',J',ha,hg',_⟩:=Grow.append (P:=Tryz.prog) (base:=H.length) (Z:=H++[.rows 3 0 [[.bool false,.str [],.nils]]]) (e:=269) (e':=269) (ts:=#[267,267]) (ys:=[(refX l[i]).cells]) (x:=.lst [(refX l[i]).cells] true) (by simp) (by simp) sz269 by269 (by simp) (by decide) (by simp) (by simpa using hg) rfl (by simp) (by simp;omega)
  simp at ha hg'
  simp [e0,e2,e4,h,c1,buildSliceA,fillRows,ha,wrap_succ h (by omega)]
  rw [List.take_add_one,List.getElem?_map,List.getElem?_eq_getElem h]
  simpa using hg'
 ·have h':i=l.length:=by omega
  subst h'
  rw [List.take_length] at hg
  have e3:=fun v hv hc (H':Heap) hb K=>list_eq (C:=C) S v hv hc (base:=H.length) (H:=H') hb K
  simp [e0,e2,e4]
  rw [e3 _ hg.leafv hg.cellv _ (by simp)]
  simp [storeA,fillA,e2,hg.leafv,hg.cellv]
  rw [freeze_agg (ws:=(overX l).cells)]
  have hk:=hg.kind fun h=>hz (by simpa using h)
  have hf:=(hg.app [.rows 3 0 [[.bool true,.str [],s 3]]]).freeze (Z:=H++[.rows 3 0 [[.bool true,.str [],s 3]]]) (k:=H.length) (d:=1) (by simp) (by omega) (closedss_map (fun x=>SX.closed (refX x)) _)
  rw [hk] at hf
  simp at hf
  rw [overX,listX_cells]
  simp [hf,Function.comp_def,exK]
end Go.Proofs.Ev
namespace Go.Proofs.Ev
variable {P:Program} {base:Nat}
def GrowX (n sz:Nat) (J:Heap) (v:AV) (rows:List (List AV)):Prop:=(rows=[]∧v=.nils)∨v=.lst rows true∨∃b g,v=.sl (n+b) g sz 0 rows.length∧J[b]?=some (.rows sz g rows)
theorem GrowX.nils {n sz:Nat} {J:Heap}:GrowX n sz J .nils []:=.inl ⟨rfl,rfl⟩
theorem GrowX.lst {n sz:Nat} {J:Heap} (rows:List (List AV)):GrowX n sz J (.lst rows true) rows:=.inr (.inl rfl)
theorem GrowX.leafv {n sz:Nat} {J:Heap} {v:AV} {rows:List (List AV)} (hg:GrowX n sz J v rows):v.leaf=true:=by
 rcases hg with ⟨_,rfl⟩ | rfl | ⟨b,g,rfl,_⟩<;>rfl
theorem GrowX.cellv {n sz:Nat} {J:Heap} {v:AV} {rows:List (List AV)} (hg:GrowX n sz J v rows):v.cells=[v]:=by
 rcases hg with ⟨_,rfl⟩ | rfl | ⟨b,g,rfl,_⟩<;>rfl
theorem GrowX.app {n sz:Nat} {J:Heap} {v:AV} {rows:List (List AV)} (hg:GrowX n sz J v rows) (L:Heap):GrowX n sz (J++L) v rows:=by
 rcases hg with h | h | ⟨b,g,rfl,hb⟩
 ·exact .inl h
 ·exact .inr (.inl h)
 ·exact .inr (.inr ⟨b,g,rfl,by rw [List.getElem?_append_left (List.getElem?_eq_some_iff.1 hb).1];exact hb⟩)
theorem GrowX.len {t e:TypeId} (h:P.underlying t=some (.slice e)) {n sz:Nat} {J H:Heap} {v:AV} {rows:List (List AV)} (hg:GrowX n sz J v rows):lenA P H t v.denil=some (.int .i64 rows.length):=by
 rcases hg with ⟨rfl,rfl⟩ | rfl | ⟨b,g,rfl,_⟩
 ·exact len_lst h H [] true
 ·exact len_lst h H _ true
 ·exact len_sl h H _ _ _ _ _
theorem GrowX.append {ts:Array TypeId} {e e' sz by_:Nat} (h0:(ts[0]?).bind P.underlying=some (.slice e)) (h1:(ts[1]?).bind P.underlying=some (.slice e')) (hs:szOf P e=some sz) (hb:bytesOf P e=some by_)
 (hz:(ofZero P e).map (fun z=>z.cells.length)=some sz) (hp:0<sz) {Z J:Heap} (hY:base≤Z.length) {v x:AV} {rows ys:List (List AV)} (hg:GrowX Z.length sz J v rows) (hr:∀r∈rows,r.length=sz)
 (hx:tailRows (Z++J) (.slice e') x=some ys) (hy:∀r∈ys,r.length=sz) (hne:ys≠[]) (hbound:(rows.length+ys.length)*(by_+1)≤2^45) :
 ∃b g J',appendA P base (Z++J) ts v.denil x=some (.sl (Z.length+b) g sz 0 (rows.length+ys.length),Z++J')∧J'[b]?=some (.rows sz g (rows++ys))∧(∀k,k≠b→k<J.length→J'[k]?=J[k]?)∧((∃g' l,v=.sl (Z.length+b) g' sz 0 l)∨J.length≤b):=by
 have hc:(ys.all fun r=>decide (r.length=sz))=true:=by simpa using hy
 have hd:(rows.all fun r=>decide (r.length=sz))=true:=by simpa using hr
 unfold appendA
 simp only [h0,h1,hs,hb,hx,hc,hp,hz,and_self,if_true]
 have hlst:∀rows:List (List AV),(rows.length+ys.length)*(by_+1)≤2^45→(rows.all fun r=>decide (r.length=sz))=true→
  ∃b g J',(match (AV.lst rows true) with
   | .lst rows ex=>if ys.isEmpty then some (AV.lst rows true,Z++J) else if ex=true∧(rows.length+ys.length)*(by_+1)≤2^45∧rows.all (fun r=>decide (r.length=sz)) then some (AV.sl (Z++J).length (clsG P e sz) sz 0 (rows.length+ys.length),(Z++J)++[.rows sz (clsG P e sz) (rows++ys)]) else none
   | _=>none)=some (.sl (Z.length+b) g sz 0 (rows.length+ys.length),Z++J')∧J'[b]?=some (.rows sz g (rows++ys))∧(∀k,k≠b→k<J.length→J'[k]?=J[k]?)∧J.length≤b:=by
  intro rows hb hr
  refine ⟨J.length,clsG P e sz,J++[.rows sz (clsG P e sz) (rows++ys)],?_,by simp,fun k _ hk=>by rw [List.getElem?_append_left hk],Nat.le_refl _⟩
  simp only
  rw [if_neg (by simpa using hne),if_pos ⟨trivial,hb,hr⟩]
  simp
 rcases hg with ⟨rfl,rfl⟩ | rfl | ⟨b,g,rfl,hb⟩
 ·obtain ⟨b,g,J',h1,h2,h3,h4⟩:=hlst [] (by simpa using hbound) rfl
  exact ⟨b,g,J',h1,h2,h3,.inr h4⟩
 ·obtain ⟨b,g,J',h1,h2,h3,h4⟩:=hlst rows hbound hd
  exact ⟨b,g,J',h1,h2,h3,.inr h4⟩
 ·have hlt:b<J.length:=(List.getElem?_eq_some_iff.1 hb).1
  have hg:(Z++J)[Z.length+b]?=some (.rows sz g rows):=by rw [app_get];exact hb
  simp only [AV.denil,hg]
  rw [if_pos ⟨by omega,trivial,trivial,trivial,trivial,hbound⟩]
  exact ⟨b,nextG P e sz g,J.set b (.rows sz (nextG P e sz g) (rows++ys)),by rw [app_set],by simp [hlt],fun k hk _=>by rw [List.getElem?_set_ne (Ne.symm hk)],.inl ⟨_,_,rfl⟩⟩
theorem GrowX.appendG {ts:Array TypeId} {e e' sz by_:Nat} (h0:(ts[0]?).bind P.underlying=some (.slice e)) (h1:(ts[1]?).bind P.underlying=some (.slice e')) (hs:szOf P e=some sz) (hb:bytesOf P e=some by_)
 (hz:(ofZero P e).map (fun z=>z.cells.length)=some sz) (hp:0<sz) {n:Nat} {Z J:Heap} (hn:n=Z.length) (hY:base≤Z.length) {v x:AV} {rows ys:List (List AV)} (hg:GrowX n sz J v rows) (hr:∀r∈rows,r.length=sz)
 (hx:tailRows (Z++J) (.slice e') x=some ys) (hy:∀r∈ys,r.length=sz) (hbound:(rows.length+ys.length)*(by_+1)≤2^45) :
 ∃v' J',appendA P base (Z++J) ts v.denil x=some (v',Z++J')∧GrowX n sz J' v' (rows++ys)∧((ys≠[]∨∃b g l,v=.sl b g sz 0 l)→∃b g l,v'=.sl b g sz 0 l):=by
 subst hn
 by_cases hne:ys=[]
 ·subst hne
  have hc:([].all fun r:List AV=>decide (r.length=sz))=true:=rfl
  unfold appendA
  simp only [h0,h1,hs,hb,hx,hc,hp,hz,and_self,if_true]
  rcases hg with ⟨rfl,rfl⟩ | rfl | ⟨b,g,rfl,hb⟩
  ·exact ⟨.lst [] true,J,by simp [AV.denil],.lst [],by rintro (h | ⟨_,_,_,h⟩);exact absurd rfl h;cases h⟩
  ·exact ⟨.lst rows true,J,by simp [AV.denil],by rw [List.append_nil];exact .lst rows,by rintro (h | ⟨_,_,_,h⟩);exact absurd rfl h;cases h⟩
  ·have hlt:b<J.length:=(List.getElem?_eq_some_iff.1 hb).1
   have hg:(Z++J)[Z.length+b]?=some (.rows sz g rows):=by rw [app_get];exact hb
   simp only [AV.denil,hg]
   rw [if_pos ⟨by omega,trivial,trivial,trivial,trivial,hbound⟩]
   exact ⟨_,J.set b (.rows sz (nextG P e sz g) (rows++[])),by rw [app_set],.inr (.inr ⟨b,nextG P e sz g,by simp,by simp [hlt]⟩),fun _=>⟨_,_,_,rfl⟩⟩
 ·obtain ⟨b,g,J',h2,h3,_⟩:=GrowX.append (base:=base) h0 h1 hs hb hz hp hY hg hr hx hy hne hbound
  exact ⟨_,J',h2,.inr (.inr ⟨b,g,by simp,h3⟩),fun _=>⟨_,_,_,rfl⟩⟩
theorem GrowX.freezeS {Z J L:Heap} {n k d sz:Nat} {v:AV} {rows:List (List AV)} (hg:GrowX n sz J v rows) (hn:n=Z.length) (hk:k≤Z.length) (hc:AV.closedss rows=true) (hv:∃b g l,v=.sl b g sz 0 l) :
 freezeA (Z++(J++L)) k (d+1) v=some (slAV .loose rows):=by
 subst hn
 obtain ⟨b,g,l,rfl⟩:=hv
 rcases hg with ⟨_,h4⟩ | h4 | ⟨b4,g4,h4,hb4⟩
 ·cases h4
 ·cases h4
 ·have hget:(Z++(J++L))[Z.length+b4]?=some (.rows sz g4 rows):=by
   rw [app_get,List.getElem?_append_left (List.getElem?_eq_some_iff.1 hb4).1];exact hb4
  rw [h4,freeze_sl hget (by omega) hc]
  cases rows<;>rfl
theorem freezes_closedss {H:Heap} {k d:Nat}:∀{l:List (List AV)},AV.closedss l=true→l.mapM (fun r:List AV=>r.mapM (freezeA H k d))=some l
 | [],_=>rfl
 | r::l,h=>by
  simp only [AV.closedss,Bool.and_eq_true] at h
  rw [List.mapM_cons,freezes_closed h.1,freezes_closedss h.2];rfl
theorem freeze_slx {H:Heap} {k d b g sz:Nat} {rs qs:List (List AV)} (hg:H[b]?=some (.rows sz g rs)) (hk:k≤b) (hc:rs.mapM (fun r:List AV=>r.mapM (freezeA H k d))=some qs):freezeA H k (d+1) (.sl b g sz 0 rs.length)=some (.lst qs false):=by
 simp only [freezeA,AV.closed,Bool.false_eq_true,if_false,hk,if_true,rowsOf,hg,and_self,Nat.zero_add,Nat.le_refl,List.drop_zero,List.take_length,Option.bind_some]
 by_cases h:AV.closedss rs=true
 ·rw [freezes_closedss h] at hc
  cases hc;simp [h]
 ·simp [h,hc]
end Go.Proofs.Ev
namespace Go.Proofs.Ev
open Go.Proofs
variable {C:Cfg}
def chg1 (c:ChV):List SX:=if 2≤c.kind∧c.kind≤6 then [refX c.file] else []
def chg2 (c:ChV):List SX:=if c.kind=1 then [numX c.type] else if c.kind=2 then [refX c.parent,atomX c.name] else if c.kind=3 then [numX c.mode] else if c.kind=4 then [atomX c.data] else if c.kind=5∨c.kind=6 then [refX c.after,refX c.before] else []
def linesX (l:List (List UInt8)):SX:=listX (l.map atomX) (exK l)
def chg3 (c:ChV):List SX:=if c.kind=5 then [linesX c.lines] else if c.kind≠1 then [overX c.over] else []
def chgL (c:ChV):List SX:=numX c.kind::(chg1 c++chg2 c++chg3 c)
def chgX (c:ChV):SX:=listX (chgL c) .loose
def chgM (c:ChV) (H:Heap) (r:List SX) (s:Sl) (H':Heap):Prop:=s 1=.ptr H.length 0 139 0 0∧s 2=.ptr (H.length+1) 0 3 0 0∧
 ∃J,H'=H++.rows 139 0 [c.cells]::.rows 3 0 [[.bool false,.str [],.nils]]::J∧GrowX (H.length+2) 3 J (s 3) (r.map SX.cells)∧(r.length=1∨∃b g l,s 3=.sl b g 3 0 l)
theorem app_sx {H J:Heap} {X Y:Blk} {v x:AV} {r ys:List SX} {k:SK} (hg:GrowX (H.length+2) 3 J v (r.map SX.cells)) (hx:x=slAV k (ys.map SX.cells)) (hne:ys≠[]) (hb:r.length+ys.length≤2^20) :
 ∃v' J',appendA Tryz.prog H.length (H++X::Y::J) #[267,267] v.denil x.denil=some (v',H++X::Y::J')∧GrowX (H.length+2) 3 J' v' ((r++ys).map SX.cells)∧∃b g l,v'=.sl b g 3 0 l:=by
 subst hx
 obtain ⟨b,g,J',h1,h2,_⟩:=GrowX.append (P:=Tryz.prog) (base:=H.length) (Z:=H++[X,Y]) (J:=J) (e:=269) (e':=269) (ts:=#[267,267]) (ys:=ys.map SX.cells) (x:=(slAV k (ys.map SX.cells)).denil) (v:=v) (rows:=r.map SX.cells) (by simp) (by simp) sz269 by269 (by simp) (by decide) (by simp) (by simpa using hg) (by simp) (slAV_tail k _) (by simp) (by simpa using hne) (by simp;omega)
 simp at h1 h2
 refine ⟨_,J',h1,.inr (.inr ⟨b,g,by simp,by simpa using h2⟩),_,_,_,rfl⟩
structure ChV.Ok2 (c:ChV):Prop where
 lines:c.lines.length≤2000
 over:c.over.length≤400
theorem sx1 (x:SX):AV.lst [x.cells] true=slAV .exact ([x].map SX.cells):=rfl
theorem sx2 (x y:SX):AV.lst [x.cells,y.cells] true=slAV .exact ([x,y].map SX.cells):=rfl
set_option maxRecDepth 100000 in
set_option maxHeartbeats 2000000 in
theorem ret_change (S:Setting5 C) (c:ChV) (hc:c.Ok2):Ret Tryz.prog C 173 [] [.agg c.cells] (.agg (chgX c).cells):=by
 refine ret_pure (S.pure5 _ (by decide)) fun H=>func_rule Tryz.func173 rfl (S.prim _ (by decide)) (by simp) (by kernel_rfl) ?_
 unfold Tryz.f173
 have g1:=fun x=>(ret_reference S x).eq
 have g2:=fun n=>(ret_number S n).eq
 have g3:=fun s=>(ret_atom S s).eq
 have g4:=(ret_over S c.over c.overK (by have:=hc.over;omega)).eq
 have g5:=fun v hv hc (H':Heap) hb K=>list_eq (C:=C) S v hv hc (base:=H.length) (H:=H') hb K
 refine cut (fun s H'=>s 1=.ptr H.length 0 139 0 0∧s 2=.ptr (H.length+1) 0 3 0 0∧H'=H++.rows 139 0 [c.cells]::.rows 3 0 [[.bool false,.str [],.nils]]::[]) ?_ ?_
 ·simp [argS]
 rintro s H' ⟨e1,e2,rfl⟩
 refine cut (chgM c H [numX c.kind]) ?_ ?_
 ·simp [e1,e2,g2,buildSliceA,fillRows,chgM]
  exact .lst _
 rintro s H' ⟨e1,e2,J,rfl,hg,hl⟩
 refine cut (chgM c H ([numX c.kind]++chg1 c)) ?_ ?_
 ·by_cases hk:2≤c.kind
  ·by_cases hk2:c.kind≤6
   ·obtain ⟨v',J',ha,hg',hl'⟩:=app_sx (X:=.rows 139 0 [c.cells]) (Y:=.rows 3 0 [[.bool false,.str [],.nils]]) hg (sx1 (refX c.file)) (by simp) (by simp)
    simp at ha
    simp [e1,e2,g1,guardV,hk,hk2,buildSliceA,fillRows,ha,chgM,chg1]
    exact ⟨by simpa using hg',hl'⟩
   ·simp [e1,e2,guardV,hk,hk2,chgM,chg1]
    simpa using hg
  ·simp [e1,e2,guardV,hk,chgM,chg1]
   simpa using hg
 clear hg hl
 rintro s H' ⟨e1,e2,J,rfl,hg,hl⟩
 refine cut (chgM c H ([numX c.kind]++chg1 c++chg2 c)) ?_ ?_
 ·have hl1:(chg1 c).length≤1:=by unfold chg1;split<;>simp
  by_cases k1:c.kind=1
  ·obtain ⟨v',J',ha,hg',hl'⟩:=app_sx (X:=.rows 139 0 [c.cells]) (Y:=.rows 3 0 [[.bool false,.str [],.nils]]) hg (sx1 (numX c.type)) (by simp) (by simp;omega)
   simp at ha
   simp [e1,e2,g1,g2,g3,k1,buildSliceA,fillRows,ha,chgM,chg2]
   exact ⟨by simpa [k1] using hg',hl'⟩
  by_cases k2:c.kind=2
  ·obtain ⟨v',J',ha,hg',hl'⟩:=app_sx (X:=.rows 139 0 [c.cells]) (Y:=.rows 3 0 [[.bool false,.str [],.nils]]) hg (sx2 (refX c.parent) (atomX c.name)) (by simp) (by simp;omega)
   simp at ha
   simp [e1,e2,g1,g2,g3,k2,buildSliceA,fillRows,ha,chgM,chg2]
   rw [kOpsU_turn (h:=by kernel_rfl)]
   simp [e1,e2,k2,chgM,chg2]
   exact ⟨by simpa [k2] using hg',hl'⟩
  by_cases k3:c.kind=3
  ·obtain ⟨v',J',ha,hg',hl'⟩:=app_sx (X:=.rows 139 0 [c.cells]) (Y:=.rows 3 0 [[.bool false,.str [],.nils]]) hg (sx1 (numX c.mode)) (by simp) (by simp;omega)
   simp at ha
   simp [e1,e2,g1,g2,g3,k3,buildSliceA,fillRows,ha,chgM,chg2]
   exact ⟨by simpa [k3] using hg',hl'⟩
  by_cases k4:c.kind=4
  ·obtain ⟨v',J',ha,hg',hl'⟩:=app_sx (X:=.rows 139 0 [c.cells]) (Y:=.rows 3 0 [[.bool false,.str [],.nils]]) hg (sx1 (atomX c.data)) (by simp) (by simp;omega)
   simp at ha
   simp [e1,e2,g1,g2,g3,k4,buildSliceA,fillRows,ha,chgM,chg2]
   exact ⟨by simpa [k4] using hg',hl'⟩
  by_cases k5:c.kind=5
  ·obtain ⟨v',J',ha,hg',hl'⟩:=app_sx (X:=.rows 139 0 [c.cells]) (Y:=.rows 3 0 [[.bool false,.str [],.nils]]) hg (sx2 (refX c.after) (refX c.before)) (by simp) (by simp;omega)
   simp at ha
   simp [e1,e2,g1,g2,g3,k5,buildSliceA,fillRows,ha,chgM,chg2]
   rw [kOpsU_turn (h:=by kernel_rfl)]
   simp [e1,e2,k5,chgM,chg2]
   exact ⟨by simpa [k5] using hg',hl'⟩
  by_cases k6:c.kind=6
  ·obtain ⟨v',J',ha,hg',hl'⟩:=app_sx (X:=.rows 139 0 [c.cells]) (Y:=.rows 3 0 [[.bool false,.str [],.nils]]) hg (sx2 (refX c.after) (refX c.before)) (by simp) (by simp;omega)
   simp at ha
   simp [e1,e2,g1,g2,g3,k6,buildSliceA,fillRows,ha,chgM,chg2]
   rw [kOpsU_turn (h:=by kernel_rfl)]
   simp [e1,e2,k6,chgM,chg2]
   exact ⟨by simpa [k6] using hg',hl'⟩
  simp [e1,e2,k1,k2,k3,k4,k5,k6,chgM,chg2]
  exact ⟨by simpa using hg,by simpa using hl⟩
 clear hg hl
 rintro s H' ⟨e1,e2,J,rfl,hg,hl⟩
 have hl1:(chg1 c).length≤1:=by unfold chg1;split<;>simp
 have hl2:(chg2 c).length≤2:=by unfold chg2;repeat' split
                                all_goals simp
 refine cut (fun s H'=>s 1=.ptr H.length 0 139 0 0∧s 2=.ptr (H.length+1) 0 3 0 0∧∃b g J',H'=H++.rows 139 0 [c.cells]::.rows 3 0 [[.bool false,.str [],.nils]]::J'∧s 3=.sl (H.length+2+b) g 3 0 (chgL c).length∧
  ∃rs,J'[b]?=some (.rows 3 g rs)∧rs.length=(chgL c).length∧∀X Y L k,k≤H.length→rs.mapM (fun r:List AV=>r.mapM (freezeA (H++X::Y::(J'++L)) k 1))=some ((chgL c).map SX.cells)) ?_ ?_
 ·by_cases k5:c.kind=5
  ·simp [e1,e2,k5,buildSliceA,fillRows]
   refine loop_count c.lines.length (fun i s' H'=>s' 1=.ptr H.length 0 139 0 0∧s' 2=.ptr (H.length+1) 0 3 0 0∧s' 3=s 3∧s' 5=.int .i64 i∧
    ∃J1,H'=H++.rows 139 0 [c.cells]::.rows 3 0 [[.bool false,.str [],.nils]]::(J++J1)∧GrowX (H.length+2+J.length) 3 J1 (s' 4) ((c.lines.take i).map fun x=>(atomX x).cells)∧(s' 4=.lst [] true∨∃b g l,s' 4=.sl b g 3 0 l) ∧(i=0→s' 4=.lst [] true)) ?_ ?_
   ·exact ⟨e1,e2,rfl,rfl,[],by simp,.lst _,.inl rfl,fun _=>rfl⟩
   rintro i s' H' ⟨e1',e2',e3',e5',J1,rfl,hg1,hk1,hz⟩ hi
   by_cases h:i<c.lines.length
   ·have hln:=hc.lines
    obtain ⟨b,g,J',ha,hJ',_⟩:=GrowX.append (P:=Tryz.prog) (base:=H.length) (Z:=H++.rows 139 0 [c.cells]::.rows 3 0 [[.bool false,.str [],.nils]]::J) (J:=J1) (e:=269) (e':=269) (ts:=#[267,267]) (ys:=[(atomX c.lines[i]).cells]) (x:=.lst [(atomX c.lines[i]).cells] true) (v:=s' 4) (rows:=(c.lines.take i).map fun x=>(atomX x).cells) (by simp) (by simp) sz269 by269 (by simp) (by decide) (by simp) (by simpa [Nat.add_assoc,Nat.add_comm,Nat.add_left_comm] using hg1) (by intro r hr;obtain ⟨x,_,rfl⟩:=List.mem_map.1 hr;simp) rfl (by simp) (by simp) (by simp;omega)
    have et:(c.lines.take (i+1)).map (fun x=>(atomX x).cells)=(c.lines.take i).map (fun x=>(atomX x).cells)++[(atomX c.lines[i]).cells]:=by
     rw [List.take_add_one,List.getElem?_eq_getElem h,List.map_append];rfl
    have hlr:((c.lines.take i).map fun x=>(atomX x).cells).length=i:=by simp;omega
    rw [hlr] at ha
    simp at ha
    simp [e1',e2',e3',e5',h,g3,strC,buildSliceA,fillRows,ha,wrap_succ h (by omega)]
    refine .inr (.inr ⟨b,g,?_,?_⟩)
    ·rw [←List.map_take,et,List.length_append,hlr];simp;omega
    ·rw [←List.map_take,et];exact hJ'
   ·have h':i=c.lines.length:=by omega
    subst h'
    rw [List.take_length] at hg1
    have g5':=fun K=>g5 (s' 4) hg1.leafv hg1.cellv (H++.rows 139 0 [c.cells]::.rows 3 0 [[.bool false,.str [],.nils]]::(J++J1)) (by simp) K
    obtain ⟨b,g,J',ha,hJ',hold,hdis⟩:=GrowX.append (P:=Tryz.prog) (base:=H.length) (Z:=H++[.rows 139 0 [c.cells],.rows 3 0 [[.bool false,.str [],.nils]]]) (J:=J++J1++[.rows 3 0 [[.bool true,.str [],s' 4]]]) (e:=269) (e':=269) (ts:=#[267,267]) (ys:=[[.bool true,.str [],s' 4]]) (x:=.lst [[.bool true,.str [],s' 4]] true) (v:=s 3) (rows:=([numX c.kind]++chg1 c++chg2 c).map SX.cells) (by simp) (by simp) sz269 by269 (by simp) (by decide) (by simp) (by simpa using (hg.app (J1++[.rows 3 0 [[.bool true,.str [],s' 4]]]))) (by intro r hr;obtain ⟨x,_,rfl⟩:=List.mem_map.1 hr;simp) rfl (by simp) (by simp) (by simp;omega)
    simp at ha
    simp [e1',e2',e3',e5',g5',hg1.leafv,hg1.cellv,buildSliceA,fillRows,ha]
    have hx:chgL c=[numX c.kind]++chg1 c++chg2 c++[linesX c.lines]:=by simp [chgL,chg3,k5]
    refine ⟨b,g,⟨rfl,rfl,by simp [hx];omega⟩,_,hJ',by simp [hx],fun X Y L k hk=>?_⟩
    have hv:freezeA (H++X::Y::(J'++L)) k 1 (s' 4)=some (slAV (exK c.lines) (c.lines.map fun x=>(atomX x).cells)):=by
     rcases hg1 with ⟨_,h4⟩ | h4 | ⟨b4,g4,h4,hb4⟩
     ·rcases hk1 with h5 | ⟨_,_,_,h5⟩<;>rw [h4] at h5<;>cases h5
     ·rcases hk1 with h5 | ⟨_,_,_,h5⟩
      ·rw [h5]
       rw [h4] at h5
       have hl0:c.lines=[]:=by simpa using h5
       rw [hl0];rfl
      ·rw [h4] at h5;cases h5
     ·have hne:c.lines≠[]:=by
       intro h0
       have:=hz (by simp [h0])
       rw [h4] at this;cases this
      have hb4':b4<J1.length:=(List.getElem?_eq_some_iff.1 hb4).1
      have hbne:J.length+b4≠b:=by
       rcases hdis with ⟨g',l',hd⟩ | hd
       ·rcases hg with ⟨_,h6⟩ | h6 | ⟨b6,g6,h6,hb6⟩
        ·rw [hd] at h6;cases h6
        ·rw [hd] at h6;cases h6
        ·rw [hd] at h6
         simp at h6
         have:=(List.getElem?_eq_some_iff.1 hb6).1
         omega
       ·simp at hd;omega
      have hget:=hold (J.length+b4) hbne (by simp;omega)
      rw [List.append_assoc,List.getElem?_append_right (by omega),Nat.add_sub_cancel_left,List.getElem?_append_left hb4',hb4] at hget
      have hget2:(H++X::Y::(J'++L))[H.length+2+J.length+b4]?=some (.rows 3 g4 (c.lines.map fun x=>(atomX x).cells)):=by
       rw [show H.length+2+J.length+b4=H.length+(J.length+b4+1+1) by omega,app_get]
       simp only [List.getElem?_cons_succ]
       rw [List.getElem?_append_left (List.getElem?_eq_some_iff.1 hget).1];exact hget
      rw [h4,freeze_sl hget2 (by omega) (closedss_map (fun x=>SX.closed (atomX x)) _)]
      cases hq:c.lines with
      | nil=>exact absurd hq hne
      | cons a l=>rfl
    rw [hx,List.mapM_append,freezes_closedss (closedss_map SX.closed _)]
    simp [hv,linesX,listX_cells,Function.comp_def]
  ·by_cases k1:c.kind=1
   ·have hx:chgL c=[numX c.kind]++chg1 c++chg2 c:=by simp [chgL,chg3,k1]
    have hne:chg2 c≠[]:=by simp [chg2,k1]
    obtain ⟨b,g,hs3,hJ⟩:∃b g,s 3=.sl (H.length+2+b) g 3 0 ((chgL c).map SX.cells).length∧J[b]?=some (.rows 3 g ((chgL c).map SX.cells)):=by
     rw [hx]
     rcases hl with hl | ⟨b,g,l,hl⟩
     ·rw [List.length_append,List.length_append] at hl
      exact absurd (List.length_eq_zero_iff.1 (by simp at hl;omega)) hne
     ·rcases hg with ⟨_,h⟩ | h | h
      ·rw [hl] at h;cases h
      ·rw [hl] at h;cases h
      ·exact h
    simp [e1,e2,k1]
    exact ⟨b,g,by simpa using hs3,_,hJ,by simp,fun _ _ _ _ _=>freezes_closedss (closedss_map SX.closed _)⟩
   ·have hx:chgL c=[numX c.kind]++chg1 c++chg2 c++[overX c.over]:=by simp [chgL,chg3,k1,k5]
    obtain ⟨v',J',ha,hg',hl'⟩:=app_sx (X:=.rows 139 0 [c.cells]) (Y:=.rows 3 0 [[.bool false,.str [],.nils]]) hg (sx1 (overX c.over)) (by simp) (by simp;omega)
    simp at ha
    simp [e1,e2,g4,k1,k5,buildSliceA,fillRows,ha]
    rw [←hx] at hg'
    rcases hl' with ⟨b,g,l,rfl⟩
    rcases hg' with ⟨_,h⟩ | h | ⟨b,g,h,hJ⟩
    ·cases h
    ·cases h
    ·exact ⟨b,g,by simpa using h,_,hJ,by simp,fun _ _ _ _ _=>freezes_closedss (closedss_map SX.closed _)⟩
 rintro s H' ⟨e1,e2,b,g,J',rfl,e3,rs,hJ,hrl,hfz⟩
 have g5':=fun K=>g5 (.sl (H.length+2+b) g 3 0 (chgL c).length) rfl rfl (H++.rows 139 0 [c.cells]::.rows 3 0 [[.bool false,.str [],.nils]]::J') (by simp) K
 simp [e1,e2,e3,g5',storeA,fillA]
 have hf:=hfz (.rows 139 0 [c.cells]) (.rows 3 0 [[.bool true,.str [],.sl (H.length+2+b) g 3 0 (chgL c).length]]) [.rows 3 0 [[.bool true,.str [],.sl (H.length+2+b) g 3 0 (chgL c).length]]] H.length (Nat.le_refl _)
 have hb:(H++.rows 139 0 [c.cells]::.rows 3 0 [[.bool true,.str [],.sl (H.length+2+b) g 3 0 (chgL c).length]]::(J'++[.rows 3 0 [[.bool true,.str [],.sl (H.length+2+b) g 3 0 (chgL c).length]]]))[H.length+2+b]?=some (.rows 3 g rs):=by
  rw [show H.length+2+b=H.length+(b+1+1) by omega,app_get]
  simp only [List.getElem?_cons_succ]
  rw [List.getElem?_append_left (List.getElem?_eq_some_iff.1 hJ).1];exact hJ
 have hs:=freeze_slx hb (k:=H.length) (d:=1) (by omega) hf
 rw [hrl] at hs
 rw [chgX,listX_cells]
 exact freeze_agg (by simp [hs,slAV])
end Go.Proofs.Ev
namespace Go.Proofs.Ev
open Go.Proofs
variable {C:Cfg}
theorem app_sx1 {Z J:Heap} {H0:Heap} {n:Nat} (hn:n=Z.length) (hZ:H0.length≤Z.length) {v:AV} {r:List SX} {y:SX} (hg:GrowX n 3 J v (r.map SX.cells)) (hb:r.length≤2^20) :
 ∃v' J',appendA Tryz.prog H0.length (Z++J) #[267,267] v.denil (.lst [y.cells] true)=some (v',Z++J')∧GrowX n 3 J' v' ((r++[y]).map SX.cells)∧∃b g l,v'=.sl b g 3 0 l:=by
 subst hn
 obtain ⟨b,g,J',h1,h2,_⟩:=GrowX.append (P:=Tryz.prog) (base:=H0.length) (Z:=Z) (J:=J) (e:=269) (e':=269) (ts:=#[267,267]) (ys:=[y.cells]) (x:=.lst [y.cells] true) (v:=v) (rows:=r.map SX.cells) (by simp) (by simp) sz269 by269 (by simp) (by decide) hZ hg (by simp) rfl (by simp) (by simp) (by simp;omega)
 exact ⟨_,J',h1,.inr (.inr ⟨b,g,by simp,by simpa using h2⟩),_,_,_,rfl⟩
theorem GrowX.freezeX {Z J L:Heap} {n k d:Nat} {v:AV} {r:List SX} (hg:GrowX n 3 J v (r.map SX.cells)) (hn:n=Z.length) (hk:k≤Z.length) (hz:r=[]→v=.lst [] true) (hz2:v=.lst [] true∨∃b g l,v=.sl b g 3 0 l) :
 freezeA (Z++(J++L)) k (d+1) v=some (slAV (exK r) (r.map SX.cells)):=by
 subst hn
 rcases hg with ⟨_,h4⟩ | h4 | ⟨b4,g4,h4,hb4⟩
 ·rcases hz2 with h5 | ⟨_,_,_,h5⟩<;>rw [h4] at h5<;>cases h5
 ·rcases hz2 with h5 | ⟨_,_,_,h5⟩
  ·rw [h5]
   rw [h4] at h5
   have hl0:r=[]:=by simpa using h5
   rw [hl0];rfl
  ·rw [h4] at h5;cases h5
 ·have hne:r≠[]:=by
   intro h0
   have:=hz h0
   rw [h4] at this;cases this
  have hget:(Z++(J++L))[Z.length+b4]?=some (.rows 3 g4 (r.map SX.cells)):=by
   rw [app_get,List.getElem?_append_left (List.getElem?_eq_some_iff.1 hb4).1];exact hb4
  rw [h4,freeze_sl hget (by omega) (closedss_map SX.closed _)]
  cases r with
  | nil=>exact absurd rfl hne
  | cons a l=>rfl
theorem freeze_lst {H:Heap} {k d:Nat} {rs qs:List (List AV)} {e:Bool} (hc:rs.mapM (fun r:List AV=>r.mapM (freezeA H k d))=some qs):freezeA H k (d+1) (.lst rs e)=some (.lst qs e):=by
 simp only [freezeA,AV.closed]
 by_cases h:AV.closedss rs=true
 ·rw [freezes_closedss h] at hc
  cases hc;simp [h]
 ·simp [h,hc]
def treeX (p:PatchV):SX:=listX [atomX [113,117,105,108,116,49],atomX p.author,atomX p.message,numX p.time,listX (p.deps.map fun d=>digX d.d) (exK p.deps),listX (p.changes.map chgX) (exK p.changes)] .exact
structure PatchV.Ok2 (p:PatchV):Prop where
 deps:p.deps.length≤2^20
 changesN:p.changes.length≤2^20
 changes:∀c∈p.changes,c.Ok2
 nodes:(treeX p).nodes≤2^40
def encodeE (p:PatchV):Int:=if encE (treeX p)≠0∨65536<(treeX p).enc.length then 4 else 0
def encodeS (p:PatchV):List UInt8:=if encodeE p=0 then (treeX p).enc else []
set_option maxRecDepth 100000 in
set_option maxHeartbeats 2000000 in
theorem ret_encode (S:Setting5 C) (p:PatchV) (hp:p.Ok2):Ret Tryz.prog C 115 [] [.agg p.cells] (.tup [.str (encodeS p),.int .i64 (encodeE p)]):=by
 refine ret_pure (S.pure5 _ (by decide)) fun H=>func_rule Tryz.func115 rfl (S.prim _ (by decide)) (by simp) (by kernel_rfl) ?_
 unfold Tryz.f115
 have g2:=fun n=>(ret_number S n).eq
 have g3:=fun s=>(ret_atom S s).eq
 have g5:=fun v hv hc (H':Heap) hb K=>list_eq (C:=C) S v hv hc (base:=H.length) (H:=H') hb K
 refine cut (fun s H'=>s 1=.ptr H.length 0 5 0 0∧H'=H++.rows 5 0 [p.cells]::[]) ?_ ?_
 ·simp [argS]
 rintro s H' ⟨e1,rfl⟩
 refine cut (fun s H'=>s 1=.ptr H.length 0 5 0 0∧s 4=.lst [] true∧s 5=.lst [] true∧H'=H++.rows 5 0 [p.cells]::[]) ?_ ?_
 ·simp [e1,buildSliceA,fillRows]
 rintro s H' ⟨e1,e4,e5,rfl⟩
 refine cut (fun s H'=>s 1=.ptr H.length 0 5 0 0∧s 5=.lst [] true∧∃J,H'=H++.rows 5 0 [p.cells]::J∧GrowX (H.length+1) 3 J (s 4) ((p.deps.map fun d=>digX d.d).map SX.cells)∧(p.deps=[]→s 4=.lst [] true)∧(s 4=.lst [] true∨∃b g l,s 4=.sl b g 3 0 l)) ?_ ?_
 ·simp [e1,e4,e5]
  refine loop_count p.deps.length (fun i s H'=>s 1=.ptr H.length 0 5 0 0∧s 5=.lst [] true∧s 6=.int .i64 i∧∃J,H'=H++.rows 5 0 [p.cells]::J∧GrowX (H.length+1) 3 J (s 4) (((p.deps.take i).map fun d=>digX d.d).map SX.cells)∧(i=0→s 4=.lst [] true)∧(s 4=.lst [] true∨∃b g l,s 4=.sl b g 3 0 l)) ?_ ?_
  ·exact ⟨e1,e5,rfl,[],rfl,by simp [e4];exact .lst [],fun _=>e4,.inl e4⟩
  rintro i s H' ⟨e1,e5,e6,J,rfl,hg,hz,hz2⟩ hi
  by_cases h:i<p.deps.length
  ·have hd:=hp.deps
   have c1:∀base H K,CallW Tryz.prog C base (.fn 172 []) [.agg p.deps[i].cells] H K=K (.agg (digX p.deps[i].d).cells) H:=(ret_digest S p.deps[i].d p.deps[i].h).eq
   obtain ⟨v',J',ha,hg',hl'⟩:=app_sx1 (H0:=H) (Z:=H++[.rows 5 0 [p.cells]]) (by simp) (by simp) (y:=digX p.deps[i].d) hg (by simp;omega)
   simp at ha
   have et:(p.deps.take (i+1)).map (fun d=>digX d.d)=(p.deps.take i).map (fun d=>digX d.d)++[digX p.deps[i].d]:=by
    rw [List.take_add_one,List.getElem?_eq_getElem h,List.map_append];rfl
   simp [e1,e5,e6,h,c1,buildSliceA,fillRows,ha,wrap_succ h (by omega)]
   refine ⟨?_,.inr hl'⟩
   rw [←et] at hg'
   simpa using hg'
  ·have h':i=p.deps.length:=by omega
   subst h'
   rw [List.take_length] at hg
   simp [e1,e5,e6]
   exact ⟨by simpa using hg,fun h0=>hz (by simp [h0]),hz2⟩
 rintro s H' ⟨e1,e5,J0,rfl,hg0,hz0,hk0⟩
 refine cut (fun s' H'=>s' 1=.ptr H.length 0 5 0 0∧s' 4=s 4∧∃J,H'=H++.rows 5 0 [p.cells]::(J0++J)∧GrowX (H.length+1+J0.length) 3 J (s' 5) ((p.changes.map chgX).map SX.cells)∧(p.changes=[]→s' 5=.lst [] true)∧(s' 5=.lst [] true∨∃b g l,s' 5=.sl b g 3 0 l)) ?_ ?_
 ·simp [e1,e5]
  refine loop_count p.changes.length (fun i s' H'=>s' 1=.ptr H.length 0 5 0 0∧s' 4=s 4∧s' 7=.int .i64 i∧∃J,H'=H++.rows 5 0 [p.cells]::(J0++J)∧GrowX (H.length+1+J0.length) 3 J (s' 5) (((p.changes.take i).map chgX).map SX.cells)∧(i=0→s' 5=.lst [] true)∧(s' 5=.lst [] true∨∃b g l,s' 5=.sl b g 3 0 l)) ?_ ?_
  ·exact ⟨e1,rfl,rfl,[],by simp,by simp [e5];exact .lst [],fun _=>e5,.inl e5⟩
  rintro i s' H' ⟨e1,e4',e6,J,rfl,hg,hz,hz2⟩ hi
  by_cases h:i<p.changes.length
  ·have hd:=hp.changesN
   have c1:=(ret_change S p.changes[i] (hp.changes _ (List.getElem_mem h))).eq
   obtain ⟨v',J',ha,hg',hl'⟩:=app_sx1 (H0:=H) (Z:=H++.rows 5 0 [p.cells]::J0) (by simp;omega) (by simp) (y:=chgX p.changes[i]) hg (by simp;omega)
   simp at ha
   have et:(p.changes.take (i+1)).map chgX=(p.changes.take i).map chgX++[chgX p.changes[i]]:=by
    rw [List.take_add_one,List.getElem?_eq_getElem h,List.map_append];rfl
   simp [e1,e4',e6,h,c1,buildSliceA,fillRows,ha,wrap_succ h (by omega)]
   refine ⟨?_,.inr hl'⟩
   rw [←et] at hg'
   simpa using hg'
  ·have h':i=p.changes.length:=by omega
   subst h'
   rw [List.take_length] at hg
   simp [e1,e4',e6]
   exact ⟨by simpa using hg,fun h0=>hz (by simp [h0]),hz2⟩
 rintro s' H' ⟨e1,e4,J,rfl,hg,hz,hk⟩
 have l1:=fun K=>g5 (s 4) hg0.leafv hg0.cellv (H++.rows 5 0 [p.cells]::(J0++J)) (by simp) K
 have l2:=fun K=>g5 (s' 5) hg.leafv hg.cellv (H++.rows 5 0 [p.cells]::(J0++(J++[.rows 3 0 [[.bool true,.str [],s 4]]]))) (by simp) K
 simp [e1,e4,g2,g3,l1,hg0.leafv,hg0.cellv,buildSliceA,fillRows]
 rw [kOpsU_turn (h:=by kernel_rfl)]
 simp [e1,e4,l2]
 rw [kOpsU_turn (h:=by kernel_rfl)]
 have l3:=fun v hv hc (H':Heap) hb K=>list_eq (C:=C) S v hv hc (base:=H.length) (H:=H') hb K
 simp [hg.leafv,hg.cellv,hg0.leafv,hg0.cellv,buildSliceA,fillRows]
 rw [l3 _ (by simp) (by simp) _ (by simp),kOpsU_turn (h:=by kernel_rfl)]
 simp
 have f0:=fun L=>hg0.freezeX (L:=L) (Z:=H++[.rows 5 0 [p.cells]]) (k:=0) (d:=3) (by simp) (by simp) (by simpa using hz0) hk0
 have f1:=fun L=>hg.freezeX (L:=L) (Z:=H++.rows 5 0 [p.cells]::J0) (k:=0) (d:=3) (by simp;omega) (by simp) (by simpa using hz) hk
 rw [(ret_Encode1 S.toSetting4 (treeX p) hp.nodes).eq]
 ·by_cases h1:encE (treeX p)=0
  ·by_cases h2:65536<(treeX p).enc.length
   ·have hE:encodeE p=4:=by unfold encodeE;rw [if_pos (.inr h2)]
    have hS:encodeS p=[]:=by unfold encodeS;rw [if_neg (by rw [hE];decide)]
    rw [hE,hS]
    simp [guardV,h1,show (65536:Int)<(treeX p).enc.length by omega]
    simp [freeze_closed,AV.closed,AV.closeds]
   ·have hE:encodeE p=0:=by unfold encodeE;rw [if_neg (by simp [h1];omega)]
    have hS:encodeS p=(treeX p).enc:=by unfold encodeS;rw [if_pos hE]
    rw [hE,hS]
    simp [guardV,h1,show ¬(65536:Int)<(treeX p).enc.length by omega]
    simp [freeze_closed,AV.closed,AV.closeds]
  ·have hE:encodeE p=4:=by unfold encodeE;rw [if_pos (.inl h1)]
   have hS:encodeS p=[]:=by unfold encodeS;rw [if_neg (by rw [hE];decide)]
   rw [hE,hS]
   have hb:(encE (treeX p) != 0)=true:=by simpa using h1
   simp [guardV,h1,hb]
   simp [freeze_closed,AV.closed,AV.closeds]
 ·have f0':=f0 (J++[.rows 3 0 [[.bool true,.str [],s 4]],.rows 3 0 [[.bool true,.str [],s' 5]],.rows 3 0 [[.bool true,.str [],.lst [(atomX [113,117,105,108,116,49]).cells,(atomX p.author).cells,(atomX p.message).cells,(numX p.time).cells,[.bool true,.str [],s 4],[.bool true,.str [],s' 5]] true]]])
  have f1':=f1 [.rows 3 0 [[.bool true,.str [],s 4]],.rows 3 0 [[.bool true,.str [],s' 5]],.rows 3 0 [[.bool true,.str [],.lst [(atomX [113,117,105,108,116,49]).cells,(atomX p.author).cells,(atomX p.message).cells,(numX p.time).cells,[.bool true,.str [],s 4],[.bool true,.str [],s' 5]] true]]]
  simp only [List.append_assoc,List.cons_append,List.nil_append,List.singleton_append] at f0' f1' ⊢
  rw [List.mapM_cons,List.mapM_nil,freeze_agg (ws:=(treeX p).cells)]
  ·rfl
  rw [treeX,listX_cells]
  simp only [List.mapM_cons,List.mapM_nil,freeze_bool,freeze_str]
  rw [freeze_lst (qs:=[atomX [113,117,105,108,116,49],atomX p.author,atomX p.message,numX p.time,listX (p.deps.map fun d=>digX d.d) (exK p.deps),listX (p.changes.map chgX) (exK p.changes)].map SX.cells)]
  ·rfl
  have k1:exK (p.deps.map fun d=>digX d.d)=exK p.deps:=by unfold exK;simp
  have k2:exK (p.changes.map chgX)=exK p.changes:=by unfold exK;simp
  rw [k1] at f0'
  rw [k2] at f1'
  simp only [List.mapM_cons,List.mapM_nil,List.map_cons,List.map_nil,freezes_closed (SX.closed _),listX_cells,freeze_bool,freeze_str,f0',f1']
  rfl
def EncodeE (p:PatchV):Int:=if checkE p≠0 then checkE p else encodeE p
def EncodeS (p:PatchV):List UInt8:=if EncodeE p=0 then (treeX p).enc else []
theorem ret_Encode16 (S:Setting5 C) (p:PatchV) (hp:p.Ok) (hp2:p.Ok2):Ret Tryz.prog C 65 [] [.agg p.cells] (.tup [.str (EncodeS p),.int .i64 (EncodeE p)]):=by
 refine ret_pure (S.pure5 _ (by decide)) fun H=>func_rule Tryz.func65 rfl (S.prim _ (by decide)) (by simp) (by kernel_rfl) ?_
 unfold Tryz.f65
 have e1:=(ret_check S.toSetting3 p hp).eq
 have e2:=(ret_encode S p hp2).eq
 by_cases h:checkE p=0
 ·have hE:EncodeE p=encodeE p:=by unfold EncodeE;rw [if_neg (by simpa using h)]
  have hS:EncodeS p=encodeS p:=by unfold EncodeS encodeS;rw [hE]
  rw [hE,hS]
  simp [argS,e1,e2,checkR,h]
  simp [freeze_closed,AV.closed,AV.closeds]
 ·have hE:EncodeE p=checkE p:=by unfold EncodeE;rw [if_pos h]
  have hS:EncodeS p=[]:=by unfold EncodeS;rw [hE,if_neg h]
  rw [hE,hS]
  simp [argS,e1,checkR,h]
  simp [freeze_closed,AV.closed,AV.closeds]
theorem ret_Check16 (S:Setting5 C) (p:PatchV) (hp:p.Ok) (hp2:p.Ok2):Ret Tryz.prog C 68 [] [.agg p.cells] (.int .i64 (EncodeE p)):=by
 refine ret_pure (S.pure5 _ (by decide)) fun H=>func_rule Tryz.func68 rfl (S.prim _ (by decide)) (by simp) (by kernel_rfl) ?_
 unfold Tryz.f68
 have e1:=(ret_Encode16 S p hp hp2).eq
 simp [argS,e1]
end Go.Proofs.Ev
namespace Go.Proofs.Ev
open Go.Proofs
variable {C:Cfg}
structure Setting6 (C:Cfg):Prop extends Setting5 C where
 pure6:∀f,f∈[181,180,178,116,179,117,66,33,69,37]→C.pure f=true
@[simp] theorem w32_cells (x:W32):(w32 x).cells=[w32 x]:=rfl
@[simp] theorem w32_leaf (x:W32):(w32 x).leaf=true:=rfl
@[simp] theorem w32_closed (x:W32):(w32 x).closed=true:=rfl
@[simp] theorem w32_denil (x:W32):(w32 x).denil=w32 x:=rfl
@[simp] theorem freeze_w (H:Heap) (k d:Nat) (x:W32):freezeA H k d (w32 x)=some (w32 x):=freeze_closed rfl
theorem ret_rotate (S:Setting6 C) (x:W32) (n:Nat) (h:n≤32):Ret Tryz.prog C 181 [] [w32 x,.int .u64 (n:Int)] (w32 (rotr x n)):=by
 refine ret_pure (S.pure6 _ (by decide)) fun H=>func_rule Tryz.func181 rfl (S.prim _ (by decide)) (by simp) (by kernel_rfl) ?_
 unfold Tryz.f181
 have w1:IntKind.u64.wrap (32-(n:Int))=((32-n:Nat):Int):=by rw [IntWalk.u64_in _ (by omega)];omega
 have e1:=fun t=>w_shr (P:=Tryz.prog) (C:=C) t x .u64 n h
 have e2:=fun t=>w_shl (P:=Tryz.prog) (C:=C) t x .u64 (32-n) (by omega)
 simp [argS,w1,e1,e2,w_or,rotr]
theorem ret_constants (S:Setting6 C):Ret Tryz.prog C 180 [] [] (.agg (shaK.map w32)):=by
 refine ret_pure (S.pure6 _ (by decide)) fun H=>func_rule Tryz.func180 rfl (S.prim _ (by decide)) (by simp) (by kernel_rfl) ?_
 unfold Tryz.f180
 simp [argS,storeA,fillA]
 rw [freeze_closed (by simp [AV.closed,AV.closeds])]
 rfl
theorem ret_zeros (S:Setting6 C) (n:Nat) (h:n≤2^20):Ret Tryz.prog C 178 [] [.int .i64 (n:Int)] (.str (List.replicate n 0)):=by
 refine ret_pure (S.pure6 _ (by decide)) fun H=>func_rule Tryz.func178 rfl (S.prim _ (by decide)) (by simp) (by kernel_rfl) ?_
 unfold Tryz.f178
 simp [argS]
 refine loop_count n (fun i s H'=>H'=H∧s 0=.int .i64 n∧s 4=.int .i64 i∧s 3=.str (List.replicate i 0)) ?_ ?_
 ·exact ⟨rfl,rfl,rfl,rfl⟩
 rintro i s H' ⟨rfl,e0,e4,e3⟩ hi
 by_cases h':i<n
 ·have a1:=bins_add (P:=Tryz.prog) (C:=C) (t:=9) (x:=List.replicate i 0) (y:=[0]) (by simp;omega)
  simp [e0,e4,e3,h',a1,wrap_succ h' (by omega)]
  rw [List.replicate_succ',List.append_cancel_left_eq]
 ·have h':i=n:=by omega
  subst h'
  simp [e0,e4,e3]
theorem byte_mod (n:Nat):UInt8.ofNat (n % 256)=UInt8.ofNat n:=by
 apply UInt8.toNat_inj.1;simp
theorem ret_padded (S:Setting6 C) (x:List UInt8) (h:x.length≤2^40):Ret Tryz.prog C 116 [] [.str x] (.str (padded x)):=by
 refine ret_pure (S.pure6 _ (by decide)) fun H=>func_rule Tryz.func116 rfl (S.prim _ (by decide)) (by simp) (by kernel_rfl) ?_
 unfold Tryz.f116
 obtain ⟨r,hr⟩:∃r:Nat,r=(x.length+1) % 64:=⟨_,rfl⟩
 obtain ⟨z,hz⟩:∃z:Nat,z=(120-r) % 64:=⟨_,rfl⟩
 have hpad:padded x=x++[128]++List.replicate z 0++lenBytes x.length:=by rw [padded,hz,hr];simp
 have cz:=(ret_zeros S z (by omega)).eq
 have r1:∀t,binA Tryz.prog C .rem t (.int .i64 ((x.length:Int)+1)) (.int .i64 64)=some (.int .i64 (r:Int)):=fun t=>by
  rw [bin_rem (h:=by decide),Int.tmod_eq_emod_of_nonneg (by omega),hr];rfl
 have r2:∀t,binA Tryz.prog C .rem t (.int .i64 (IntKind.i64.wrap (120-(r:Int)))) (.int .i64 64)=some (.int .i64 (z:Int)):=fun t=>by
  rw [bin_rem (h:=by decide),wrap_in (by omega) (by omega),Int.tmod_eq_emod_of_nonneg (by omega),hz];congr 2;omega
 have q3:IntKind.u64.wrap ((x.length:Int))=x.length:=IntWalk.u64_in _ (by omega)
 have q4:IntKind.u64.wrap ((x.length:Int)*8)=(x.length:Int)*8:=IntWalk.u64_in _ (by omega)
 have a1:=bins_add (P:=Tryz.prog) (C:=C) (t:=9) (x:=x) (y:=[128]) (by simp;omega)
 have a2:=bins_add (P:=Tryz.prog) (C:=C) (t:=9) (x:=x++[128]) (y:=List.replicate z 0) (by simp;omega)
 simp at a2
 simp [argS,a1,r1,r2,cz,a2,q3,q4,convertA]
 refine loop_count 8 (fun i s H'=>H'=H∧s 4=.int .u64 ((x.length:Int)*8)∧s 5=.int .i64 (7-(i:Int))∧s 3=.str (x++[128]++List.replicate z 0++(lenBytes x.length).take i)) ?_ ?_
 ·exact ⟨rfl,rfl,rfl,by simp⟩
 rintro i s H' ⟨rfl,e4,e5,e3⟩ hi
 by_cases h':i<8
 ·have hi8:(0:Int)≤7-i:=by omega
  have w1:IntKind.i64.wrap (8*(7-(i:Int)))=((8*(7-i):Nat):Int):=by rw [wrap_in (by omega) (by omega)];omega
  have w2:IntKind.u64.wrap ((8*(7-i):Nat):Int)=((8*(7-i):Nat):Int):=IntWalk.u64_in _ (by omega)
  have w3:IntKind.i64.wrap (7-(i:Int)-1)=7-((i:Int)+1):=by rw [wrap_in (by omega) (by omega)];omega
  obtain ⟨q,hq⟩:∃q:Nat,q=x.length*8 / 2^(8*(7-i)):=⟨_,rfl⟩
  have s1:∀t,binA Tryz.prog C .shr t (.int .u64 ((x.length:Int)*8)) (.int .u64 ((8*(7-i):Nat):Int))=some (.int .u64 (q:Int)):=fun t=>by
   simp only [binA,IntKind.bits]
   rw [if_pos (by omega),hq]
   have e:min ((8*(7-i):Nat):Int).toNat 64=8*(7-i):=by omega
   have e2:(((x.length*8:Nat):Int)).fdiv ((2^(8*(7-i)):Nat):Int)=((x.length*8 / 2^(8*(7-i)):Nat):Int):=by
    rw [Int.fdiv_eq_ediv_of_nonneg _ (Int.natCast_nonneg _)];rfl
   rw [e,show ((2:Int)^(8*(7-i)))=((2^(8*(7-i)):Nat):Int) by simp,show (x.length:Int)*8=((x.length*8:Nat):Int) by omega,e2]
  have w4:IntKind.u8.wrap (q:Int)=((q % 256:Nat):Int):=by rw [IntKind.wrap_u8];omega
  have hget:(lenBytes x.length)[i]?=some (UInt8.ofNat q):=by
   unfold lenBytes
   rw [List.getElem?_map,List.getElem?_range h',hq,Nat.mod_eq_of_lt (by omega)];rfl
  have hlen:(lenBytes x.length).length=8:=by simp [lenBytes]
  have b1:bytesA [[.int .u8 ((q % 256:Nat):Int)]]=some [UInt8.ofNat q]:=by simp only [bytesA,Int.toNat_natCast,byte_mod];rfl
  have a3:=bins_add (P:=Tryz.prog) (C:=C) (t:=9) (x:=x++[128]++List.replicate z 0++(lenBytes x.length).take i) (y:=[UInt8.ofNat q]) (by simp;omega)
  have et:(lenBytes x.length).take (i+1)=(lenBytes x.length).take i++[UInt8.ofNat q]:=by rw [List.take_add_one,hget];rfl
  have hm:8*(7-i)=8*(7-i):=rfl
  generalize hM:8*(7-i)=M at w1 w2 s1
  generalize hc:q % 256=c at w4 b1
  have h7:(i:Int)≤7:=by omega
  simp only [List.append_assoc,List.cons_append,List.nil_append] at a3
  simp [e4,e5,e3,h7,w1,w2,s1,w3,w4,convertA,buildSliceA,fillRows,rowsOf,b1,a3,h',et]
 ·have h':i=8:=by omega
  subst h'
  have hlen:(lenBytes x.length).length=8:=by simp [lenBytes]
  simp [e4,e5,e3,hpad,List.take_of_length_le,hlen]
theorem cells_at {L:List W32} {m j:Nat} (hj:j<L.length):((L.map w32++List.replicate m (w32 0)).drop j).head?=some (w32 (L.getD j 0)):=by
 rw [List.head?_drop,List.getElem?_append_left (by simpa using hj),List.getElem?_map,List.getElem?_eq_getElem hj,List.getD_eq_getElem?_getD,List.getElem?_eq_getElem hj];rfl
theorem cells_set {L:List W32} {m j:Nat} {x:W32} (hj:j=L.length):(L.map w32++List.replicate (m+1) (w32 0)).take j++w32 x::(L.map w32++List.replicate (m+1) (w32 0)).drop (j+1)=(L++[x]).map w32++List.replicate m (w32 0):=by
 subst hj
 rw [List.take_append_of_le_length (by simp),List.take_of_length_le (by simp),List.drop_append,List.drop_of_length_le (by simp),List.replicate_succ]
 simp
theorem conv_byte (b:UInt8):AV.int .u32 (IntKind.u32.wrap (b.toNat:Int))=w32 (byteW b):=by
 have h:=b.toNat_lt
 have:(byteW b).toNat=b.toNat:=by simp [byteW]
 rw [w32,this,IntWalk.u32_in _ (by omega)]
end Go.Proofs.Ev
