/- Part 20 of the proof that quiltlaw38.BlameNames returns true: no statement of its own. -/
import Derived.Test.YtckbkhfaahpanaaGreatDoorN13
import Derived.Shelf.SlSortCmp.WholeK
import Derived.Test.YtckbkhfaahpanaaGreatDoorN12
import Derived.Test.YtckbkhfaahpanaaGreatDoorN8
import Derived.Shelf.RegionOpen
import Derived.Sort.Grow
import Derived.Test.YtckbkhfaahpanaaGreatDoorN14
import Derived.Test.YtckbkhfaahpanaaGreatDoorN19
set_option linter.all false
namespace Go.Proofs.Ev
open Go.Proofs Go.RowKit Go.Sort
variable {N:Low} {φ:Phi} {H:Heap} {w w':World} {P:Program}
def valOf:AV→Value
 | .int k n=>.int k n
 | _=>Go.undef
structure Elem (α:Type) where
 cells:α→List AV
 k:Nat
 pos:0<k
 len:∀x,(cells x).length=k
 ints:∀x,∀v∈cells x,∃kd n,v=AV.int kd n
variable {α:Type} [Inhabited α] (E:Elem α)
def Elem.enc (x:α):List Value:=(E.cells x).map valOf
theorem Elem.enc_len (x:α):(E.enc x).length=E.k:=by simp [Elem.enc,E.len]
theorem Elem.one (x:α):∀v∈E.enc x,v.oneCell'=true:=by
 intro v hv
 obtain ⟨a,ha,rfl⟩:=List.mem_map.1 hv
 obtain ⟨kd,n,rfl⟩:=E.ints x a ha
 rfl
theorem Elem.get {x:α} {j:Nat} {v:AV} (h:(E.cells x)[j]?=some v):v.leaf=true∧(E.enc x)[j]?=some (valOf v)∧(∀φ n w,RV φ n w v (valOf v))∧∀φ n w V,RV φ n w v V→V=valOf v:=by
 obtain ⟨kd,n,rfl⟩:=E.ints x v (List.mem_of_getElem? h)
 exact ⟨rfl,by simp [Elem.enc,h],fun _ _ _=>.int _ _,fun _ _ _ V hV=>by cases hV;rfl⟩
theorem div_row {i j s:Nat} (hj:j<s):(i*s+j) / s=i:=by
 rw [Nat.mul_comm,Nat.mul_add_div (by omega),Nat.div_eq_of_lt hj,Nat.add_zero]
theorem Elem.holds (hH:HR N φ H w) {b g:Nat} {l:List α} (hb:H[b]?=some (.rows E.k g (l.map E.cells))) {L:Loc} (hL:φ b=some L):HoldsK E.enc E.k w L.cb 0 l.toArray:=by
 obtain ⟨L',cs,T,fr,h1,h2,h3,h4,h5,h6⟩:=hH.rows _ _ _ _ hb
 rw [hL] at h1;cases h1
 intro t ht
 rw [size_flatK] at ht
 simp only [List.size_toArray] at ht
 have hi:t / E.k<l.length:=Nat.div_lt_of_lt_mul (by rw [Nat.mul_comm];exact ht)
 have hj:t % E.k<E.k:=Nat.mod_lt _ E.pos
 have hrow:(l.map E.cells)[t / E.k]?=some (E.cells l[t / E.k]):=by simp [hi]
 obtain ⟨v,hv⟩:∃v,(E.cells l[t / E.k])[t % E.k]?=some v:=⟨(E.cells l[t / E.k])[t % E.k]'(by rw [E.len];exact hj),List.getElem?_eq_getElem _⟩
 obtain ⟨_,V,c1,c2⟩:=(h6.2 _ _ hrow).2 _ _ hv
 obtain ⟨_,e2,_,e4⟩:=E.get hv
 have hV:=e4 _ _ _ _ c2
 subst hV
 have hdm:t / E.k*E.k+t % E.k=t:=by rw [Nat.mul_comm];exact Nat.div_add_mod t E.k
 rw [hdm] at c1
 have hget:(flatK E.enc E.k l.toArray)[t]! = valOf v:=by
  rw [get_flatK _ _ _ _ (by simpa using ht)]
  have h1:l.toArray[t / E.k]! = l[t / E.k]:=by simp [hi]
  rw [h1,List.getElem!_eq_getElem?_getD,e2]
  rfl
 have hlt:=lt_of_get (show cs.toList[t]?=some (valOf v) by simpa using c1)
 refine ⟨?_,?_⟩
 ·rw [Nat.zero_add,hget]
  simp only [World.cell?,h3]
  exact c1
 ·rw [Nat.zero_add]
  have:=h5.1 t (by simpa using hlt)
  simp only [World.frozen?,h3]
  rw [Bool.eq_false_iff]
  intro hh
  exact this (by simpa using hh)
theorem Elem.lay (hH:HR N φ H w) {b g:Nat} {l l':List α} (hb:H[b]?=some (.rows E.k g (l.map E.cells))) (hl:l'.length=l.length) {L:Loc} (hL:φ b=some L) (n:Nat) (os:Array Obj) :
 HR N φ (H.set b (.rows E.k g (l'.map E.cells))) (sortWorldK E.enc E.k w L.cb 0 n l'.toArray os)∧Ext φ H.length w φ H.length (sortWorldK E.enc E.k w L.cb 0 n l'.toArray os):=by
 obtain ⟨L',cs,T,fr,h1,h2,h3,h4,h5,h6⟩:=hH.rows _ _ _ _ hb
 rw [hL] at h1;cases h1
 let cs':=putCells id 0 (flatK E.enc E.k l'.toArray) cs
 have hcs:cs'.size=cs.size:=by simp [cs',putCells]
 have hput:=hH.put hL (.cells cs' T fr) (.rows E.k g (l'.map E.cells)) (fun r hr=>by rw [h3] at hr;cases hr) (by simp) (by
  intro esz g' rs e
  cases e
  refine ⟨cs',T,fr,h2,rfl,by rw [hcs];exact h4,by rw [hcs];exact h5,?_⟩
  refine ⟨by rw [hcs];have:=h6.1;simp only [List.length_map] at this ⊢;rw [hl];exact this,fun i row hi=>?_⟩
  obtain ⟨x,hx,rfl⟩:∃x,l'[i]?=some x∧E.cells x=row:=by simpa using hi
  refine ⟨E.len x,fun j v hj=>?_⟩
  obtain ⟨e1,e2,e3,_⟩:=E.get hj
  refine ⟨e1,_,?_,e3 _ _ _⟩
  have hjk:j<E.k:=by have:=lt_of_get hj;rw [E.len] at this;exact this
  have hil:=lt_of_get hx
  have hlt:i*E.k+j<l'.length*E.k:=row_lt hil hjk
  have hlt2:i*E.k+j<cs.size:=by have:=h6.1;simp only [List.length_map] at this;rw [hl] at hlt;omega
  have hget:(flatK E.enc E.k l'.toArray)[i*E.k+j]! = valOf v:=by
   rw [get_flatK _ _ _ _ (by simpa using hlt),div_row hjk,mod_row hjk]
   have h1:l'.toArray[i]! = x:=by simp [hx]
   rw [h1,List.getElem!_eq_getElem?_getD,e2]
   rfl
  show (putCells id 0 (flatK E.enc E.k l'.toArray) cs)[i*E.k+j]?=_
  unfold putCells
  rw [Array.getElem?_mapIdx,Array.getElem?_eq_getElem hlt2]
  simp only [Option.map_some,size_flatK,List.size_toArray,Nat.zero_le,Nat.zero_add,true_and,hlt,if_true,Nat.sub_zero,id]
  rw [hget]) (by simp) (by simp)
 have hx:=Ext.put hH hL (.cells cs' T fr) (fun r hr=>by rw [h3] at hr;cases hr)
 have hlt:=(hH.base b L hL).2
 have hk:∀(cb:Nat) (o:Obj),(putBlk w L.cb (.cells cs' T fr)).heap[cb]?=some o→(sortWorldK E.enc E.k w L.cb 0 n l'.toArray os).heap[cb]?=some o:=by
  intro cb o ho
  have hcb:cb<w.heap.size:=by have:=(Array.getElem?_eq_some_iff.1 ho).1;simpa using this
  show ((putRow id (Sort.ahead w n) L.cb 0 (flatK E.enc E.k l'.toArray)).heap++os)[cb]?=some o
  rw [Array.getElem?_append_left (by simpa [Sort.ahead] using hcb)]
  simp only [putRow,mapBlock,Sort.ahead,Array.getElem?_modify]
  by_cases e:L.cb=cb
  ·subst e
   rw [putBlk_same hlt] at ho
   rw [if_pos rfl,h3]
   simpa [onCells] using ho
  ·rw [if_neg e]
   rw [putBlk_other e] at ho
   exact ho
 have hs:(putBlk w L.cb (.cells cs' T fr)).heap.size≤(sortWorldK E.enc E.k w L.cb 0 n l'.toArray os).heap.size:=by
  simp [sortWorldK,grow,putRowK,Sort.ahead]
 exact ⟨hput.keeps hs hk .refl,hx.trans (Ext.keeps hs hk .refl)⟩
end Go.Proofs.Ev
namespace Go.Proofs.Ev
open Go.Proofs Go.Sort
variable {w w':World}
theorem bytes_at {X:World} (blk off cap:Nat) (d:List Nat) (hc:∀(j n:Nat),d[j]?=some n→X.cell? ⟨blk,off+j,none⟩=some (.int .u8 (n:Int))) :
 (Extern.Bytes.bytesOf (.slice (some ⟨blk,off,none⟩) d.length cap)).run Tryz.prog X=.ok ⟨(d.map UInt8.ofNat).toArray⟩ X:=by
 have hl:=Lib.run_loadBytesX (P:=Tryz.prog) X (d.map fun n:Nat=>(n:Int)) ⟨blk,off,none⟩ .empty (fun j n hj=>by
  rw [List.getElem?_map] at hj
  cases hm:d[j]? with
  | none=>rw [hm] at hj;cases hj
  | some m =>
   rw [hm] at hj
   simp at hj;subst hj
   have ha:(⟨blk,off,none⟩:Addr).add j=⟨blk,off+j,none⟩:=by by_cases hj0:j=0<;>simp [Addr.add,hj0]
   rw [ha];exact hc j m hm)
 rw [List.length_map] at hl
 have hb2:Lib.bytesOf (d.map fun n:Nat=>(n:Int))=d.map UInt8.ofNat:=by simp [Lib.bytesOf]
 rw [hb2] at hl
 show (Extern.Bytes.loadBytes _ d.length .empty).run Tryz.prog X=_
 rw [hl]
 congr 1
 apply ByteArray.ext
 show (#[]:Array UInt8)++_=_
 simp
theorem drew_grow (o1 o2:Obj):((w.alloc o1).alloc o2).drew=grow (w.drewN 1) #[o1,o2]:=by
 have h:(w.heap.push o1).push o2=w.heap++#[o1,o2]:=by apply Array.ext';simp
 show ({ w with heap:=(w.heap.push o1).push o2,drawn:=w.drawn+1 }:World)={ w with heap:=w.heap++#[o1,o2],drawn:=w.drawn+1 }
 rw [h]
def digEnc (d:List Nat):List Value:=d.map fun n:Nat=>.int .u8 (n:Int)
set_option maxRecDepth 100000 in
set_option maxHeartbeats 1000000 in
theorem call_cmpD (x y:List Nat) (hx:x.length=32) (hy:y.length=32) (hxb:∀n∈x,n<256) (hyb:∀n∈y,n<256) (w:World) :
 CallsIn (Fw none) 0 Tryz.prog 76 #[.agg (digEnc x).toArray,.agg (digEnc y).toArray] w fun e w'=>e=.returned (.int .i64 (cmpD x y))∧∃q os,w'=grow (w.drewN q) os:=by
 refine callsIn_of_wp Tryz.func76 rfl trivial ?_ rfl
 have mixed:Tryz.prog.follows .mixedOrders=true:=by kernel_rfl
 have hn:Tryz.f76.ntmps=8:=rfl
 simp only [hn,List.size_toArray,List.length_cons,List.length_nil,Nat.reduceAdd,Nat.reduceSub,Array.replicate_succ,Array.replicate_zero,List.push_toArray,List.append_toArray,List.nil_append,List.cons_append]
 gi_wp2
 have hcell:∀(W:World) (b:Nat) (d:List Nat) (T:TypeId),W.heap[b]?=some (.cells (digEnc d).toArray T (0,0))→∀(j n:Nat),d[j]?=some n→W.cell? ⟨b,0+j,none⟩=some (.int .u8 (n:Int)):=by
  intro W b d T hb j n hj
  simp [World.cell?,hb,digEnc,hj]
 generalize hW:(w.alloc (Obj.cells (digEnc x).toArray 25)).alloc (Obj.cells (digEnc y).toArray 25)=W
 have e1:W.heap[w.heap.size]?=some (.cells (digEnc x).toArray 25 (0,0)):=by
  rw [←hW];exact (heap_alloc_old (by simp)).trans heap_alloc_new
 have e2:W.heap[w.heap.size+1]?=some (.cells (digEnc y).toArray 25 (0,0)):=by
  rw [←hW]
  have:=heap_alloc_new (w:=w.alloc (Obj.cells (digEnc x).toArray 25)) (o:=Obj.cells (digEnc y).toArray 25)
  simpa using this
 have b1:=bytes_at (X:=W.drew) w.heap.size 0 32 x (hcell W.drew w.heap.size x _ e1)
 have b2:=bytes_at (X:=W.drew) (w.heap.size+1) 0 32 y (hcell W.drew (w.heap.size+1) y _ e2)
 rw [hx] at b1
 rw [hy] at b2
 gi_region_with_o (gi_at_call 128;refine (call_cmp b1 b2 (by rw [hx,hy]) hxb hyb).mono ?_;rintro e w' ⟨rfl,rfl⟩)
 gi_wp2
 go_ret
 refine ⟨rfl,1,#[Obj.cells (digEnc x).toArray 25,Obj.cells (digEnc y).toArray 25],?_⟩
 rw [←hW]
 exact drew_grow _ _
def idEnc (x:IdV):List Value:=digEnc x.d++[.int .i64 x.n]
theorem call_isNaN (n:Int) (w:World):CallsIn (Fw none) 0 Tryz.prog 222 #[.int .i64 n] w fun e w'=>e=.returned (.bool false)∧w'=w:=by
 refine callsIn_of_wp Tryz.func222 rfl trivial ?_ rfl
 have hn:Tryz.f222.ntmps=6:=rfl
 simp only [hn,List.size_toArray,List.length_cons,List.length_nil,Nat.reduceAdd,Nat.reduceSub,Array.replicate_succ,Array.replicate_zero,List.push_toArray,List.append_toArray,List.nil_append,List.cons_append]
 gi_wp2
 go_ret
 exact ⟨rfl,rfl⟩
def cmpNum (a b:Int):Int:=if a<b then -1 else if b<a then 1 else 0
set_option maxRecDepth 100000 in
set_option maxHeartbeats 1000000 in
theorem call_cmpNum (a b:Int) (w:World):CallsIn (Fw none) 0 Tryz.prog 150 #[.int .i64 a,.int .i64 b] w fun e w'=>e=.returned (.int .i64 (cmpNum a b))∧w'=w:=by
 refine callsIn_of_wp Tryz.func150 rfl trivial ?_ rfl
 have hn:Tryz.f150.ntmps=20:=rfl
 simp only [hn,List.size_toArray,List.length_cons,List.length_nil,Nat.reduceAdd,Nat.reduceSub,Array.replicate_succ,Array.replicate_zero,List.push_toArray,List.append_toArray,List.nil_append,List.cons_append]
 by_cases h1:a<b
 ·gi_wp2_with (gi_at_call 222;refine (call_isNaN _ _).mono ?_;rintro e w' ⟨rfl,rfl⟩)
  all_goals (go_ret;exact ⟨by simp [cmpNum,h1],rfl⟩)
 ·by_cases h2:b<a
  ·gi_wp2_with (gi_at_call 222;refine (call_isNaN _ _).mono ?_;rintro e w' ⟨rfl,rfl⟩)
   all_goals (go_ret;exact ⟨by simp [cmpNum,h1,h2],rfl⟩)
  ·gi_wp2_with (gi_at_call 222;refine (call_isNaN _ _).mono ?_;rintro e w' ⟨rfl,rfl⟩)
   all_goals (go_ret;exact ⟨by rw [cmpNum,if_neg (by omega),if_neg (by omega)];rfl,rfl⟩)
set_option maxRecDepth 100000 in
set_option maxHeartbeats 1000000 in
theorem call_cmpI (x y:IdV) (w:World) :
 CallsIn (Fw none) 0 Tryz.prog 91 #[.agg (idEnc x).toArray,.agg (idEnc y).toArray] w fun e w'=>e=.returned (.int .i64 (cmpI x y))∧∃q os,w'=grow (w.drewN q) os:=by
 refine callsIn_of_wp Tryz.func91 rfl trivial ?_ rfl
 have mixed:Tryz.prog.follows .mixedOrders=true:=by kernel_rfl
 have hn:Tryz.f91.ntmps=19:=rfl
 simp only [hn,List.size_toArray,List.length_cons,List.length_nil,Nat.reduceAdd,Nat.reduceSub,Array.replicate_succ,Array.replicate_zero,List.push_toArray,List.append_toArray,List.nil_append,List.cons_append]
 gi_wp2
 have hcell:∀(W:World) (b:Nat) (z:IdV) (T:TypeId),W.heap[b]?=some (.cells (idEnc z).toArray T (0,0))→(∀(j n:Nat),z.d[j]?=some n→W.cell? ⟨b,0+j,none⟩=some (.int .u8 (n:Int)))∧W.cell? ⟨b,32,none⟩=some (.int .i64 z.n):=by
  intro W b z T hb
  have h32:(digEnc z.d).length=32:=by simp [digEnc,z.h]
  refine ⟨fun j n hj=>?_,?_⟩
  ·have hlt:=lt_of_get hj
   simp only [World.cell?,hb,idEnc,Nat.zero_add,List.getElem?_toArray]
   rw [List.getElem?_append_left (by rw [h32,←z.h];exact hlt)]
   simp [digEnc,hj]
  ·simp only [World.cell?,hb,idEnc,List.getElem?_toArray]
   rw [List.getElem?_append_right (by rw [h32];exact Nat.le_refl _),h32]
   rfl
 generalize hW:(w.alloc (Obj.cells (idEnc x).toArray 27)).alloc (Obj.cells (idEnc y).toArray 27)=W
 have e1:W.heap[w.heap.size]?=some (.cells (idEnc x).toArray 27 (0,0)):=by
  rw [←hW];exact (heap_alloc_old (by simp)).trans heap_alloc_new
 have e2:W.heap[w.heap.size+1]?=some (.cells (idEnc y).toArray 27 (0,0)):=by
  rw [←hW]
  have:=heap_alloc_new (w:=w.alloc (Obj.cells (idEnc x).toArray 27)) (o:=Obj.cells (idEnc y).toArray 27)
  simpa using this
 have b1:=bytes_at (X:=W.drew) w.heap.size 0 32 x.d (hcell W.drew w.heap.size x _ e1).1
 have b2:=bytes_at (X:=W.drew) (w.heap.size+1) 0 32 y.d (hcell W.drew (w.heap.size+1) y _ e2).1
 rw [x.h] at b1
 rw [y.h] at b2
 have c1:=(hcell W.drew w.heap.size x _ e1).2
 have c2:=(hcell W.drew (w.heap.size+1) y _ e2).2
 clear hcell
 gi_region_with_o (gi_at_call 128;refine (call_cmp b1 b2 (by rw [x.h,y.h]) x.b y.b).mono ?_;rintro e w' ⟨rfl,rfl⟩)
 have fin:∃q os,W.drew=grow (w.drewN q) os:=⟨1,#[Obj.cells (idEnc x).toArray 27,Obj.cells (idEnc y).toArray 27],by rw [←hW];exact drew_grow _ _⟩
 by_cases h0:cmpD x.d y.d=0
 ·have hI:cmpI x y=cmpNum x.n y.n:=by rw [cmpI,if_pos h0];rfl
  rw [h0]
  gi_wp2_with (gi_at_call 150;refine (call_cmpNum _ _ _).mono ?_;rintro e w' ⟨rfl,rfl⟩)
  go_ret
  exact ⟨by rw [hI];rfl,fin⟩
 ·have hI:cmpI x y=cmpD x.d y.d:=by rw [cmpI,if_neg h0]
  gi_wp2
  go_ret
  exact ⟨by rw [hI];rfl,fin⟩
theorem cmpD_self:∀a:List Nat,cmpD a a=0
 | []=>rfl
 | x::a=>by rw [cmpD,if_neg (by omega),if_neg (by omega)];exact cmpD_self a
theorem cmpD_anti:∀a b:List Nat,cmpD b a = - cmpD a b
 | [],[]=>rfl
 | [],_::_=>rfl
 | _::_,[]=>rfl
 | x::a,y::b=>by
  rw [cmpD,cmpD,cmpD_anti a b]
  by_cases h1:x<y
  ·rw [if_neg (by omega),if_pos h1,if_pos h1];rfl
  ·by_cases h2:y<x
   ·rw [if_pos h2,if_neg h1,if_pos h2]
   ·rw [if_neg h2,if_neg h1,if_neg h1,if_neg h2]
theorem cmpD_three:∀a b:List Nat,cmpD a b = -1∨cmpD a b=0∨cmpD a b=1
 | [],_=>.inr (.inl (by cases ‹List Nat›<;>rfl))
 | _::_,[]=>.inr (.inl rfl)
 | x::a,y::b=>by
  rw [cmpD]
  by_cases h1:x<y
  ·rw [if_pos h1];exact .inl rfl
  ·by_cases h2:y<x
   ·rw [if_neg h1,if_pos h2];exact .inr (.inr rfl)
   ·rw [if_neg h1,if_neg h2];exact cmpD_three a b
theorem cmpD_trans:∀{a b c:List Nat},a.length=b.length→b.length=c.length→cmpD a b≤0→cmpD b c≤0→cmpD a c≤0∧(cmpD a c=0→cmpD a b=0∧cmpD b c=0)
 | [],[],[],_,_,_,_=>⟨by decide,fun _=>⟨rfl,rfl⟩⟩
 | [],_::_,_,h,_,_,_=>by simp at h
 | _::_,[],_,h,_,_,_=>by simp at h
 | [],[],_::_,_,h,_,_=>by simp at h
 | _::_,_::_,[],_,h,_,_=>by simp at h
 | x::a,y::b,z::c,h,h',h1,h2=>by
  have ih:=cmpD_trans (a:=a) (b:=b) (c:=c) (by simpa using h) (by simpa using h')
  rw [cmpD] at h1 h2
  rw [cmpD,cmpD,cmpD]
  by_cases a1:x<y
  ·rw [if_pos a1] at h1
   by_cases b1:y<z
   ·rw [if_pos (show x<z by omega)];exact ⟨by decide,fun h=>by cases h⟩
   ·rw [if_neg b1] at h2
    by_cases b2:z<y
    ·rw [if_pos b2] at h2;omega
    ·rw [if_pos (show x<z by omega)];exact ⟨by decide,fun h=>by cases h⟩
  ·rw [if_neg a1] at h1
   by_cases a2:y<x
   ·rw [if_pos a2] at h1;omega
   ·rw [if_neg a2] at h1
    have hxy:x=y:=by omega
    subst hxy
    by_cases b1:x<z
    ·rw [if_pos b1];exact ⟨by decide,fun h=>by cases h⟩
    ·rw [if_neg b1] at h2
     by_cases b2:z<x
     ·rw [if_pos b2] at h2;omega
     ·rw [if_neg b2] at h2
      simp only [if_neg b1,if_neg b2,if_neg a1]
      exact ih h1 h2
theorem swo_of {α:Type} (cf:α→α→Int) (h0:∀x,cf x x=0) (ha:∀x y,cf y x = - cf x y) (ht:∀x y z,cf x y≤0→cf y z≤0→cf x z≤0∧(cf x z=0→cf x y=0∧cf y z=0)):SWO (ltOf cf):={
 irrefl x:=by simp [ltOf,h0]
 trans x y z h1 h2:=by
  simp only [ltOf,decide_eq_true_eq] at h1 h2 ⊢
  obtain ⟨h3,h4⟩:=ht x y z (by omega) (by omega)
  rcases Int.lt_or_eq_of_le h3 with h | h
  ·exact h
  ·have:=(h4 h).1;omega
 ntrans x y z h1 h2:=by
  simp only [ltOf,decide_eq_false_iff_not,Int.not_lt] at h1 h2 ⊢
  have e1:=ha x y
  have e2:=ha y z
  have e3:=ha x z
  have:=(ht z y x (by omega) (by omega)).1
  omega }
theorem swo_dig:SWO (ltOf fun a b:DigV=>cmpD a.d b.d):=swo_of _ (fun a=>cmpD_self a.d) (fun a b=>cmpD_anti a.d b.d) fun a b c=>cmpD_trans (by rw [a.h,b.h]) (by rw [b.h,c.h])
theorem swo_id:SWO (ltOf cmpI):=by
 refine swo_of _ (fun a=>?_) (fun a b=>?_) fun a b c h1 h2=>?_
 ·simp [cmpI,cmpD_self]
 ·unfold cmpI
  have h:=cmpD_anti a.d b.d
  rcases cmpD_three a.d b.d with h1 | h1 | h1
  ·rw [h1] at h ⊢;rw [h];simp
  ·rw [h1] at h ⊢;rw [h]
   simp only [Int.neg_zero,if_true]
   split<;>split<;>first | rfl | omega | (split<;>omega)
  ·rw [h1] at h ⊢;rw [h];simp
 ·have ht:=cmpD_trans (a:=a.d) (b:=b.d) (c:=c.d) (by rw [a.h,b.h]) (by rw [b.h,c.h])
  unfold cmpI at h1 h2 ⊢
  have t1:=cmpD_three a.d b.d
  have t2:=cmpD_three b.d c.d
  have t3:=cmpD_three a.d c.d
  by_cases e1:cmpD a.d b.d=0
  ·by_cases e2:cmpD b.d c.d=0
   ·obtain ⟨g1,g2⟩:=ht (by omega) (by omega)
    have e3:cmpD a.d c.d=0:=by
     have h3:=cmpD_anti a.d b.d
     have h4:=cmpD_anti b.d c.d
     have h5:=cmpD_anti a.d c.d
     have:=(cmpD_trans (a:=c.d) (b:=b.d) (c:=a.d) (by rw [b.h,c.h]) (by rw [a.h,b.h]) (by omega) (by omega)).1
     omega
    rw [if_pos e1] at h1 ⊢
    rw [if_pos e2] at h2 ⊢
    rw [if_pos e3]
    split at h1<;>split at h2<;>(repeat' split)<;>omega
   ·rw [if_neg e2] at h2
    obtain ⟨g1,g2⟩:=ht (by omega) (by omega)
    have e3:cmpD a.d c.d≠0:=fun h=>e2 (g2 h).2
    rw [if_neg e3]
    exact ⟨g1,fun h=>absurd h e3⟩
  ·rw [if_neg e1] at h1
   have h2':cmpD b.d c.d≤0:=by
    by_cases e2:cmpD b.d c.d=0
    ·omega
    ·rw [if_neg e2] at h2;exact h2
   obtain ⟨g1,g2⟩:=ht (by omega) h2'
   have e3:cmpD a.d c.d≠0:=fun h=>e1 (g2 h).1
   rw [if_neg e3]
   exact ⟨g1,fun h=>absurd h e3⟩
end Go.Proofs.Ev
namespace Go.Proofs.Ev
open Go.Proofs Go.Sort
variable {N:Low} {φ:Phi} {H:Heap} {w w':World}
theorem closed_ok {P:Program} {C:Cfg} (hS:C.Sound P N) {n:Nat} {f:FuncId} {av:List AV} {v:AV} (hf:(funcA P C n 0 f av []).map (·.1)=some v) (hv:v.flat=true) (hH:HR N φ H w) {Vs:Array Value} (hargs:Two (fun v V=>RV φ H.length w v V) av Vs.toList) (hb:∀a∈av,Bnd 0 a) :
 CallsIn (Fw none) 0 P f Vs w fun e w'=>∃V,e=.returned V∧RV φ H.length w' v V∧HR N φ H w'∧Ext φ H.length w φ H.length w':=by
 obtain ⟨⟨v1,H1⟩,hf1,rfl⟩:=Option.map_eq_some_iff.1 hf
 obtain ⟨_,hc⟩:=(all_ok hS n).2.2.2.2.1 0 f av [] _ _ hf1
 have hall0:Two (fun v V=>RV (cutLoc φ 0) 0 w v V) av Vs.toList:=by
  have h1:=hargs.get
  refine Two.of_get h1.1 fun i x y hx hy=>?_
  obtain ⟨V,h2,h3⟩:=h1.2 i x hx
  rw [h2] at hy;cases hy
  exact h3.cut (hb x (List.mem_of_getElem? hx))
 refine (hc (Nat.le_refl _) hH.empty hall0).mono ?_
 rintro e w' ⟨V,φ',rfl,hrv,h1,hx,hlow⟩
 have pres:∀(cb:Nat) (o:Obj),w.heap[cb]?=some o→w'.heap[cb]?=some o:=by
  intro cb o ho
  by_cases hr:φ.res cb
  ·exact hx.keep cb o hr ho
  ·exact hx.same cb o ho ⟨fun b L hL=>by simp [cutLoc] at hL,hr⟩
 have hx2:Ext φ H.length w φ H.length w':=Ext.keeps hx.size pres hx.env
 exact ⟨V,rfl,hrv.flat hv,hH.keeps hx.size pres hx.env,hx2⟩
variable {α:Type} [Inhabited α]
noncomputable def sortL (cf:α→α→Int) (l:List α):List α:=(pdq (ltOf cf) l.toArray 0 l.toArray.size (Lib.bitLen l.toArray.size) true true).toList
theorem sortL_perm {cf:α→α→Int} (hO:SWO (ltOf cf)) (l:List α):(sortL cf l).Perm l:=by
 have h:=(pdq_sorts (ltOf cf) hO l.toArray 0 l.toArray.size (Lib.bitLen l.toArray.size) true true (Nat.zero_le _) (Nat.le_refl _) (Or.inl rfl)).1
 obtain ⟨h1,_,h3⟩:=h
 have e1:∀d:Array α,d.size=l.toArray.size→d.extract 0 l.toArray.size=d:=fun d hd=>by rw [←hd];simp
 rw [e1 _ h1,e1 _ rfl] at h3
 exact h3
theorem sortL_len {cf:α→α→Int} (hO:SWO (ltOf cf)) (l:List α):(sortL cf l).length=l.length:=(sortL_perm hO l).length_eq
open Classical in
noncomputable def pSort (E:Elem α) (cf:α→α→Int) (cmp:FuncId) (base:Nat) (args:List AV) (H:Heap):Option (AV×Heap) :=
 match args with
 | [.sl b g esz 0 len,.fn f []] =>
  if f=cmp∧esz=E.k∧base≤b∧len≤2^40 then
   match H[b]? with
   | some (.rows e g' rs) =>
    if h:∃l:List α,rs=l.map E.cells then
     if e=E.k∧g'=g∧rs.length=len then some (.tup [],H.set b (.rows E.k g ((sortL cf (Classical.choose h)).map E.cells))) else none
    else none
   | _=>none
  else none
 | [.nils,.fn f []]=>if f=cmp then some (.tup [],H) else none
 | [.lst [] _,.fn f []]=>if f=cmp then some (.tup [],H) else none
 | _=>none
theorem pSort_eq (E:Elem α) (hinj:∀x y,E.cells x=E.cells y→x=y) (cf:α→α→Int) (cmp:FuncId) {base b g:Nat} {H:Heap} {l:List α} (hb:base≤b) (hl:l.length≤2^40) (hg:H[b]?=some (.rows E.k g (l.map E.cells))) :
 pSort E cf cmp base [.sl b g E.k 0 l.length,.fn cmp []] H=some (.tup [],H.set b (.rows E.k g ((sortL cf l).map E.cells))):=by
 have h:∃l':List α,l.map E.cells=l'.map E.cells:=⟨l,rfl⟩
 have hc:Classical.choose h=l:=by
  have:=Classical.choose_spec h
  exact (List.map_inj_right hinj).1 this.symm
 simp only [pSort]
 rw [if_pos ⟨trivial,trivial,hb,hl⟩,hg]
 simp only
 rw [dif_pos h,if_pos ⟨trivial,trivial,by simp⟩,hc]
theorem sort_ok {E:Elem α} {cf:α→α→Int} {cmp f:FuncId} (hO:SWO (ltOf cf)) (hT:TagOK Tryz.prog N) (hfn:∃fn:Func,Tryz.prog.funcs[f]?=some fn∧fn.body.isSome=true)
 (h0:∀v,v=AV.nils∨v=.lst [] true∨v=.lst [] false→(funcA Tryz.prog cfg0 100 0 f [v,.fn cmp []] []).map (·.1)=some (.tup []))
 (hs:∀(blk cap:Nat) (d:Array α) (w:World),HoldsK E.enc E.k w blk 0 d→blk<w.heap.size→d.size<4611686018427387904→
  Calls Tryz.prog f #[.slice (some ⟨blk,0,none⟩) d.size cap,.func (.func cmp) #[] #[]] w fun e w'=>e=.returned (.tuple #[])∧∃n os,w'=sortWorldK E.enc E.k w blk 0 n (pdq (ltOf cf) d 0 d.size (Lib.bitLen d.size) true true) os) :
 PrimOK Tryz.prog N f (pSort E cf cmp):=by
 refine ⟨hfn,fun base args H v H' h φ w Vs hb hH ht=>?_⟩
 unfold pSort at h
 have empt:∀a,(a=AV.nils∨a=.lst [] true∨a=.lst [] false)→Two (fun v V=>RV φ H.length w v V) [a,.fn cmp []] Vs.toList→
  CallsIn (Fw none) 0 Tryz.prog f Vs w fun e w'=>∃V φ',e=.returned V∧RV φ' H.length w' (.tup []) V∧HR N φ' H w'∧Ext φ H.length w φ' H.length w'∧∀b,b<base→H[b]?=H[b]?:=by
  intro a ha ht
  refine (closed_ok (cfg0_sound hT) (h0 a ha) rfl hH ht ?_).mono ?_
  ·intro x hx
   simp only [List.mem_cons,List.not_mem_nil,or_false] at hx
   rcases hx with rfl | rfl
   ·rcases ha with rfl | rfl | rfl
    ·exact .nils
    ·exact .lst fun i row hi=>by simp at hi
    ·exact .lst fun i row hi=>by simp at hi
   ·exact .fn fun j v hj=>by simp at hj
  ·rintro e w' ⟨V,rfl,h1,h2,h3⟩
   exact ⟨V,φ,rfl,h1,h2,h3,fun _ _=>rfl⟩
 split at h
 ·rename_i b g esz len f'
  split at h
  ·rename_i hc
   obtain ⟨rfl,rfl,hbb,hlen⟩:=hc
   split at h
   ·rename_i e g' rs hblk
    split at h
    ·rename_i hl
     split at h
     ·rename_i hc2
      obtain ⟨rfl,rfl,rfl⟩:=hc2
      cases h
      have hsp:=Classical.choose_spec hl
      generalize Classical.choose hl=l at *
      subst hsp
      obtain ⟨X,Y,rfl,h1,h2⟩:=two_two ht
      obtain ⟨L,cs,T,fr,e1,e2,e3,e4,e5,e6⟩:=hH.rows _ _ _ _ hblk
      cases h2 with
      | fn hz hcaps =>
       rename_i Cs
       have hC:Cs=#[]:=by simpa using hz
       subst hC
       cases h1 with
       | sl hbn hcap hh =>
        rename_i cap a
        obtain ⟨ha,_⟩:=(hh L e1).2 e2.symm
        simp only [Nat.zero_mul] at ha
        subst ha
        have hll:l.length≤2^40:=by simpa using hlen
        have hcall:=hs L.cb cap l.toArray w (E.holds hH hblk e1) (hH.base b L e1).2 (by simp only [List.size_toArray];omega)
        simp only [List.size_toArray] at hcall
        rw [List.length_map]
        refine (callsIn_wide.2 hcall:CallsIn (Fw none) 0 _ _ _ _ _).mono ?_
        rintro e w' ⟨rfl,n,os,rfl⟩
        obtain ⟨r1,r2⟩:=E.lay hH hblk (sortL_len hO l) e1 n os
        have hs2:(sortL cf l).toArray=pdq (ltOf cf) l.toArray 0 l.length (Lib.bitLen l.length) true true:=by simp [sortL]
        rw [hs2] at r1 r2
        refine ⟨_,φ,rfl,.tup rfl (fun j v V hj=>by simp at hj),?_,?_,fun k hk=>List.getElem?_set_ne (by omega)⟩
        ·exact r1
        ·simpa using r2
     ·cases h
    ·cases h
   ·cases h
  ·cases h
 ·split at h
  ·rename_i hc;subst hc;cases h
   exact empt _ (.inl rfl) ht
  ·cases h
 ·rename_i x f'
  split at h
  ·rename_i hc;subst hc;cases h
   cases x
   ·exact empt _ (.inr (.inr rfl)) ht
   ·exact empt _ (.inr (.inl rfl)) ht
  ·cases h
 ·cases h
def idE:Elem IdV:=⟨IdV.cells,33,by decide,fun x=>by simp,fun x v hv=>by
 rcases List.mem_append.1 (show v∈dig x.d++[.int .i64 x.n] from hv) with h | h
 ·obtain ⟨n,_,rfl⟩:=List.mem_map.1 h;exact ⟨_,_,rfl⟩
 ·exact ⟨_,_,List.mem_singleton.1 h⟩⟩
def digE:Elem DigV:=⟨DigV.cells,32,by decide,fun x=>by simp,fun x v hv=>by
 obtain ⟨n,_,rfl⟩:=List.mem_map.1 (show v∈dig x.d from hv);exact ⟨_,_,rfl⟩⟩
theorem digE_enc (x:DigV):digE.enc x=digEnc x.d:=by
 show (dig x.d).map valOf=_
 simp [dig,digEnc,valOf]
theorem idE_enc (x:IdV):idE.enc x=idEnc x:=by
 show (dig x.d++[AV.int .i64 x.n]).map valOf=_
 simp [dig,digEnc,idEnc,valOf]
instance:Inhabited IdV:=⟨zeroId⟩
instance:Inhabited DigV:=⟨⟨digest0,by decide,by decide⟩⟩
theorem DigV.cells_inj (x y:DigV) (h:digE.cells x=digE.cells y):x=y:=by
 have h1:Ev.dig x.d=Ev.dig y.d:=h
 have h2:x.d=y.d:=by
  have hi:Function.Injective (fun n:Nat=>AV.int .u8 (n:Int)):=fun a b hab=>Int.ofNat_inj.1 (by simpa using hab)
  exact (List.map_inj_right hi).1 h1
 cases x;cases y;cases h2;rfl
theorem IdV.cells_inj (x y:IdV) (h:idE.cells x=idE.cells y):x=y:=by
 have h1:Ev.dig x.d++[AV.int .i64 x.n]=Ev.dig y.d++[AV.int .i64 y.n]:=h
 obtain ⟨h2,h3⟩:=List.append_inj h1 (by simp [Ev.dig,x.h,y.h])
 have h4:x.d=y.d:=by
  have hi:Function.Injective (fun n:Nat=>AV.int .u8 (n:Int)):=fun a b hab=>Int.ofNat_inj.1 (by simpa using hab)
  exact (List.map_inj_right hi).1 h2
 have h5:x.n=y.n:=by simpa using h3
 cases x;cases y;cases h4;cases h5;rfl
set_option maxRecDepth 100000 in
theorem sortI_ok (hT:TagOK Tryz.prog N):PrimOK Tryz.prog N 104 (pSort idE cmpI 91):=by
 refine sort_ok swo_id hT ⟨_,Tryz.func104,rfl⟩ (fun v hv=>by rcases hv with rfl | rfl | rfl<;>kernel_rfl) fun blk cap d w hH hblk hsz=>?_
 refine AnyQ.slices_SortFunc_eq Tryz.laysSortI 33 (fun w=>Tryz.isAgg27 w) (fun w=>Tryz.sizeOf27 w) idE.enc idE.enc_len idE.one cmpI swo_id 91 #[] blk 0 cap d w ?_ ?_ hH hblk hsz
 ·exact enters (cfg0_sound hT) Tryz.func91 rfl
 ·intro m os dk hs x y
  rw [idE_enc,idE_enc]
  exact callsIn_wide.1 (call_cmpI x y _)
set_option maxRecDepth 100000 in
theorem sortD_ok (hT:TagOK Tryz.prog N):PrimOK Tryz.prog N 133 (pSort digE (fun a b=>cmpD a.d b.d) 76):=by
 refine sort_ok swo_dig hT ⟨_,Tryz.func133,rfl⟩ (fun v hv=>by rcases hv with rfl | rfl | rfl<;>kernel_rfl) fun blk cap d w hH hblk hsz=>?_
 refine AnyQ.slices_SortFunc_eq Tryz.laysSortD 32 (fun w=>Tryz.isAgg25 w) (fun w=>Tryz.sizeOf25 w) digE.enc digE.enc_len digE.one (fun a b=>cmpD a.d b.d) swo_dig 76 #[] blk 0 cap d w ?_ ?_ hH hblk hsz
 ·exact enters (cfg0_sound hT) Tryz.func76 rfl
 ·intro m os dk hs x y
  rw [digE_enc,digE_enc]
  exact callsIn_wide.1 (call_cmpD x.d y.d x.h y.h x.b y.b _)
end Go.Proofs.Ev
namespace Go.Proofs.Ev
open Go.Proofs
theorem DigV.ext' {a b:DigV} (h:a.d=b.d):a=b:=by cases a;cases b;cases h;rfl
theorem compL_snoc:∀(l:List DigV) (a b:DigV),compL (l++[a,b])=if a.d=b.d then compL (l++[a]) else compL (l++[a])++[b]
 | [],a,b=>by
  show compL [a,b]=if a.d=b.d then compL [a] else compL [a]++[b]
  simp only [compL]
  split
  ·rename_i h;rw [DigV.ext' h]
  ·rfl
 | x::l,a,b=>by
  have ih:=compL_snoc l a b
  obtain ⟨y,r,hr⟩:∃y r,l++[a]=y::r:=by cases l with
   | nil=>exact ⟨_,_,rfl⟩
   | cons y l=>exact ⟨_,_,rfl⟩
  have hr2:l++[a,b]=y::(r++[b]):=by
   have:l++[a,b]=(l++[a])++[b]:=by simp
   rw [this,hr];rfl
  rw [hr,hr2] at ih
  rw [List.cons_append,List.cons_append,hr,hr2,compL,compL,ih]
  by_cases h1:x.d=y.d<;>by_cases h2:a.d=b.d<;>simp [h1,h2]
theorem compL_take {l:List DigV} {m:Nat} (h0:1≤m) (h:m<l.length):compL (l.take (m+1))=if l[m].d=l[m-1].d then compL (l.take m) else compL (l.take m)++[l[m]]:=by
 obtain ⟨k,rfl⟩:∃k,m=k+1:=⟨m-1,by omega⟩
 have e1:l.take (k+1)=l.take k++[l[k]]:=by rw [List.take_add_one,List.getElem?_eq_getElem (by omega)];rfl
 have e2:l.take (k+1+1)=l.take k++[l[k],l[k+1]]:=by rw [List.take_add_one,List.getElem?_eq_getElem h,e1,List.append_assoc];rfl
 rw [e2,compL_snoc,e1]
 simp only [Nat.add_sub_cancel]
 by_cases hq:l[k].d=l[k+1].d
 ·rw [if_pos hq,if_pos hq.symm]
 ·rw [if_neg hq,if_neg (Ne.symm hq)]
def cfgK:Cfg:=⟨fun _=>none,fun _=>false,fun _=>false,fun t=>if t=25 then some (List.replicate 32 (.int .u8)) else none⟩
theorem eq_digK (a b:List Nat) (ha:a.length=32) (hb:b.length=32):eqA Tryz.prog cfgK 25 (.agg (dig a)) (.agg (dig b))=some (decide (a=b)):=by
 have h1:=conf_dig a;rw [ha] at h1
 have h2:=conf_dig b;rw [hb] at h2
 simp only [eqA,cfgK,if_true,h1,h2,Bool.and_self,cellsEq_dig a b (by omega)]
def compR (l:List DigV) (m:Nat):List (List AV):=(compL (l.take m)++l.drop (compL (l.take m)).length).map DigV.cells
theorem compR_len (l:List DigV) {m:Nat} (hm:m≤l.length):(compR l m).length=l.length:=by
 have:=(compL_len (l.take m)).1
 simp [compR] at this ⊢
 omega
theorem compR_get (l:List DigV) {m j:Nat} (hj:(compL (l.take m)).length≤j) (h:j<l.length):(compR l m)[j]?=some l[j].cells:=by
 unfold compR
 rw [List.getElem?_map,List.getElem?_append_right hj,List.getElem?_drop,show (compL (l.take m)).length+(j-(compL (l.take m)).length)=j by omega,List.getElem?_eq_getElem h]
 rfl
theorem compR_set (l:List DigV) {m:Nat} (hm:m<l.length) (hc:(compL (l.take m)).length<l.length) (hn:compL (l.take (m+1))=compL (l.take m)++[l[m]]) :
 (compR l m).set (compL (l.take m)).length (dig l[m].d)=compR l (m+1):=by
 unfold compR
 rw [hn]
 generalize compL (l.take m)=c at *
 rw [List.map_append,List.set_append_right _ _ (by simp),List.length_map,Nat.sub_self,List.drop_eq_getElem_cons hc,List.map_cons,List.set_cons_zero]
 simp
 rfl
theorem idx_lt {k n:Nat} (h:k<n):idx (.int .i64 (k:Int)) n=some k:=by
 unfold idx
 simp only
 rw [if_pos ⟨by omega,by omega⟩];simp
theorem sl_from {b g len k:Nat} (h:k<len):sliceA Tryz.prog 60 (.sl b g 32 0 len) (some (.int .i64 (k:Int))) none none=some (.sl b g 32 k (len-k)):=by
 have hu:Program.underlying Tryz.prog 60=some (.slice 25):=by simp
 unfold sliceA
 simp only [hu,sz25,if_true,boundsA,idx_lt (show k<len+1 by omega),Option.map_some,Nat.zero_add]
 rw [if_neg (by omega)]
theorem sl_to {b g len k:Nat} (h0:0<k) (h:k≤len):sliceA Tryz.prog 60 (.sl b g 32 0 len) none (some (.int .i64 (k:Int))) none=some (.sl b g 32 0 k):=by
 have hu:Program.underlying Tryz.prog 60=some (.slice 25):=by simp
 unfold sliceA
 simp only [hu,sz25,if_true,boundsA,idx_lt (show k<len+1 by omega),Option.map_some,Nat.zero_add,Nat.sub_zero]
 rw [if_neg (by omega)]
set_option maxRecDepth 100000 in
set_option maxHeartbeats 2000000 in
theorem compact_func {base:Nat} {H:Heap} {b g:Nat} {l:List DigV} (hb:base≤b) (hg:H[b]?=some (.rows 32 g (l.map DigV.cells))) (hl:l.length≤2^40) :
 FuncW Tryz.prog cfgK base 134 [.sl b g 32 0 l.length] H fun v X=>v=.sl b g 32 0 (compL l).length∧X=H.set b (.rows 32 g ((compL l).map DigV.cells++List.replicate (l.length-(compL l).length) (dig digest0))):=by
 refine func_rule Tryz.func134 rfl rfl (by simp) (by kernel_rfl) ?_
 unfold Tryz.f134
 have hset:H.set b (.rows 32 g (l.map DigV.cells))=H:=by
  apply List.ext_getElem?
  intro k
  by_cases hk:b=k
  ·subst hk
   rw [List.getElem?_set_self (List.getElem?_eq_some_iff.1 hg).1,hg]
  ·rw [List.getElem?_set_ne hk]
 have same:compL l=l→l.length=(compL l).length∧H=H.set b (.rows 32 g ((compL l).map DigV.cells++List.replicate (l.length-(compL l).length) (dig digest0))):=by
  intro hc
  rw [hc]
  refine ⟨rfl,?_⟩
  rw [Nat.sub_self,List.replicate_zero,List.append_nil,hset]
 have hbin:∀(x y:DigV) (neg:Bool),binA Tryz.prog cfgK (if neg then .neq else .eql) 25 (.agg (dig x.d)) (.agg (dig y.d))=some (.bool (if neg then !decide (x.d=y.d) else decide (x.d=y.d))):=by
  intro x y neg
  have:=eq_digK x.d y.d x.h y.h
  cases neg<;>simp [binA,this]
 have hE:=fun x y=>hbin x y false
 have hN:=fun x y=>hbin x y true
 simp only [if_true,Bool.false_eq_true,if_false] at hE hN
 simp [argS]
 refine ⟨fun h2=>?_,fun h2=>?_⟩
 ·refine same ?_
  match l,h2 with
  | [],_=>rfl
  | [a],_=>rfl
  | a::b::l,h=>simp at h;omega
 have h2':2≤l.length:=by omega
 refine loop_count l.length (fun i s X=>s 0=.sl b g 32 0 l.length∧s 3=.int .i64 ((i:Int)+1)∧X=H∧i+1≤l.length∧compL (l.take (i+1))=l.take (i+1)) ?_ ?_
 ·refine ⟨rfl,rfl,rfl,by omega,?_⟩
  match l with
  | []=>rfl
  | a::l=>rfl
 rintro i s X ⟨q0,q3,rfl,hil,hcl⟩ hi
 by_cases h:i+1<l.length
 ·have hi0:i<l.length:=by omega
  have r1:blkRow X b g 32 (i+1)=some (dig l[i+1].d):=by rw [blkRow_eq hg];simp [h];rfl
  have r0:blkRow X b g 32 i=some (dig l[i].d):=by rw [blkRow_eq hg];simp [hi0];rfl
  have hlt:(i:Int)+1<l.length:=by omega
  have w0:IntKind.i64.wrap (i:Int)=i:=wrap_nat (by omega)
  have w1:IntKind.i64.wrap ((i:Int)+1+1)=(i:Int)+1+1:=wrap_in (by omega) (by omega)
  have d1:l[i+1].d.length=32:=l[i+1].h
  have d0:l[i].d.length=32:=l[i].h
  have t1:List.take 32 (dig l[i+1].d)=dig l[i+1].d:=List.take_of_length_le (by simp [dig,d1])
  have t0:List.take 32 (dig l[i].d)=dig l[i].d:=List.take_of_length_le (by simp [dig,d0])
  have hp:(0:Int)≤(i:Int)+1:=by omega
  have hil2:(i:Int)<l.length:=by omega
  have ht:=compL_take (l:=l) (m:=i+1) (by omega) h
  simp only [Nat.add_sub_cancel] at ht
  by_cases he:l[i+1].d=l[i].d
  ·rw [if_pos he,hcl] at ht
   have hle:(i:Int)+1≤l.length:=by omega
   have hne:¬(l.length=i+1):=by omega
   have sl1:=sl_from (b:=b) (g:=g) h
   have hcast:((i+1:Nat):Int)=(i:Int)+1:=by omega
   rw [hcast] at sl1
   simp [q0,q3,hlt,r1,r0,hE,w0,d0,t0,hp,hil2,he,sl1]
   obtain ⟨K,hK⟩:∃K,K=i+1:=⟨_,rfl⟩
   have hKi:(i:Int)+1=(K:Int):=by omega
   rw [hKi]
   rw [←hK] at ht h ⊢
   have hb0:b<X.length:=(List.getElem?_eq_some_iff.1 hg).1
   have hKl:(compL (l.take (K+1))).length=K:=by rw [ht,List.length_take];omega
   clear sl1 hcast w0 w1 hp hil2 hcl hlt
   rw [hKi] at q3
   refine loop_count l.length (fun j s Y=>s 0=.sl b g 32 0 l.length∧s 4=.sl b g 32 K (l.length-K)∧s 5=.int .i64 ((j:Int)+1)∧s 3=.int .i64 ((compL (l.take (K+j+1))).length:Nat)∧Y=X.set b (.rows 32 g (compR l (K+j+1)))∧K+j+1≤l.length∧(compL (l.take (K+j+1))).length≤K+j∧0<(compL (l.take (K+j+1))).length) ?_ ?_
   ·refine ⟨by simpa using q0,by simp,by simp,?_,?_,by omega,?_,?_⟩
    ·rw [Nat.add_zero,hKl];simpa using q3
    ·rw [Nat.add_zero]
     unfold compR
     rw [hKl,ht,List.take_append_drop,hset]
    ·rw [Nat.add_zero,hKl];omega
    ·rw [Nat.add_zero,hKl];omega
   rintro j s Y ⟨q0,q4,q5,q3,rfl,hm,hc1,hc0⟩ hj
   have hX:(X.set b (.rows 32 g (compR l (K+j+1))))[b]?=some (.rows 32 g (compR l (K+j+1))):=by rw [List.getElem?_set_self hb0]
   obtain ⟨c,hcd⟩:∃c,c=(compL (l.take (K+j+1))).length:=⟨_,rfl⟩
   rw [←hcd] at q3 hc1 hc0
   have hlk:((l.length-K:Nat):Int)=(l.length:Int)-K:=by omega
   by_cases hj2:j+1<l.length-K
   ·have hm2:K+j+1<l.length:=by omega
    have hm0:K+j<l.length:=by omega
    have r1:blkRow (X.set b (.rows 32 g (compR l (K+j+1)))) b g 32 (K+(j+1))=some (dig l[K+j+1].d):=by
     rw [blkRow_eq hX];exact compR_get l (by omega) hm2
    have r0:blkRow (X.set b (.rows 32 g (compR l (K+j+1)))) b g 32 (K+j)=some (dig l[K+j].d):=by
     rw [blkRow_eq hX];exact compR_get l (by omega) hm0
    have hlt:(j:Int)+1<((l.length-K:Nat):Int):=by omega
    have w0:IntKind.i64.wrap (j:Int)=j:=wrap_nat (by omega)
    have w1:IntKind.i64.wrap ((j:Int)+1+1)=(j:Int)+1+1:=wrap_in (by omega) (by omega)
    have w2:IntKind.i64.wrap ((c:Int)+1)=(c:Int)+1:=wrap_in (by omega) (by omega)
    have d1:l[K+j+1].d.length=32:=l[K+j+1].h
    have d0:l[K+j].d.length=32:=l[K+j].h
    have t1:List.take 32 (dig l[K+j+1].d)=dig l[K+j+1].d:=List.take_of_length_le (by simp [dig,d1])
    have t0:List.take 32 (dig l[K+j].d)=dig l[K+j].d:=List.take_of_length_le (by simp [dig,d0])
    have hp:(0:Int)≤(j:Int)+1:=by omega
    have hjl:(j:Int)<((l.length-K:Nat):Int):=by omega
    have ht:=compL_take (l:=l) (m:=K+j+1) (by omega) hm2
    simp only [Nat.add_sub_cancel] at ht
    have hcl:(c:Int)<l.length:=by omega
    by_cases he:l[K+j+1].d=l[K+j].d
    ·rw [if_pos he] at ht
     have hR:compR l (K+j+1+1)=compR l (K+j+1):=by unfold compR;rw [ht]
     simp [q0,q3,q4,q5,hlt,r1,r0,hN,w0,w1,d0,t0,hp,hjl,he]
     rw [show K+(j+1)+1=K+j+1+1 by omega,ht,hR,←hcd]
     exact ⟨by omega,rfl,rfl,by omega,by omega,by omega⟩
    ·rw [if_neg he] at ht
     have hcl2:c<l.length:=by omega
     have hst:storeA Tryz.prog base (X.set b (.rows 32 g (compR l (K+j+1)))) 25 (.ptr b g 32 c 0) (.agg (dig l[K+j+1].d))=some (X.set b (.rows 32 g (compR l (K+j+1+1)))):=by
      have hrow:(compR l (K+j+1))[c]?=some (dig l[c].d):=compR_get l (by omega) hcl2
      have hl32:(dig l[c].d).length=32:=by simp [dig,l[c].h]
      have hlf:∀y∈dig l[K+j+1].d,y.leaf=true:=by intro y hy;obtain ⟨n,_,rfl⟩:=List.mem_map.1 hy;rfl
      have hcs:=compR_set l hm2 (by rw [←hcd];exact hcl2) ht
      rw [←hcd] at hcs
      have hdr:List.drop 32 (dig l[c].d)=[]:=List.drop_eq_nil_of_le (by omega)
      have hd32:(dig l[K+j+1].d).length=32:=by simp [dig,d1]
      unfold storeA
      simp only [sz25,AV.cells,hX,hrow,hl32,hd32]
      rw [if_pos ⟨hb,trivial,by rw [List.all_eq_true];exact hlf⟩,if_pos ⟨trivial,trivial⟩,if_pos (by omega),List.take_zero,List.nil_append,Nat.zero_add,hdr,List.append_nil,hcs,List.set_set]
     simp [q0,q3,q4,q5,hlt,r1,r0,hN,w0,w1,w2,d1,d0,t1,t0,hp,hjl,he,hcl,hst]
     rw [show K+(j+1)+1=K+j+1+1 by omega,ht,List.length_append,←hcd]
     exact ⟨by omega,by simp,rfl,by omega,by simp;omega,by simp⟩
   ·have hend:K+j+1=l.length:=by omega
    have hlt:¬((j:Int)+1<((l.length-K:Nat):Int)):=by omega
    have htl:l.take (K+j+1)=l:=List.take_of_length_le (by omega)
    rw [htl] at hcd
    have hcn:c<l.length:=by omega
    have sl1:=sl_from (b:=b) (g:=g) hcn
    have sl2:=sl_to (b:=b) (g:=g) hc0 (Nat.le_of_lt hcn)
    have hcr:compR l (K+j+1)=(compL l++l.drop c).map DigV.cells:=by unfold compR;rw [htl,←hcd]
    have hclr:clearA Tryz.prog base (X.set b (.rows 32 g (compR l (K+j+1)))) 60 (.sl b g 32 c (l.length-c))=some (X.set b (.rows 32 g ((compL l).map DigV.cells++List.replicate (l.length-c) (dig digest0)))):=by
     have hu:Program.underlying Tryz.prog 60=some (.slice 25):=by simp
     have hz:ofZero Tryz.prog 25=some (.agg (dig digest0)):=by simp
     have hrl:=compR_len l hm
     unfold clearA
     simp only [hu,hX,sz25,hz,AV.cells]
     rw [if_pos ⟨hb,trivial,trivial,trivial,by decide,by omega,by omega,by decide⟩,List.set_set,hcr,List.map_append,List.take_left' (by rw [List.length_map];exact hcd.symm)]
    simp [q0,q3,q4,q5,hlt,sl1,sl2,hclr,retU]
    exact ⟨hcd,by rw [hcd]⟩
  ·rw [if_neg he,hcl] at ht
   simp [q0,q3,hlt,r1,r0,hE,w0,w1,d1,d0,t1,t0,hp,hil2,he]
   refine ⟨by omega,by omega,?_⟩
   rw [ht,List.take_add_one (i:=i+1),List.getElem?_eq_getElem h];rfl
 ·have hlt:¬((i:Int)+1<l.length):=by omega
  have hc:compL l=l:=by rw [List.take_of_length_le (by omega)] at hcl;exact hcl
  simp [q0,q3,hlt]
  exact same hc
noncomputable def pCompact (base:Nat) (args:List AV) (H:Heap):Option (AV×Heap):=evalP Tryz.prog cfgK 134 base args H
theorem compact_eq {base:Nat} {H:Heap} {b g:Nat} {l:List DigV} (hb:base≤b) (hg:H[b]?=some (.rows 32 g (l.map DigV.cells))) (hl:l.length≤2^40) :
 pCompact base [.sl b g 32 0 l.length] H=some (.sl b g 32 0 (compL l).length,H.set b (.rows 32 g ((compL l).map DigV.cells++List.replicate (l.length-(compL l).length) (dig digest0)))):=evalP_eq (compact_func hb hg hl)
theorem compact_eq0 (base:Nat) (H:Heap):pCompact base [.lst [] true] H=some (.lst [] true,H):=by
 refine evalP_eq (func_rule Tryz.func134 rfl rfl (by simp) (by kernel_rfl) ?_)
 unfold Tryz.f134
 simp [argS]
theorem cfgK_sound {N:Low} (hT:TagOK Tryz.prog N):cfgK.Sound Tryz.prog N:={
 fits:=⟨fun t ks h=>by
  change (if t=25 then some (List.replicate 32 (LK.int .u8)) else none)=some ks at h
  split at h
  ·rename_i ht;subst ht;cases h;exact ⟨by kernel_rfl,by kernel_rfl,by kernel_rfl⟩
  ·cases h⟩
 mixed:=by kernel_rfl
 tag:=hT
 names:=names_ok
 prim _ _ h:=by cases h }
theorem compact_ok {N:Low} (hT:TagOK Tryz.prog N):PrimOK Tryz.prog N 134 pCompact :=
 evalP_ok (cfgK_sound hT) ⟨_,Tryz.func134,rfl⟩
end Go.Proofs.Ev
namespace Go.Proofs.Ev
open Go.Proofs
variable {C:Cfg} {σ:Sorts}
structure SettingS (C:Cfg) (σ:Sorts):Prop extends SettingR C σ where
 pureS:∀f,f∈[57,129,77,27,103,159,
  25,58,53,101,102,54,8,28]→C.pure f=true
 plainS:∀f,f∈[100]→C.pure f=false∧C.frz f=false
def idxQ {α:Type} (q:α→Bool):List α→Nat→Int
 | [],_=>-1
 | x::l,i=>if q x then (i:Int) else idxQ q l (i+1)
theorem idxQ_find {α:Type} (q:α→Bool):∀(l:List α) (i:Nat),(∀x,l.find? q=some x→∃j,idxQ q l i=((i+j:Nat):Int)∧l[j]?=some x)∧(l.find? q=none→idxQ q l i = -1)
 | [],i=>by simp [idxQ]
 | x::l,i=>by
  have ih:=idxQ_find q l (i+1)
  rw [idxQ,List.find?_cons]
  cases hq:q x with
  | true=>simp;exact ⟨0,by simp⟩
  | false =>
   simp only [Bool.false_eq_true,if_false]
   refine ⟨fun y hy=>?_,ih.2⟩
   obtain ⟨j,h1,h2⟩:=ih.1 y hy
   exact ⟨j+1,by rw [h1];omega,h2⟩
theorem idxQ_ge {α:Type} (q:α→Bool) (l:List α) (i:Nat):(0≤idxQ q l i)↔(l.find? q).isSome=true:=by
 cases h:l.find? q with
 | none=>rw [(idxQ_find q l i).2 h];simp
 | some x=>obtain ⟨j,h1,_⟩:=(idxQ_find q l i).1 x h;rw [h1];simp;omega
theorem indexS_eq (S:SettingS C σ) {base:Nat} {H:Heap} {k:SK} {l:List StoredV} {f:AV} {q:StoredV→Bool} (hl:l.length≤2^40) (hf:∀x∈l,∀(base:Nat) (K:AV→Heap→Prop),CallW Tryz.prog C base f [.agg x.cells] H K=K (.bool (q x)) H) (K:AV→Heap→Prop) :
 CallW Tryz.prog C base (.fn 57 []) [slAV k (l.map StoredV.cells),f] H K=K (.int .i64 (idxQ q l 0)) H:=by
 refine CallW.eq (pure_rule (S.pureS _ (by decide)) (func_rule Tryz.func57 rfl (S.prim _ (by decide)) (by simp) (by kernel_rfl) ?_)) K
 unfold Tryz.f57
 simp [argS]
 refine loop_count l.length (fun i s H'=>s 0=slAV k (l.map StoredV.cells)∧s 1=f∧s 7=.int .i64 l.length∧s 8=.int .i64 i∧H'=H∧idxQ q l 0=idxQ q (l.drop i) i) ?_ ?_
 ·exact ⟨rfl,rfl,rfl,rfl,rfl,rfl⟩
 rintro i s H' ⟨q0,q1,q7,q8,rfl,hc⟩ hi
 by_cases h:i<l.length
 ·rw [List.drop_eq_getElem_cons h,idxQ] at hc
  have ef:=hf l[i] (List.getElem_mem h) H'.length
  cases hq:q l[i] with
  | true =>
   rw [hq,if_pos rfl] at hc
   rw [hq] at ef
   simp [q0,q1,q7,q8,h,hc,ef]
  | false =>
   rw [hq,if_neg (by decide)] at hc
   rw [hq] at ef
   simp [q0,q1,q7,q8,h,hc,ef,wrap_succ h (by omega)]
 ·have h':i=l.length:=by omega
  subst h'
  rw [List.drop_length,idxQ] at hc
  simp [q0,q1,q7,q8,hc]
theorem indexD_eq (S:SettingS C σ) {base:Nat} {H:Heap} {k:SK} {l:List DigV} {f:AV} {q:DigV→Bool} (hl:l.length≤2^40) (hf:∀x∈l,∀(base:Nat) (K:AV→Heap→Prop),CallW Tryz.prog C base f [.agg x.cells] H K=K (.bool (q x)) H) (K:AV→Heap→Prop) :
 CallW Tryz.prog C base (.fn 129 []) [slAV k (l.map DigV.cells),f] H K=K (.int .i64 (idxQ q l 0)) H:=by
 refine CallW.eq (pure_rule (S.pureS _ (by decide)) (func_rule Tryz.func129 rfl (S.prim _ (by decide)) (by simp) (by kernel_rfl) ?_)) K
 unfold Tryz.f129
 simp [argS]
 refine loop_count l.length (fun i s H'=>s 0=slAV k (l.map DigV.cells)∧s 1=f∧s 7=.int .i64 l.length∧s 8=.int .i64 i∧H'=H∧idxQ q l 0=idxQ q (l.drop i) i) ?_ ?_
 ·exact ⟨rfl,rfl,rfl,rfl,rfl,rfl⟩
 rintro i s H' ⟨q0,q1,q7,q8,rfl,hc⟩ hi
 by_cases h:i<l.length
 ·rw [List.drop_eq_getElem_cons h,idxQ] at hc
  have ef:=hf l[i] (List.getElem_mem h) H'.length
  cases hq:q l[i] with
  | true =>
   rw [hq,if_pos rfl] at hc
   rw [hq] at ef
   simp [q0,q1,q7,q8,h,hc,ef]
  | false =>
   rw [hq,if_neg (by decide)] at hc
   rw [hq] at ef
   simp [q0,q1,q7,q8,h,hc,ef,wrap_succ h (by omega)]
 ·have h':i=l.length:=by omega
  subst h'
  rw [List.drop_length,idxQ] at hc
  simp [q0,q1,q7,q8,hc]
theorem indexA_eq (S:SettingS C σ) {base:Nat} {H:Heap} {k:SK} {l:List AtV} {f:AV} {q:AtV→Bool} (hl:l.length≤2^40) (hf:∀x∈l,∀(base:Nat) (K:AV→Heap→Prop),CallW Tryz.prog C base f [.agg x.cells] H K=K (.bool (q x)) H) (K:AV→Heap→Prop) :
 CallW Tryz.prog C base (.fn 27 []) [slAV k (l.map AtV.cells),f] H K=K (.int .i64 (idxQ q l 0)) H:=by
 refine CallW.eq (pure_rule (S.pureS _ (by decide)) (func_rule Tryz.func27 rfl (S.prim _ (by decide)) (by simp) (by kernel_rfl) ?_)) K
 unfold Tryz.f27
 simp [argS]
 refine loop_count l.length (fun i s H'=>s 0=slAV k (l.map AtV.cells)∧s 1=f∧s 7=.int .i64 l.length∧s 8=.int .i64 i∧H'=H∧idxQ q l 0=idxQ q (l.drop i) i) ?_ ?_
 ·exact ⟨rfl,rfl,rfl,rfl,rfl,rfl⟩
 rintro i s H' ⟨q0,q1,q7,q8,rfl,hc⟩ hi
 by_cases h:i<l.length
 ·rw [List.drop_eq_getElem_cons h,idxQ] at hc
  have ef:=hf l[i] (List.getElem_mem h) H'.length
  cases hq:q l[i] with
  | true =>
   rw [hq,if_pos rfl] at hc
   rw [hq] at ef
   simp [q0,q1,q7,q8,h,hc,ef]
  | false =>
   rw [hq,if_neg (by decide)] at hc
   rw [hq] at ef
   simp [q0,q1,q7,q8,h,hc,ef,wrap_succ h (by omega)]
 ·have h':i=l.length:=by omega
  subst h'
  rw [List.drop_length,idxQ] at hc
  simp [q0,q1,q7,q8,hc]
theorem blk_app {X:Heap} {b e g:Nat} {row:List AV} (hg:blkRow X b g e 0=some row) (L:Heap):blkRow (X++L) b g e 0=some row:=by
 have hb:b<X.length:=by
  rcases Nat.lt_or_ge b X.length with h | h
  ·exact h
  ·simp [blkRow,List.getElem?_eq_none h] at hg
 simp only [blkRow] at hg ⊢;rw [List.getElem?_append_left hb];exact hg
theorem get1_eq (S:SettingS C σ) {base b:Nat} {H:Heap} {d:DigV} (hg:blkRow H b 0 32 0=some d.cells) (x:StoredV) (K:AV→Heap→Prop) :
 CallW Tryz.prog C base (.fn 58 [.ptr b 0 32 0 0]) [.agg x.cells] H K=K (.bool (decide (x.id.d=d.d))) H:=by
 refine CallW.eq (pure_rule (S.pureS _ (by decide)) (func_rule Tryz.func58 rfl (S.prim _ (by decide)) (by simp) (by kernel_rfl) ?_)) K
 unfold Tryz.f58
 have e:=eq_digV S.toSetting
 simp [argS,blk_app hg,e]
theorem ret_GetP (S:SettingS C σ) (l:List StoredV) (k:SK) (d:DigV) (hl:l.length≤2^20):Ret Tryz.prog C 25 [] [slAV k (l.map StoredV.cells),.agg d.cells] (.tup [.agg (getP l d.d).cells,.bool (hasS l d.d)]):=by
 refine ret_pure (S.pureS _ (by decide)) fun H=>func_rule Tryz.func25 rfl (S.prim _ (by decide)) (by simp) (by kernel_rfl) ?_
 unfold Tryz.f25
 have e:=fun (K:AV→Heap→Prop)=>indexS_eq S (base:=H.length) (H:=H++[.rows 32 0 [d.cells],.rows 5 0 [zeroP.cells]]) (k:=k) (l:=l) (f:=.fn 58 [.ptr H.length 0 32 0 0]) (q:=fun x=>decide (x.id.d=d.d)) (by omega) (fun x _ base K=>get1_eq S (by simp) x K) K
 obtain ⟨i1,i2⟩:=idxQ_find (fun x:StoredV=>decide (x.id.d=d.d)) l 0
 unfold getP hasS
 cases hf:l.find? (fun x=>decide (x.id.d=d.d)) with
 | none =>
  have h0:=i2 hf
  rw [h0] at e
  simp [argS,e,storeA,fillA]
  exact freeze_two (freeze_closed (v:=.agg _) (PatchV.closed _)) (by simp)
 | some x =>
  obtain ⟨j,h1,h2⟩:=i1 x hf
  rw [h1] at e
  have hj:j<l.length:=(List.getElem?_eq_some_iff.1 h2).1
  have hjx:l[j]=x:=by rw [List.getElem?_eq_getElem hj] at h2;exact Option.some.inj h2
  simp only [Nat.zero_add] at e
  simp [argS,e,storeA,fillA,hj,hjx,show ¬(j:Int)<0 by omega]
  exact freeze_two (freeze_closed (v:=.agg _) (PatchV.closed _)) (by simp)
end Go.Proofs.Ev
namespace Go.Proofs.Ev
open Go.Proofs
variable {C:Cfg} {σ:Sorts}
theorem keyOk_D (S:Setting C) (d:DigV):keyOk Tryz.prog C 25 (.agg d.cells)=true:=by
 have h1:=conf_dig d.d;rw [d.h] at h1
 have hd:d.cells=dig d.d:=rfl
 simp only [keyOk,un25,S.kDig,hd]
 exact h1
theorem keyEq_D (S:Setting C) (a b:DigV):keyEqA Tryz.prog C 25 (.agg a.cells) (.agg b.cells)=some (decide (a.d=b.d)):=by
 have h1:=conf_dig a.d;rw [a.h] at h1
 have h2:=conf_dig b.d;rw [b.h] at h2
 have ha:a.cells=dig a.d:=rfl
 have hb:b.cells=dig b.d:=rfl
 simp only [keyEqA,eqA,S.kDig,ha,hb,h1,h2,Bool.and_self,if_true,cellsEq_dig a.d b.d (by rw [a.h,b.h])]
def entD (l:List (DigV×AV)):List (AV×AV):=l.map fun x=>(.agg x.1.cells,x.2)
def posE (l:List (DigV×AV)) (d:List Nat):Option (Nat×AV) :=
 match l with
 | []=>none
 | x::l=>if x.1.d=d then some (0,x.2) else (posE l d).map fun p=>(p.1+1,p.2)
theorem find_D (S:Setting C) (d:DigV):∀(l:List (DigV×AV)) (i:Nat),findA Tryz.prog C 25 (.agg d.cells) (entD l) i=some ((posE l d.d).map fun p=>(p.1+i,p.2))
 | [],i=>rfl
 | x::l,i=>by
  have ih:=find_D S d l (i+1)
  rw [entD,List.map_cons,findA,keyEq_D S,posE]
  by_cases h:x.1.d=d.d
  ·rw [if_pos h,show decide (d.d=x.1.d)=true by simp [h]];simp
  ·rw [if_neg h,show decide (d.d=x.1.d)=false by simp [Ne.symm h]]
   show findA Tryz.prog C 25 (.agg d.cells) (entD l) (i+1)=_
   rw [ih]
   cases posE l d.d with
   | none=>rfl
   | some p=>simp;omega
def doneE (out:List DigV):List (DigV×AV):=out.map fun d=>(d,.bool true)
theorem pos_done:∀(out:List DigV) (d:List Nat),(posE (doneE out) d).isSome=hasD out d∧∀p,posE (doneE out) d=some p→p.2=.bool true
 | [],d=>by simp [doneE,posE,hasD]
 | x::l,d=>by
  have ih:=pos_done l d
  have hc:posE (doneE (x::l)) d=if x.d=d then some (0,.bool true) else (posE (doneE l) d).map fun p=>(p.1+1,p.2):=rfl
  rw [hc]
  by_cases h:x.d=d
  ·rw [if_pos h]
   exact ⟨by simp [hasD,h],fun p hp=>by cases hp;rfl⟩
  ·rw [if_neg h]
   refine ⟨?_,fun p hp=>?_⟩
   ·rw [Option.isSome_map,ih.1];simp [hasD,h]
   ·cases hq:posE (doneE l) d with
    | none=>rw [hq] at hp;cases hp
    | some q=>rw [hq] at hp;cases hp;exact ih.2 q hq
theorem look_done (S:Setting C) {X:Heap} {m:Nat} {out:List DigV} (hm:X[m]?=some (.map (entD (doneE out)))) (d:DigV):lookupA Tryz.prog C X 198 (.map m) (.agg d.cells) false=some (.bool (hasD out d.d)):=by
 have hf:=find_D S d (doneE out) 0
 obtain ⟨h1,h2⟩:=pos_done out d.d
 simp only [lookupA,un198,keyOk_D S,entsA,hm,hf,if_true]
 cases hp:posE (doneE out) d.d with
 | none=>rw [hp] at h1;simp at h1;simp [←h1]
 | some p=>rw [hp] at h1;simp at h1;simp [h2 p hp,←h1]
theorem upd_done (S:Setting C) {base:Nat} {X:Heap} {m:Nat} {out:List DigV} (hb:base≤m) (hm:X[m]?=some (.map (entD (doneE out)))) (d:DigV) (hd:hasD out d.d=false) :
 updateA Tryz.prog C base X 198 (.map m) (.agg d.cells) (.bool true)=some (X.set m (.map (entD (doneE (out++[d]))))):=by
 have hf:=find_D S d (doneE out) 0
 obtain ⟨h1,h2⟩:=pos_done out d.d
 simp only [updateA,un198,keyOk_D S,hm,hf,hb,and_self,if_true]
 cases hp:posE (doneE out) d.d with
 | none=>simp [entD,doneE]
 | some p=>rw [hp,hd] at h1;simp at h1
def graphE (σ:Sorts) (s:List StoredV):List (DigV×AV):=s.map fun x=>(x.id,slAV (if needL x.patch=[] then .exact else .loose) ((needsP σ x.patch).map DigV.cells))
def SetGood (s:List StoredV):Prop:=(∀x∈s,x.patch.Good)∧s.Pairwise (fun x y=>x.id.d≠y.id.d)∧s.length≤2^20
theorem pos_graph {s:List StoredV} (hu:s.Pairwise (fun x y=>x.id.d≠y.id.d)) {x:StoredV} (hx:x∈s):∃j,posE (graphE σ s) x.id.d=some (j,slAV (if needL x.patch=[] then .exact else .loose) ((needsP σ x.patch).map DigV.cells)):=by
 induction s with
 | nil=>cases hx
 | cons y l ih =>
  rw [List.pairwise_cons] at hu
  show ∃j,posE ((y.id,_)::graphE σ l) x.id.d=_
  rw [posE]
  rcases List.mem_cons.1 hx with rfl | hx
  ·exact ⟨0,by rw [if_pos rfl]⟩
  ·obtain ⟨j,hj⟩:=ih hu.2 hx
   exact ⟨j+1,by rw [if_neg (hu.1 x hx),hj];rfl⟩
theorem pos_graph_none {s:List StoredV} {d:List Nat} (h:∀x∈s,x.id.d≠d):posE (graphE σ s) d=none:=by
 induction s with
 | nil=>rfl
 | cons y l ih =>
  show posE ((y.id,_)::graphE σ l) d=_
  rw [posE,if_neg (h y (by simp)),ih fun x hx=>h x (by simp [hx])];rfl
end Go.Proofs.Ev
namespace Go.Proofs.Ev
open Go.Proofs
variable {C:Cfg} {σ:Sorts}
theorem upd_graph (S:Setting C) {base:Nat} {X:Heap} {m:Nat} {l:List (DigV×AV)} (hb:base≤m) (hm:X[m]?=some (.map (entD l))) (d:DigV) (v:AV) (hd:posE l d.d=none) :
 updateA Tryz.prog C base X 196 (.map m) (.agg d.cells) v=some (X.set m (.map (entD (l++[(d,v)])))):=by
 have hf:=find_D S d l 0
 rw [hd] at hf
 simp only [updateA,un196,keyOk_D S,hm,hf,hb,and_self,if_true]
 simp [entD]
theorem look_graph (S:Setting C) {X:Heap} {m:Nat} {l:List (DigV×AV)} (hm:X[m]?=some (.map (entD l))) (d:DigV) {j:Nat} {v:AV} (hd:posE l d.d=some (j,v)):lookupA Tryz.prog C X 196 (.map m) (.agg d.cells) false=some v:=by
 have hf:=find_D S d l 0
 rw [hd] at hf
 simp only [lookupA,un196,keyOk_D S,entsA,hm,hf,if_true]
 simp
set_option maxHeartbeats 2000000 in
theorem graph_ex (S:SettingS C σ) (l:List StoredV) (k:SK) (hl:SetGood l) {base:Nat} {H:Heap} (hb:base≤H.length) :
 ∃J,∀K:AV→Heap→Prop,CallW Tryz.prog C base (.fn 100 []) [slAV k (l.map StoredV.cells)] H K=K (.map H.length) (H++.map (entD (graphE σ l))::J):=by
 obtain ⟨hl1,hl2,hl3⟩:=hl
 suffices h:CallW Tryz.prog C base (.fn 100 []) [slAV k (l.map StoredV.cells)] H (fun v' H'=>∃J,v'=.map H.length∧H'=H++.map (entD (graphE σ l))::J) by
  obtain ⟨n,v1,H1,h1,J,rfl,rfl⟩:=h
  exact ⟨J,fun K=>CallW.eq ⟨n,_,_,h1,rfl,rfl⟩ K⟩
 refine call_rule (S.plainS _ (by decide)).1 (S.plainS _ (by decide)).2 (func_rule Tryz.func100 rfl (S.prim _ (by decide)) (by simp) (by kernel_rfl) ?_)
 unfold Tryz.f100
 simp [argS]
 refine loop_count l.length (fun i s H'=>s 3=.map H.length∧s 7=slAV k (l.map StoredV.cells)∧s 8=.int .i64 l.length∧s 9=.int .i64 i∧∃J,H'=H++.map (entD (graphE σ (l.take i)))::J) ?_ ?_
 ·exact ⟨rfl,rfl,rfl,rfl,[],rfl⟩
 rintro i s H' ⟨q3,q7,q8,q9,J,rfl⟩ hi
 by_cases h:i<l.length
 ·have hm:=List.getElem_mem h
  have en:=(ret_Needs S.toSettingR l[i].patch (hl1 _ hm)).eq
  have hp:posE (graphE σ (l.take i)) l[i].id.d=none:=pos_graph_none fun x hx=>by
   obtain ⟨j,hj,rfl⟩:=List.getElem_of_mem hx
   have hjl:j<i:=by simp at hj;omega
   rw [List.getElem_take]
   exact List.pairwise_iff_getElem.1 hl2 j i (by omega) h hjl
  have hg:graphE σ (l.take (i+1))=graphE σ (l.take i)++[(l[i].id,slAV (if needL l[i].patch=[] then .exact else .loose) ((needsP σ l[i].patch).map DigV.cells))]:=by
   unfold graphE;rw [List.take_add_one,List.getElem?_eq_getElem h,List.map_append];rfl
  have eu:=upd_graph S.toSetting (base:=base) (X:=H++.map (entD (graphE σ (l.take i)))::(J++[.rows 37 0 [l[i].cells]])) (m:=H.length) hb (by simp) l[i].id (slAV (if needL l[i].patch=[] then .exact else .loose) ((needsP σ l[i].patch).map DigV.cells)) hp
  rw [←hg] at eu
  obtain ⟨v,hv⟩:∃v,v=slAV (if needL l[i].patch=[] then .exact else .loose) ((needsP σ l[i].patch).map DigV.cells):=⟨_,rfl⟩
  rw [←hv] at en eu
  have hd0:digest0.length=32:=by decide
  have hdr:List.drop 37 (dig digest0++zeroP.cells)=[]:=by decide
  have hb2:base≤H.length+(J.length+1):=by omega
  simp [q3,q7,q8,q9,h,storeA,fillA,en,eu,hd0,hdr,hb2]
  rw [kOpsU_turn (h:=by kernel_rfl)]
  simp [q3,q7,q8,q9,wrap_succ h (by omega)]
  exact h
 ·have h':i=l.length:=by omega
  subst h'
  rw [List.take_length]
  simp [q3,q7,q8,q9]
def GrowS (start sz:Nat) (X:Heap) (v:AV) (rows:List (List AV)):Prop:=start≤X.length∧GrowX start sz (X.drop start) v rows
theorem GrowS.append {P:Program} {base:Nat} {ts:Array TypeId} {e:TypeId} {xd:TypeDesc} {sz by_ start:Nat} (h0:(ts[0]?).bind P.underlying=some (.slice e)) (h1:(ts[1]?).bind P.underlying=some xd) (hs:szOf P e=some sz) (hb:bytesOf P e=some by_)
 (hz:(ofZero P e).map (fun z=>z.cells.length)=some sz) (hp:0<sz) {X:Heap} (hY:base≤start) {v x:AV} {rows ys:List (List AV)} (hg:GrowS start sz X v rows) (hr:∀r∈rows,r.length=sz)
 (hx:tailRows X xd x=some ys) (hy:∀r∈ys,r.length=sz) (hbound:(rows.length+ys.length)*(by_+1)≤2^45) :
 ∃v' X',appendA P base X ts v.denil x=some (v',X')∧GrowS start sz X' v' (rows++ys)∧Stays sz X X'∧(ys≠[]→∃b g l,v'=.sl b g sz 0 l):=by
 obtain ⟨hst,hg⟩:=hg
 have hl:(X.take start).length=start:=by simp;omega
 have hX:X.take start++X.drop start=X:=List.take_append_drop start X
 obtain ⟨v',J',a1,a2,a3⟩:=GrowX.appendP (P:=P) (base:=base) (Z:=X.take start) (J:=X.drop start) h0 h1 hs hb hz hp hl.symm (by omega) hg hr (by rw [hX];exact hx) hy hbound
 rw [hX] at a1
 refine ⟨v',X.take start++J',a1,⟨by simp;omega,?_⟩,?_,fun hne=>appendA_sl h0 h1 hs hb hx hne a1⟩
 ·rw [List.drop_append_of_le_length (by omega),List.drop_of_length_le (by omega)];exact a2
 ·have:=a3.head (Z:=X.take start)
  rw [hX] at this
  exact this
theorem GrowS.setL {start sz j:Nat} {X:Heap} {v:AV} {rows:List (List AV)} {blk x:Blk} (hg:GrowS start sz X v rows) (hj:X[j]?=some blk) (hb:∀g rs,blk≠.rows sz g rs):GrowS start sz (X.set j x) v rows:=by
 refine ⟨by simpa using hg.1,?_⟩
 rcases Nat.lt_or_ge j start with h | h
 ·rw [List.drop_set_of_lt h];exact hg.2
 ·rw [List.drop_set,if_neg (by omega)]
  refine hg.2.setL (blk:=blk) ?_ hb
  rw [List.getElem?_drop];rw [show start+(j-start)=j by omega];exact hj
theorem order11_eq (S:SettingS C σ) {base b m:Nat} {X:Heap} {out:List DigV} (hb:blkRow X b 0 1 0=some [.map m]) (hm:X[m]?=some (.map (entD (doneE out)))) (d:DigV) (K:AV→Heap→Prop) :
 CallW Tryz.prog C base (.fn 102 [.ptr b 0 1 0 0]) [.agg d.cells] X K=K (.bool (!hasD out d.d)) X:=by
 have hmX:m<X.length:=(List.getElem?_eq_some_iff.1 hm).1
 have hlk:=fun L=>look_done S.toSetting (X:=X++L) (m:=m) (out:=out) (by rw [List.getElem?_append_left hmX];exact hm) d
 refine CallW.eq (pure_rule (S.pureS _ (by decide)) (func_rule Tryz.func102 rfl (S.prim _ (by decide)) (by simp) (by kernel_rfl) ?_)) K
 unfold Tryz.f102
 simp [argS,blk_app hb,hlk]
theorem containsD_eq (S:SettingS C σ) {base:Nat} {H:Heap} {k:SK} {l:List DigV} {f:AV} {q:DigV→Bool} (hl:l.length≤2^40) (hf:∀x∈l,∀(base:Nat) (K:AV→Heap→Prop),CallW Tryz.prog C base f [.agg x.cells] H K=K (.bool (q x)) H) (K:AV→Heap→Prop) :
 CallW Tryz.prog C base (.fn 77 []) [slAV k (l.map DigV.cells),f] H K=K (.bool (l.any q)) H:=by
 refine CallW.eq (pure_rule (S.pureS _ (by decide)) (func_rule Tryz.func77 rfl (S.prim _ (by decide)) (by simp) (by kernel_rfl) ?_)) K
 unfold Tryz.f77
 have e:=fun K=>indexD_eq S (base:=H.length) (H:=H) (k:=k) hl hf K
 have hi:=idxQ_ge q l 0
 have ha:l.any q=(l.find? q).isSome:=by rw [Bool.eq_iff_iff,List.any_eq_true,List.find?_isSome]
 simp [argS,e]
 rw [ha,Bool.eq_iff_iff,decide_eq_true_eq,hi]
end Go.Proofs.Ev
