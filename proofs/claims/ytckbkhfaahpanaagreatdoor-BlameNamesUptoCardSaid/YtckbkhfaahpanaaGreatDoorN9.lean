/- Part 9 of the proof that quiltlaw38.BlameNames returns true: no statement of its own. -/
import Derived.Test.YtckbkhfaahpanaaGreatDoorN7
import Derived.Test.YtckbkhfaahpanaaGreatDoorN8
set_option linter.all false
namespace Go.Proofs.Ev
variable {P:Program} {base:Nat}
def gen:Nat→Nat
 | 0=>0
 | n+1=>4*gen n+4
def outT (sz:Nat) (rows:List (List AV)):Heap:=if rows=[] then [] else [.rows sz (gen (rows.length-1)) rows]
def outAV (b sz:Nat) (rows:List (List AV)):AV:=if rows=[] then .lst [] true else .sl b (gen (rows.length-1)) sz 0 rows.length
@[simp] theorem outT_nil (sz:Nat):outT sz []=[]:=rfl
@[simp] theorem outAV_nil (b sz:Nat):outAV b sz []=.lst [] true:=rfl
@[simp] theorem outAV_denil (b sz:Nat) (rows:List (List AV)):(outAV b sz rows).denil=outAV b sz rows:=by unfold outAV;split<;>rfl
theorem app_out {ts:Array TypeId} {e e' sz by_:Nat} (h0:(ts[0]?).bind P.underlying=some (.slice e)) (h1:(ts[1]?).bind P.underlying=some (.slice e')) (hs:szOf P e=some sz) (hb:bytesOf P e=some by_)
 (hz:(ofZero P e).map (fun z=>z.cells.length)=some sz) (hp:0<sz) {Y:Heap} (hY:base≤Y.length) {rows:List (List AV)} {r:List AV} {x:Bool} (hr:r.length=sz) (hbound:(rows.length+1)*(by_+1)≤2^45) (hs1:sz≠1:=by decide) :
 appendA P base (Y++outT sz rows) ts (outAV Y.length sz rows) (.lst [r] x)=some (outAV Y.length sz (rows++[r]),Y++outT sz (rows++[r])):=by
 have hc:(([r]:List (List AV)).all fun r=>decide (r.length=sz))=true:=by simp [hr]
 have hk:clsG P e sz=0:=by simp [clsG,hs1]
 have hk2:∀g,nextG P e sz g=4*g+4:=fun g=>by simp [nextG,hk]
 unfold appendA
 simp only [h0,h1,hs,hb,tailRows,rowsOf,hc,hp,hz,hk,hk2,and_self,if_true]
 cases rows with
 | nil =>
  simp only [outAV,outT,if_true,List.append_nil,List.nil_append,List.isEmpty_cons,Bool.false_eq_true,if_false,List.length_nil,List.length_cons,Nat.zero_add,List.all_nil,List.cons_ne_nil,reduceCtorEq]
  rw [if_pos ⟨trivial,by simpa using hbound,trivial⟩]
  rfl
 | cons a l =>
  have hne:(a::l)++[r]≠[]:=by simp
  simp only [outAV,outT,if_neg hne,if_neg (List.cons_ne_nil a l)]
  have hg:(Y++[Blk.rows sz (gen ((a::l).length-1)) (a::l)])[Y.length]?=some (.rows sz (gen ((a::l).length-1)) (a::l)):=by simp
  simp only [hg]
  rw [if_pos ⟨hY,trivial,trivial,trivial,trivial,by simpa using hbound⟩]
  simp [gen,hk2]
theorem app_first {ts:Array TypeId} {e e' sz by_:Nat} (h0:(ts[0]?).bind P.underlying=some (.slice e)) (h1:(ts[1]?).bind P.underlying=some (.slice e')) (hs:szOf P e=some sz) (hb:bytesOf P e=some by_)
 (hz:(ofZero P e).map (fun z=>z.cells.length)=some sz) (hp:0<sz) (H:Heap) {r:List AV} {x:Bool} (hr:r.length=sz) (hbound:by_+1≤2^45) (hs1:sz≠1:=by decide) :
 appendA P base H ts (.lst [] true) (.lst [r] x)=some (.sl H.length 0 sz 0 1,H++[.rows sz 0 [r]]):=by
 have hc:(([r]:List (List AV)).all fun r=>decide (r.length=sz))=true:=by simp [hr]
 have hk:clsG P e sz=0:=by simp [clsG,hs1]
 have hk2:∀g,nextG P e sz g=4*g+4:=fun g=>by simp [nextG,hk]
 unfold appendA
 simp only [h0,h1,hs,hb,tailRows,rowsOf,hc,hp,hz,hk,hk2,and_self,if_true]
 simp only [List.isEmpty_cons,Bool.false_eq_true,if_false,List.length_nil,List.length_cons,Nat.zero_add,List.all_nil,List.nil_append]
 rw [if_pos ⟨trivial,by simpa using hbound,trivial⟩]
theorem app_more {ts:Array TypeId} {e e' sz by_:Nat} (h0:(ts[0]?).bind P.underlying=some (.slice e)) (h1:(ts[1]?).bind P.underlying=some (.slice e')) (hs:szOf P e=some sz) (hb:bytesOf P e=some by_)
 (hz:(ofZero P e).map (fun z=>z.cells.length)=some sz) (hp:0<sz) {H:Heap} {b g:Nat} {rs:List (List AV)} (hg:H[b]?=some (.rows sz g rs)) (hbase:base≤b) {r:List AV} {x:Bool} (hr:r.length=sz)
 (hbound:(rs.length+1)*(by_+1)≤2^45) (hs1:sz≠1:=by decide) :
 appendA P base H ts (.sl b g sz 0 rs.length) (.lst [r] x)=some (.sl b (4*g+4) sz 0 (rs.length+1),H.set b (.rows sz (4*g+4) (rs++[r]))):=by
 have hc:(([r]:List (List AV)).all fun r=>decide (r.length=sz))=true:=by simp [hr]
 have hk:clsG P e sz=0:=by simp [clsG,hs1]
 have hk2:∀g,nextG P e sz g=4*g+4:=fun g=>by simp [nextG,hk]
 unfold appendA
 simp only [h0,h1,hs,hb,tailRows,rowsOf,hc,hp,hz,hk2,and_self,if_true,hg]
 rw [if_pos ⟨hbase,trivial,trivial,trivial,trivial,by simpa using hbound⟩]
 rfl
theorem freeze_sl {H:Heap} {k d b g sz:Nat} {rs:List (List AV)} (hg:H[b]?=some (.rows sz g rs)) (hk:k≤b) (hc:AV.closedss rs=true):freezeA H k (d+1) (.sl b g sz 0 rs.length)=some (.lst rs false):=by
 simp [freezeA,AV.closed,hk,rowsOf,hg,hc]
def Grow (n sz:Nat) (J:Heap) (v:AV) (rows:List (List AV)):Prop:=(rows=[]∧(v=.nils∨v=.lst [] true))∨∃b g,v=.sl (n+b) g sz 0 rows.length∧J[b]?=some (.rows sz g rows)
theorem Grow.lst {n sz:Nat} {J:Heap}:Grow n sz J (.lst [] true) []:=.inl ⟨rfl,.inr rfl⟩
theorem Grow.len {t e:TypeId} (h:P.underlying t=some (.slice e)) {n sz:Nat} {J H:Heap} {v:AV} {rows:List (List AV)} (hg:Grow n sz J v rows):lenA P H t v.denil=some (.int .i64 rows.length):=by
 rcases hg with ⟨rfl,rfl | rfl⟩ | ⟨b,g,rfl,_⟩
 ·exact len_lst h H [] true
 ·exact len_lst h H [] true
 ·exact len_sl h H _ _ _ _ _
def growK (v:AV):SK:=match v with | .nils=>.nil | .lst _ _=>.exact | _=>.loose
theorem Grow.freeze {n sz k d:Nat} {Z J:Heap} {v:AV} {rows:List (List AV)} (hn:n=Z.length) (hk:k≤n) (hg:Grow n sz J v rows) (hc:AV.closedss rows=true):freezeA (Z++J) k (d+1) v=some (slAV (growK v) rows):=by
 subst hn
 rcases hg with ⟨rfl,rfl | rfl⟩ | ⟨b,g,rfl,hb⟩
 ·rfl
 ·rfl
 ·rw [freeze_sl (rs:=rows) (by rw [app_get];exact hb) (by omega) hc]
  cases rows<;>rfl
theorem slAV_tail {H:Heap} {e:TypeId} (k:SK) (ys:List (List AV)):tailRows H (.slice e) (slAV k ys).denil=some ys:=by
 obtain ⟨x,hx⟩:=slAV_denil k ys
 rw [hx];rfl
theorem Grow.append {ts:Array TypeId} {e e' sz by_:Nat} (h0:(ts[0]?).bind P.underlying=some (.slice e)) (h1:(ts[1]?).bind P.underlying=some (.slice e')) (hs:szOf P e=some sz) (hb:bytesOf P e=some by_)
 (hz:(ofZero P e).map (fun z=>z.cells.length)=some sz) (hp:0<sz) {Z J:Heap} (hY:base≤Z.length) {v x:AV} {rows ys:List (List AV)} (hg:Grow Z.length sz J v rows)
 (hx:tailRows (Z++J) (.slice e') x=some ys) (hy:∀r∈ys,r.length=sz) (hbound:(rows.length+ys.length)*(by_+1)≤2^45) :
 ∃v' J',appendA P base (Z++J) ts v.denil x=some (v',Z++J')∧Grow Z.length sz J' v' (rows++ys)∧(∀b blk,J[b]?=some blk→v≠.sl (Z.length+b) (match blk with | .rows _ g _=>g | _=>0) sz 0 rows.length→J'[b]?=some blk):=by
 have hc:(ys.all fun r=>decide (r.length=sz))=true:=by simpa using hy
 unfold appendA
 simp only [h0,h1,hs,hb,hx,hc,hp,hz,and_self,if_true]
 rcases hg with ⟨rfl,hv⟩ | ⟨b,g,rfl,hb⟩
 ·have hd:v.denil=.lst [] true:=by rcases hv with rfl | rfl<;>rfl
  rw [hd]
  simp only
  by_cases he:ys=[]
  ·subst he
   exact ⟨.lst [] true,J,by simp,.lst,fun b blk h _=>h⟩
  ·rw [if_neg (by simpa using he),if_pos ⟨trivial,by simpa using hbound,rfl⟩]
   exact ⟨_,J++[.rows sz (clsG P e sz) ys],by simp;rfl,.inr ⟨J.length,clsG P e sz,by simp,by simp⟩,fun b blk h _=>by
    rw [List.getElem?_append_left (List.getElem?_eq_some_iff.1 h).1];exact h⟩
 ·have hlt:b<J.length:=(List.getElem?_eq_some_iff.1 hb).1
  have hg:(Z++J)[Z.length+b]?=some (.rows sz g rows):=by rw [app_get];exact hb
  simp only [AV.denil,hg]
  rw [if_pos ⟨by omega,trivial,trivial,trivial,trivial,hbound⟩]
  refine ⟨_,J.set b (.rows sz (nextG P e sz g) (rows++ys)),by rw [app_set],.inr ⟨b,nextG P e sz g,by simp,by simp [hlt]⟩,fun b' blk h hne=>?_⟩
  rw [List.getElem?_set_ne]
  ·exact h
  ·rintro rfl
   rw [hb] at h;cases h
   exact hne rfl
end Go.Proofs.Ev
namespace Go.Proofs.Ev
open Go.Proofs
variable {C:Cfg}
structure Setting3 (C:Cfg):Prop extends Setting2 C where
 pure3:∀f,f∈[264,171,170,114]→C.pure f=true
def ownId (n:Int):IdV:={ zeroId with n:=n }
def lineAt (c:ChV) (first:Nat) (i:Nat):AtV:={ zeroAt with id:=ownId (first+i:Nat),kind:=5,file:=c.file,text:=c.lines.getD i [] }
def edgeAt (c:ChV) (first:Nat) (i:Nat):AtV :=
 {zeroAt with id:=ownId (first+c.lines.length+i:Nat),kind:=6,file:=c.file,frm:=if 0<i then ownId (first+i-1:Nat) else c.after,to:=if i<c.lines.length then ownId (first+i:Nat) else c.before }
def madeV (c:ChV) (first:Nat):List AtV :=
 if c.kind=1 then [{ zeroAt with id:=ownId first,kind:=1,file:=ownId first,type:=c.type }]
 else if c.kind=2 then [{ zeroAt with id:=ownId first,kind:=2,file:=c.file,parent:=c.parent,name:=c.name,over:=c.over,overK:=c.overK }]
 else if c.kind=3 then [{ zeroAt with id:=ownId first,kind:=3,file:=c.file,mode:=c.mode,over:=c.over,overK:=c.overK }]
 else if c.kind=4 then [{ zeroAt with id:=ownId first,kind:=4,file:=c.file,data:=c.data,over:=c.over,overK:=c.overK }]
 else if c.kind=6 then [{ zeroAt with id:=ownId first,kind:=6,file:=c.file,frm:=c.after,to:=c.before,over:=c.over,overK:=c.overK }]
 else if c.kind=7 then [{ zeroAt with id:=ownId first,kind:=7,over:=c.over,overK:=c.overK }]
 else (List.range c.lines.length).map (lineAt c first)++(List.range (c.lines.length+1)).map (edgeAt c first)
def madeK (c:ChV):SK:=if c.kind=1∨c.kind=2∨c.kind=3∨c.kind=4∨c.kind=6∨c.kind=7 then .exact else .loose
def madeRows (c:ChV) (first i:Nat):List (List AV):=((List.range c.lines.length).map (lineAt c first)++(List.range i).map (edgeAt c first)).map AtV.cells
def OutIs (n:Nat) (J:Heap) (v:AV) (rows:List (List AV)):Prop:=(rows=[]∧v=.lst [] true)∨∃b g,v=.sl (n+(b+2)) g 172 0 rows.length∧J[b]?=some (.rows 172 g rows)
theorem outIs_of {n:Nat} {rows rows':List (List AV)} (h:rows=rows'):OutIs n (outT 172 rows) (outAV (n+2) 172 rows) rows':=by
 subst h
 unfold OutIs outT outAV
 cases rows with
 | nil=>left;simp
 | cons a l=>right;exact ⟨0,_,by simp;rfl,by simp⟩
theorem outIs_first {n:Nat} {J:Heap} {X:Blk} {r:List AV} {rows':List (List AV)} (hr:rows'=[r]):OutIs n (J++[X,.rows 172 0 [r]]) (.sl (n+(J.length+1+1+1)) 0 172 0 1) rows':=by
 subst hr
 exact .inr ⟨J.length+1,0,rfl,by simp⟩
theorem outIs_more {n b g:Nat} {J:Heap} {X:Blk} {r:List AV} {rs rows':List (List AV)} (hb:J[b]?=some (.rows 172 g rs)) (hr:rows'=rs++[r]) :
 OutIs n (J.set b (.rows 172 (4*g+4) (rs++[r]))++[X]) (.sl (n+(b+2)) (4*g+4) 172 0 (rs.length+1)) rows':=by
 subst hr
 have hlt:b<J.length:=(List.getElem?_eq_some_iff.1 hb).1
 exact .inr ⟨b,4*g+4,by simp,by rw [List.getElem?_append_left (by simpa using hlt)];simp [hlt]⟩
theorem madeRows_succ (c:ChV) (first i:Nat):madeRows c first (i+1)=madeRows c first i++[(edgeAt c first i).cells]:=by simp [madeRows,List.range_succ]
set_option maxRecDepth 100000 in
set_option maxHeartbeats 2000000 in
theorem ret_made (S:Setting3 C) (c:ChV) (first:Nat) (hf:first≤2^40) (hl:c.lines.length≤2^20):Ret Tryz.prog C 264 [] [.agg c.cells,.int .i64 first] (slAV (madeK c) ((madeV c first).map AtV.cells)):=by
 refine ret_pure (S.pure3 _ (by decide)) fun H=>func_rule Tryz.func264 rfl (S.prim _ (by decide)) (by simp) (by kernel_rfl) ?_
 unfold Tryz.f264
 by_cases k1:c.kind=1
 ·simp [argS,storeA,fillA,k1,buildSliceA,fillRows]
  simp [freeze_closed,AV.closed,AV.closedss,madeV,madeK,k1,slAV,ownId]
 by_cases k2:c.kind=2
 ·simp [argS,storeA,fillA,k2,buildSliceA,fillRows]
  simp [freeze_closed,AV.closed,AV.closedss,madeV,madeK,k2,slAV,ownId]
 by_cases k3:c.kind=3
 ·simp [argS,storeA,fillA,k3,buildSliceA,fillRows]
  simp [freeze_closed,AV.closed,AV.closedss,madeV,madeK,k3,slAV,ownId]
 by_cases k4:c.kind=4
 ·simp [argS,storeA,fillA,k4,buildSliceA,fillRows]
  simp [freeze_closed,AV.closed,AV.closedss,madeV,madeK,k4,slAV,ownId]
 by_cases k6:c.kind=6
 ·simp [argS,storeA,fillA,k6,buildSliceA,fillRows]
  simp [freeze_closed,AV.closed,AV.closedss,madeV,madeK,k6,slAV,ownId]
 by_cases k7:c.kind=7
 ·simp [argS,storeA,fillA,k7,buildSliceA,fillRows]
  simp [freeze_closed,AV.closed,AV.closedss,madeV,madeK,k7,slAV,ownId]
 simp [argS,storeA,fillA,k1,k2,k3,k4,k6,k7,buildSliceA,fillRows]
 have ap:=fun (X Y:Blk) (rows:List (List AV)) (r:List AV) (hr:r.length=172) (hb:rows.length≤2^30)=>app_out (P:=Tryz.prog) (e:=36) (e':=36) (base:=H.length) (ts:=#[83,83]) (Y:=H++[X,Y]) (rows:=rows) (r:=r) (x:=true) (by simp) (by simp) sz36 by36 (by simp) (by decide) (by simp) hr (by omega)
 simp at ap
 refine loopC_rule (fun s H'=>s 1=.int .i64 first∧s 2=.ptr H.length 0 139 0 0∧s 7=.int .i64 c.lines.length∧∃i:Nat,s 8=.int .i64 i∧i≤c.lines.length∧
  s 6=outAV (H.length+2) 172 (((List.range i).map (lineAt c first)).map AtV.cells)∧H'=H++.rows 139 0 [c.cells]::.rows 33 0 [(ownId first).cells]::outT 172 (((List.range i).map (lineAt c first)).map AtV.cells))
  (fun s _=>c.lines.length-(match s 8 with | .int _ k=>k.toNat | _=>0)) ?_ ?_
 ·exact ⟨rfl,rfl,rfl,0,rfl,by omega,rfl,by simp [ownId]⟩
 rintro s H' ⟨h1,h2,h7,i,h8,hi,h6,rfl⟩
 simp [h1,h2,h7,h8,h6]
 refine ⟨fun h=>?_,fun h=>?_⟩
 ·have w1:IntKind.i64.wrap ((first:Int)+i)=((first+i:Nat):Int):=by rw [wrap_in (by omega) (by omega)];omega
  simp [h,h1,h2,h6,h7,h8,w1,strC,fillA,buildSliceA,fillRows,wrap_succ h (by omega)]
  rw [ap _ _ _ _ (by simp) (by simp;omega),getW_some,kOpsU_turn (h:=by kernel_rfl)]
  simp [h,h1,h2,h7,h8,wrap_succ h (by omega)]
  refine ⟨⟨i+1,by simp,by omega,?_,?_⟩,sub_lt h⟩
  ·simp [List.range_succ,lineAt,ownId,h]
  ·simp [List.range_succ,lineAt,ownId,h]
 ·have h:i=c.lines.length:=by omega
  subst h
  refine loopC_rule (fun s H'=>s 1=.int .i64 first∧s 2=.ptr H.length 0 139 0 0∧s 7=.int .i64 c.lines.length∧∃i:Nat,s 9=.int .i64 i∧i≤c.lines.length+1∧∃J:Heap,H'=H++.rows 139 0 [c.cells]::.rows 33 0 [(ownId first).cells]::J∧
   OutIs H.length J (s 6) (madeRows c first i)) (fun s _=>c.lines.length+1-(match s 9 with | .int _ k=>k.toNat | _=>0)) ?_ ?_
  ·refine ⟨h1,h2,h7,0,rfl,by omega,_,rfl,?_⟩
   have e0:madeRows c first 0=List.map (AtV.cells∘lineAt c first) (List.range c.lines.length):=by simp [madeRows]
   have e1:OutIs H.length (outT 172 (List.map (AtV.cells∘lineAt c first) (List.range c.lines.length))) (s 6) (madeRows c first 0):=by
    rw [h6,List.map_map];exact outIs_of e0.symm
   exact e1
  rintro s H' ⟨h1,h2,h7,i,h9,hi,J,rfl,h6⟩
  simp [h1,h2,h7,h9]
  refine ⟨fun h=>?_,fun h=>?_⟩
  ·have w1:IntKind.i64.wrap ((first:Int)+c.lines.length)=((first+c.lines.length:Nat):Int):=by rw [wrap_in (by omega) (by omega)];omega
   have w2:IntKind.i64.wrap ((first:Int)+c.lines.length+i)=((first+c.lines.length+i:Nat):Int):=by rw [wrap_in (by omega) (by omega)];omega
   have w3:IntKind.i64.wrap ((first:Int)+i)=((first+i:Nat):Int):=by rw [wrap_in (by omega) (by omega)];omega
   have w4:0<i→IntKind.i64.wrap ((first:Int)+i-1)=((first+i-1:Nat):Int):=fun _=>by rw [wrap_in (by omega) (by omega)];omega
   by_cases h0':0<i
   ·have w4:=w4 h0'
    by_cases hn':i<c.lines.length
    ·rcases h6 with ⟨h6,h6'⟩ | ⟨b,g,h6,hb⟩
     ·simp [w1,w2,w3,w4,h,h1,h2,h7,h9,h6',fillA,storeA,h0',hn',buildSliceA,fillRows]
      rw [app_first (e:=36) (e':=36) (by simp) (by simp) sz36 by36 (by simp) (by decide) _ (by simp) (by decide)]
      simp [h1,h2,h7,h9,wrap_succ (show i<c.lines.length+1 by omega) (by omega)]
      refine ⟨⟨i+1,by simp,by omega,?_⟩,by omega⟩
      refine outIs_first ?_
      rw [madeRows_succ,h6]
      simp [edgeAt,ownId,h0',hn']
     ·have hJ:b<J.length:=(List.getElem?_eq_some_iff.1 hb).1
      simp [w1,w2,w3,w4,h,h1,h2,h7,h9,h6,fillA,storeA,h0',hn',buildSliceA,fillRows]
      rw [app_more (e:=36) (e':=36) (g:=g) (rs:=madeRows c first i) (by simp) (by simp) sz36 by36 (by simp) (by decide) (by rw [app_get];show (J++_)[b]?=_;rw [List.getElem?_append_left hJ];exact hb) (by omega) (by simp) (by simp [madeRows];omega)]
      simp [h1,h2,h7,h9,wrap_succ (show i<c.lines.length+1 by omega) (by omega),List.set_append_left,hJ]
      refine ⟨⟨i+1,by simp,by omega,?_⟩,by omega⟩
      refine outIs_more hb ?_
      rw [madeRows_succ]
      simp [edgeAt,ownId,h0',hn']
    ·rcases h6 with ⟨h6,h6'⟩ | ⟨b,g,h6,hb⟩
     ·simp [w1,w2,w3,w4,h,h1,h2,h7,h9,h6',fillA,storeA,h0',hn',buildSliceA,fillRows]
      rw [app_first (e:=36) (e':=36) (by simp) (by simp) sz36 by36 (by simp) (by decide) _ (by simp) (by decide)]
      simp [h1,h2,h7,h9,wrap_succ (show i<c.lines.length+1 by omega) (by omega)]
      refine ⟨⟨i+1,by simp,by omega,?_⟩,by omega⟩
      refine outIs_first ?_
      rw [madeRows_succ,h6]
      simp [edgeAt,ownId,h0',hn']
     ·have hJ:b<J.length:=(List.getElem?_eq_some_iff.1 hb).1
      simp [w1,w2,w3,w4,h,h1,h2,h7,h9,h6,fillA,storeA,h0',hn',buildSliceA,fillRows]
      rw [app_more (e:=36) (e':=36) (g:=g) (rs:=madeRows c first i) (by simp) (by simp) sz36 by36 (by simp) (by decide) (by rw [app_get];show (J++_)[b]?=_;rw [List.getElem?_append_left hJ];exact hb) (by omega) (by simp) (by simp [madeRows];omega)]
      simp [h1,h2,h7,h9,wrap_succ (show i<c.lines.length+1 by omega) (by omega),List.set_append_left,hJ]
      refine ⟨⟨i+1,by simp,by omega,?_⟩,by omega⟩
      refine outIs_more hb ?_
      rw [madeRows_succ]
      simp [edgeAt,ownId,h0',hn']
   ·by_cases hn':i<c.lines.length
    ·rcases h6 with ⟨h6,h6'⟩ | ⟨b,g,h6,hb⟩
     ·simp [w1,w2,w3,w4,h,h1,h2,h7,h9,h6',fillA,storeA,h0',hn',buildSliceA,fillRows]
      rw [app_first (e:=36) (e':=36) (by simp) (by simp) sz36 by36 (by simp) (by decide) _ (by simp) (by decide)]
      simp [h1,h2,h7,h9,wrap_succ (show i<c.lines.length+1 by omega) (by omega)]
      refine ⟨⟨i+1,by simp,by omega,?_⟩,by omega⟩
      refine outIs_first ?_
      rw [madeRows_succ,h6]
      simp [edgeAt,ownId,h0',hn']
     ·have hJ:b<J.length:=(List.getElem?_eq_some_iff.1 hb).1
      simp [w1,w2,w3,w4,h,h1,h2,h7,h9,h6,fillA,storeA,h0',hn',buildSliceA,fillRows]
      rw [app_more (e:=36) (e':=36) (g:=g) (rs:=madeRows c first i) (by simp) (by simp) sz36 by36 (by simp) (by decide) (by rw [app_get];show (J++_)[b]?=_;rw [List.getElem?_append_left hJ];exact hb) (by omega) (by simp) (by simp [madeRows];omega)]
      simp [h1,h2,h7,h9,wrap_succ (show i<c.lines.length+1 by omega) (by omega),List.set_append_left,hJ]
      refine ⟨⟨i+1,by simp,by omega,?_⟩,by omega⟩
      refine outIs_more hb ?_
      rw [madeRows_succ]
      simp [edgeAt,ownId,h0',hn']
    ·rcases h6 with ⟨h6,h6'⟩ | ⟨b,g,h6,hb⟩
     ·simp [w1,w2,w3,w4,h,h1,h2,h7,h9,h6',fillA,storeA,h0',hn',buildSliceA,fillRows]
      rw [app_first (e:=36) (e':=36) (by simp) (by simp) sz36 by36 (by simp) (by decide) _ (by simp) (by decide)]
      simp [h1,h2,h7,h9,wrap_succ (show i<c.lines.length+1 by omega) (by omega)]
      refine ⟨⟨i+1,by simp,by omega,?_⟩,by omega⟩
      refine outIs_first ?_
      rw [madeRows_succ,h6]
      simp [edgeAt,ownId,h0',hn']
     ·have hJ:b<J.length:=(List.getElem?_eq_some_iff.1 hb).1
      simp [w1,w2,w3,w4,h,h1,h2,h7,h9,h6,fillA,storeA,h0',hn',buildSliceA,fillRows]
      rw [app_more (e:=36) (e':=36) (g:=g) (rs:=madeRows c first i) (by simp) (by simp) sz36 by36 (by simp) (by decide) (by rw [app_get];show (J++_)[b]?=_;rw [List.getElem?_append_left hJ];exact hb) (by omega) (by simp) (by simp [madeRows];omega)]
      simp [h1,h2,h7,h9,wrap_succ (show i<c.lines.length+1 by omega) (by omega),List.set_append_left,hJ]
      refine ⟨⟨i+1,by simp,by omega,?_⟩,by omega⟩
      refine outIs_more hb ?_
      rw [madeRows_succ]
      simp [edgeAt,ownId,h0',hn']
  ·have h:i=c.lines.length+1:=by omega
   subst h
   rcases h6 with ⟨h6,_⟩ | ⟨b,g,h6,hb⟩
   ·simp [madeRows,List.range_succ] at h6
   ·rw [h6,freeze_sl (H:=H++.rows 139 0 [c.cells]::.rows 33 0 [(ownId first).cells]::J) (rs:=madeRows c first (c.lines.length+1)) (by rw [app_get];exact hb) (by omega) (closedss_map AtV.closed _)]
    simp [madeRows,madeV,madeK,k1,k2,k3,k4,k6,k7,slAV]
end Go.Proofs.Ev
namespace Go.Proofs.Ev
open Go.Proofs
variable {C:Cfg}
def depsL:Option DigV→List DigV→Int
 | _,[]=>0
 | p,x::l=>if zeroD x.d=true then 1 else if (match p with | none=>false | some y=>decide (0≤cmpD y.d x.d))=true then 9 else depsL (some x) l
def depsE (l:List DigV):Int:=if 100<l.length then 4 else depsL none l
def prevD (l:List DigV):Nat→Option DigV
 | 0=>none
 | k+1=>l[k]?
set_option maxHeartbeats 1000000 in
theorem ret_deps (S:Setting3 C) (l:List DigV) (K:SK):Ret Tryz.prog C 170 [] [slAV K (l.map DigV.cells)] (.int .i64 (depsE l)):=by
 refine ret_pure (S.pure3 _ (by decide)) fun H=>func_rule Tryz.func170 rfl (S.prim _ (by decide)) (by simp) (by kernel_rfl) ?_
 unfold Tryz.f170
 simp [argS]
 refine ⟨fun h=>by rw [depsE,if_pos (by omega)],fun hle=>?_⟩
 have hle:l.length≤100:=by omega
 have hE:depsE l=depsL none l:=by rw [depsE,if_neg (by omega)]
 refine loopC_rule (fun s H'=>H'=H∧s 0=slAV K (l.map DigV.cells)∧∃k:Nat,s 3=.int .i64 k∧k≤l.length∧depsE l=depsL (prevD l k) (l.drop k)) (fun s _=>l.length-(match s 3 with | .int _ k=>k.toNat | _=>0)) ?_ ?_
 ·exact ⟨rfl,rfl,0,rfl,by omega,by simpa [prevD] using hE⟩
 rintro s H' ⟨rfl,h0,k,h3,hk,hc⟩
 simp [h0,h3]
 refine ⟨fun h=>?_,fun h=>?_⟩
 ·rw [List.drop_eq_getElem_cons h] at hc
  simp only [depsL] at hc
  have e1:∀base H K,CallW Tryz.prog C base (.fn 70 []) [.agg l[k].cells] H K=K (.bool (zeroD l[k].d)) H:=(ret_zero S.toSetting l[k].d l[k].h).eq
  cases hz:zeroD l[k].d with
  | true =>
   rw [if_pos hz] at hc
   rw [hz] at e1
   simp [h,h0,h3,hc,e1]
  | false =>
   rw [if_neg (by simp [hz])] at hc
   rw [hz] at e1
   cases k with
   | zero =>
    simp only [prevD] at hc
    simp [h,h0,h3,e1,guardV,show IntKind.i64.wrap 1=1 from rfl]
    exact ⟨⟨1,rfl,by omega,by simpa [prevD,List.getElem?_eq_getElem h] using hc⟩,by omega⟩
   | succ k =>
    have hk1:k<l.length:=by omega
    have e2:∀base H K,CallW Tryz.prog C base (.fn 34 []) [.agg l[k].cells,.agg l[k+1].cells] H K=K (.int .i64 (cmpD l[k].d l[k+1].d)) H:=(ret_cmpD (S.prim _ (by decide)) (S.pure _ (by decide)) l[k].d l[k+1].d l[k].h l[k+1].h).eq
    have w1:IntKind.i64.wrap (k:Int)=k:=wrap_nat (by omega)
    have w2:IntKind.i64.wrap ((k:Int)+1+1)=((k+2:Nat):Int):=by rw [wrap_in (by omega) (by omega)];omega
    have t1:((k:Int)+1).toNat=k+1:=by omega
    have t2:(0:Int)≤(k:Int)+1:=by omega
    have t3:(k:Int)+1<l.length:=by omega
    have t4:(0:Int)<(k:Int)+1:=by omega
    simp only [prevD,List.getElem?_eq_getElem hk1] at hc
    simp [h,h0,h3,e1,e2,guardV,w1,w2,t1,t2,t3,t4,hk1]
    refine ⟨fun h5=>by rw [hc,if_pos (by simpa using h5)],fun h5=>⟨⟨k+2,rfl,by omega,?_⟩,?_⟩⟩
    ·rw [hc,if_neg (by simpa using h5)];simp [prevD,List.getElem?_eq_getElem h]
    ·rw [show ((k:Int)+2).toNat=k+2 by omega];exact sub_lt h
 ·have h:k=l.length:=by omega
  subst h
  rw [List.drop_length] at hc
  simp only [depsL] at hc
  exact hc.symm
end Go.Proofs.Ev
namespace Go.Proofs.Ev
open Go.Proofs
variable {C:Cfg}
theorem made_len (c:ChV) (first:Nat) (hl:c.lines.length≤2000):(madeV c first).length≤4001∧madeV c first≠[]:=by
 unfold madeV
 repeat' split
 all_goals simp [List.range_succ]
 all_goals omega
theorem fields_lines {c:ChV} (h:fieldsE c=0):c.lines.length≤2000:=by
 unfold fieldsE at h
 split at h
 ·omega
 split at h
 ·omega
 rename_i h1 h2
 repeat (split at h;· omega)
 split at h
 ·rename_i hk
  unfold linesE at h
  split at h
  ·omega
  split at h
  ·omega
  ·omega
 ·rename_i hk
  have h3:emptyB (restV c)=true:=by simpa using h2
  simp only [emptyB,Bool.and_eq_true,beq_iff_eq] at h3
  have h4:=h3.1.2
  have h5:(restV c).lines=c.lines:=by
   unfold restV rest3 rest2 rest1
   repeat' split
   all_goals first | rfl | omega | simp_all
  rw [h5] at h4
  omega
def chgE:List ChV→List AtV→Int×List AtV
 | [],own=>(0,own)
 | c::l,own=>if fieldsE c≠0 then (fieldsE c,[]) else if refE c own≠0 then (refE c own,[]) else chgE l (own++madeV c own.length)
def chgK (l:List ChV):SK:=if (chgE l []).1≠0 then .nil else if l=[] then .exact else .loose
set_option maxHeartbeats 1000000 in
theorem ret_changes (S:Setting3 C) (l:List ChV) (K:SK) (hl:l.length≤400) (hok:∀c∈l,c.Ok):Ret Tryz.prog C 171 [] [slAV K (l.map ChV.cells)] (.tup [slAV (chgK l) ((chgE l []).2.map AtV.cells),.int .i64 (chgE l []).1]):=by
 refine ret_pure (S.pure3 _ (by decide)) fun H=>func_rule Tryz.func171 rfl (S.prim _ (by decide)) (by simp) (by kernel_rfl) ?_
 unfold Tryz.f171
 simp [argS,buildSliceA,fillRows]
 refine loopC_rule (fun s H'=>s 0=slAV K (l.map ChV.cells)∧∃k:Nat,∃own:List AtV,∃J,s 5=.int .i64 k∧k≤l.length∧H'=H++J∧Grow H.length 172 J (s 4) (own.map AtV.cells)∧own.length≤k*4001∧(own=[]→k=0)∧(k=0→s 4=.lst [] true)∧chgE l []=chgE (l.drop k) own) (fun s _=>l.length-(match s 5 with | .int _ k=>k.toNat | _=>0)) ?_ ?_
 ·exact ⟨rfl,0,[],[],rfl,by omega,by simp,.lst,by simp,by simp,fun _=>rfl,rfl⟩
 rintro s H' ⟨h0,k,own,J,h5,hk,rfl,hg,ho,hne,hz,hc⟩
 simp [h0,h5]
 refine ⟨fun h=>?_,fun h=>?_⟩
 ·have hck:=hok l[k] (List.getElem_mem h)
  rw [List.drop_eq_getElem_cons h] at hc
  simp only [chgE] at hc
  have e1:=(ret_fields S.toSetting2 l[k] hck).eq
  have e2:=fun base K=>(ret_references S.toSetting2 l[k] own (growK (s 4)) hck).eq (caps:=[]) (args:=[.agg l[k].cells,s 4]) base (H++J) (by
   rw [List.append_nil,List.mapM_cons,List.mapM_cons,List.mapM_nil,freeze_closed (v:=.agg l[k].cells) (by simp [AV.closed]),hg.freeze rfl (by omega) (closedss_map AtV.closed _)];rfl) K
  by_cases hf:fieldsE l[k]=0
  ·by_cases hr:refE l[k] own=0
   ·rw [if_neg (by simpa using hf),if_neg (by simpa using hr)] at hc
    have hln:=fields_lines hf
    have hml:=made_len l[k] own.length hln
    have e3:=(ret_made S l[k] own.length (by omega) (by omega)).eq
    have hlen:=fun t (e:TypeId) h HH=>Grow.len (P:=Tryz.prog) (t:=t) (e:=e) (H:=HH) h hg
    obtain ⟨v',J',ha,hg',_⟩:=Grow.append (P:=Tryz.prog) (base:=H.length) (e:=36) (e':=36) (ts:=#[83,83]) (by simp) (by simp) sz36 by36 (by simp) (by decide) (Nat.le_refl _) hg (slAV_tail (madeK l[k]) ((madeV l[k] own.length).map AtV.cells)) (by simp) (by simp;omega)
    have hl1:=hlen 83 36 (by simp) (H++J)
    simp [h,h0,h5,e1,hf,e2,hr,hl1,e3,ha,wrap_succ h (by omega)]
    refine ⟨⟨k+1,by simp,by omega,own++madeV l[k] own.length,by simpa using hg',by simp;omega,fun h=>absurd (List.append_eq_nil_iff.1 h).2 hml.2,by simp,hc⟩,sub_lt h⟩
   ·rw [if_neg (by simpa using hf),if_pos hr] at hc
    simp [h,h0,h5,e1,hf,e2,hr]
    simp [hc,chgK,hr,slAV,freeze_closed,AV.closed,AV.closeds]
  ·rw [if_pos hf] at hc
   simp [h,h0,h5,e1,hf]
   simp [hc,chgK,hf,slAV,freeze_closed,AV.closed,AV.closeds]
 ·have h:k=l.length:=by omega
  subst h
  rw [List.drop_length] at hc
  simp only [chgE] at hc
  refine freeze_two ?_ (by simp [hc])
  rw [hg.freeze rfl (Nat.le_refl _) (closedss_map AtV.closed _),hc]
  have hK:growK (s 4)=chgK l∨own=[]∧(chgK l=.exact∧s 4=.lst [] true):=by
   by_cases h0:l.length=0
   ·right
    have:=hz h0
    have hl0:l=[]:=List.length_eq_zero_iff.1 h0
    subst hl0
    refine ⟨?_,rfl,this⟩
    have:=hc;simp [chgE] at this;exact this
   ·left
    have h2:own≠[]:=fun h=>h0 (hne h)
    have hl0:l≠[]:=fun h=>h0 (by rw [h];rfl)
    rcases hg with ⟨h3,_⟩ | ⟨b,g,h3,_⟩
    ·simp at h3;exact absurd h3 h2
    ·rw [h3];simp [growK,chgK,hc,hl0]
  rcases hK with h1 | ⟨h1,h2,h3⟩
  ·rw [h1]
  ·rw [h1,h2,h3];rfl
end Go.Proofs.Ev
namespace Go.Proofs.Ev
open Go.Proofs
variable {C:Cfg}
structure PatchV.Ok (p:PatchV):Prop where
 author:p.author.length≤2^40
 message:p.message.length≤2^40
 depsN:p.deps.length≤2^40
 changesN:p.changes.length≤2^40
 changes:∀c∈p.changes,c.Ok
def headE (p:PatchV):Int :=
 if nameB p.author=false then 5
 else if 1000<(p.message.length:Int) then 4
 else if (decide (p.time<0)||decide (1099511627776<p.time))=true then 2
 else if depsE p.deps≠0 then depsE p.deps
 else if p.changes.length=0 then 1
 else if 400<(p.changes.length:Int) then 4 else 0
def checkE (p:PatchV):Int:=if headE p≠0 then headE p else (chgE p.changes []).1
def checkL (p:PatchV):List AtV:=if headE p≠0 then [] else (chgE p.changes []).2
def checkK (p:PatchV):SK:=if headE p≠0 then .nil else chgK p.changes
def checkR (p:PatchV):AV:=.tup [slAV (checkK p) ((checkL p).map AtV.cells),.int .i64 (checkE p)]
theorem checkR_bad {p:PatchV} {e:Int} (h:headE p=e) (he:e≠0):AV.tup [.nils,.int .i64 e]=checkR p:=by
 subst h
 simp [checkR,checkE,checkL,checkK,he,slAV]
theorem checkR_ok {p:PatchV} (h:headE p=0):AV.tup [slAV (chgK p.changes) ((chgE p.changes []).2.map AtV.cells),.int .i64 (chgE p.changes []).1]=checkR p:=by
 simp [checkR,checkE,checkL,checkK,h]
theorem headE_0 {p:PatchV} (h:400<p.changes.length):headE p≠0:=by
 unfold headE
 repeat' split
 all_goals omega
set_option maxRecDepth 100000 in
set_option maxHeartbeats 2000000 in
theorem ret_check (S:Setting3 C) (p:PatchV) (hp:p.Ok):Ret Tryz.prog C 114 [] [.agg p.cells] (checkR p):=by
 refine ret_pure (S.pure3 _ (by decide)) fun H=>func_rule Tryz.func114 rfl (S.prim _ (by decide)) (by simp) (by kernel_rfl) ?_
 unfold Tryz.f114
 have e1:=(ret_name (S.prim _ (by decide)) (S.pure _ (by decide)) p.author hp.author).eq
 have e2:=(ret_deps S p.deps p.depsK).eq
 by_cases hl:400<p.changes.length
 ·have hl':(400:Int)<p.changes.length:=by omega
  simp +contextual [-Bool.not_and,-Bool.not_or,argS,guardV,e1,e2,hl']
  clear e1 e2
  repeat' (first | (refine And.intro ?_ ?_) | intro _)
  all_goals first
   | omega
   | (rw [freeze_closed (by simp [AV.closed,AV.closeds])];refine congrArg some (checkR_bad ?_ ?_)<;>grind [headE])
 ·have hl':¬(400:Int)<p.changes.length:=by omega
  have e3:=(ret_changes S p.changes p.changesK (by omega) hp.changes).eq
  simp +contextual [-Bool.not_and,-Bool.not_or,argS,guardV,e1,e2,e3,hl']
  clear e1 e2 e3
  repeat' (first | (refine And.intro ?_ ?_) | intro _)
  all_goals first
   | omega
   | (rw [freeze_closed (by simp [AV.closed,AV.closeds])];refine congrArg some (checkR_bad ?_ ?_)<;>grind [headE])
   | (rw [freeze_closed (by simp [AV.closed,AV.closeds,slAV_closed,closedss_map AtV.closed])];refine congrArg some (checkR_ok ?_);grind [headE])
end Go.Proofs.Ev
namespace Go.Proofs.Ev
variable {P:Program} {C:Cfg} {N base:Nat}
@[simp ↓] theorem wp_range (g:Operand) (ps:Array Tmp) (assign body:Code) (s:Sl) (H:Heap) (Q:Post):wpC P C N base (.rangeFunc g ps assign body) s H Q=RangeW P C N base g ps assign body s H Q:=rfl
def afterR (b:Nat) (s:Sl) (Q:Post) (H2:Heap):Prop :=
 match H2[b]? with
 | some (.loop true none _ _ _ _)=>Q .normal s (H2.set b .dead)
 | some (.loop false (some .ret) _ _ _ _)=>Q .ret s (H2.set b .dead)
 | some (.loop false (some (.exit i)) _ _ _ _)=>Q (.exit i) s (H2.set b .dead)
 | _=>False
def loopB (l:List AV) (ps:List Tmp) (assign body:Code):Blk:=.loop true none l ps assign body
def busyB (l:List AV) (ps:List Tmp) (assign body:Code):Blk:=.loop false none l ps assign body
def doneB (e:AExit) (l:List AV) (ps:List Tmp) (assign body:Code):Blk:=.loop e.code.isNone e.code l ps assign body
@[simp] theorem doneB_normal (l:List AV) (ps:List Tmp) (assign body:Code):doneB .normal l ps assign body=loopB l ps assign body:=rfl
theorem afterR_loop {b:Nat} {s:Sl} {Q:Post} {H2:Heap} {l:List AV} {ps:List Tmp} {assign body:Code} (h:H2[b]?=some (loopB l ps assign body)):afterR b s Q H2=Q .normal s (H2.set b .dead):=by
 simp only [afterR,h,loopB]
theorem range_rule {g:Operand} {ps:Array Tmp} {assign body:Code} {s:Sl} {H:Heap} {Q:Post} {f:FuncId} {caps:List AV} (hg:valF s g=.fn f caps)
 (h:∀l,Rep N l s→FuncW P C base f (.yld H.length::caps) (H++[loopB l ps.toList assign body]) fun _ H2=>afterR H.length s Q H2):RangeW P C N base g ps assign body s H Q:=by
 intro l hr
 obtain ⟨n,v,H2,h1,h2⟩:=h l hr
 have hv:evalOperand l g=.fn f caps:=(hr.val g).trans hg
 unfold afterR at h2
 split at h2
 ·rename_i hb
  exact ⟨n+2,.normal,l,s,_,by simp only [codeA,hv,loopB] at h1 ⊢;rw [funcA_mono (Nat.le_succ n) h1];simp only [hb],hr,h2⟩
 ·rename_i hb
  exact ⟨n+2,.ret,l,s,_,by simp only [codeA,hv,loopB] at h1 ⊢;rw [funcA_mono (Nat.le_succ n) h1];simp only [hb,codeA],hr,h2⟩
 ·rename_i i _ _ _ _ hb
  exact ⟨n+2,.exit i,l,s,_,by simp only [codeA,hv,loopB] at h1 ⊢;rw [funcA_mono (Nat.le_succ n) h1];simp only [hb,codeA],hr,h2⟩
 ·exact h2.elim
def setF:List Tmp→List AV→Sl→Sl
 | p::ps,v::args,s=>setF ps args (upd s p v)
 | _,_,s=>s
@[simp] theorem setF_cons (p:Tmp) (ps:List Tmp) (v:AV) (args:List AV) (s:Sl):setF (p::ps) (v::args) s=setF ps args (upd s p v):=rfl
@[simp] theorem setF_nil (s:Sl):setF [] [] s=s:=rfl
theorem Rep.params:∀{ps:List Tmp} {args:List AV} {l:List AV} {s:Sl},Rep N l s→(∀p∈ps,p<N)→Rep N (setParams ps args l) (setF ps args s)
 | [],_,_,_,h,_=>by unfold setParams setF;exact h
 | _::_,[],_,_,h,_=>by unfold setParams setF;exact h
 | p::ps,v::args,l,s,h,hp=>by
  unfold setParams setF
  exact Rep.params (h.put (dst:=some p) (hp p (by simp)) v) fun q hq=>hp q (by simp [hq])
theorem yield_rule {b:Nat} {l:List AV} {s:Sl} {ps:List Tmp} {assign body:Code} {args:List AV} {H:Heap} {K:AV→Heap→Prop} (hr:Rep N l s) (hget:H[b]?=some (loopB l ps assign body)) (hbase:base≤b)
 (hlen:args.length=ps.length) (hps:∀p∈ps,p<N) (hsa:statC P assign=true) (hsb:statC P body=true)
 (h:wpC P C N base assign (setF ps args s) H (cutQ (fun s1 H1=>H1[b]?=some (loopB l ps assign body)∧
  wpC P C N base body s1 (H1.set b (busyB l ps assign body)) fun e _ H3=>H3[b]?=some (busyB l ps assign body)∧K (.bool e.code.isNone) (H3.set b (doneB e l ps assign body))) fun _ _ _=>False)) :
 CallW P C base (.yld b) args H K:=by
 obtain ⟨n,e,l1,s1,H1,h1,h2,h3⟩:=wpC_sound hsa h (hr.params hps)
 cases e with
 | exit i=>exact h3.elim
 | ret=>exact h3.elim
 | normal =>
  obtain ⟨hg1,h3⟩:=h3
  obtain ⟨m,e2,l2,s2,H3,h4,h5,hg3,h6⟩:=wpC_sound hsb h3 h2
  refine ⟨n+m+1,.bool e2.code.isNone,H3.set b (doneB e2 l ps assign body),?_,h6⟩
  have a1:=codeA_mono (Nat.le_add_right n m) h1
  have a2:=codeA_mono (Nat.le_add_left m n) h4
  simp only [loopB,busyB] at hget hg1 hg3 a2
  simp only [callA,hget,if_pos (And.intro hbase hlen),a1,hg1,a2,hg3,doneB]
theorem CallW.eq {f:AV} {args:List AV} {H:Heap} {v:AV} {H':Heap} (h:CallW P C base f args H fun v' H''=>v'=v∧H''=H') (K:AV→Heap→Prop):CallW P C base f args H K=K v H':=by
 obtain ⟨n,v1,H1,h1,rfl,rfl⟩:=h
 apply propext
 constructor
 ·rintro ⟨m,v2,H2,h2,h3⟩
  have e1:=callA_mono (Nat.le_max_left n m) h1
  have e2:=callA_mono (Nat.le_max_right n m) h2
  rw [e1] at e2
  simp only [Option.some.injEq,Prod.mk.injEq] at e2
  obtain ⟨rfl,rfl⟩:=e2
  exact h3
 ·intro h2;exact ⟨n,_,_,h1,h2⟩
def cntQ (I:Nat→Sl→Heap→Prop) (n k:Nat) (Q:Post):Post:=fun e s H=>match e with | .normal=>k<n∧I (k+1) s H | .exit i=>Q (.exit i) s H | .ret=>Q .ret s H
@[simp ↓] theorem cntQ_normal (I:Nat→Sl→Heap→Prop) (n k:Nat) (Q:Post) (s:Sl) (H:Heap):cntQ I n k Q .normal s H=(k<n∧I (k+1) s H):=rfl
@[simp ↓] theorem cntQ_exit (I:Nat→Sl→Heap→Prop) (n k:Nat) (Q:Post) (i:Nat) (s:Sl) (H:Heap):cntQ I n k Q (.exit i) s H=Q (.exit i) s H:=rfl
@[simp ↓] theorem cntQ_ret (I:Nat→Sl→Heap→Prop) (n k:Nat) (Q:Post) (s:Sl) (H:Heap):cntQ I n k Q .ret s H=Q .ret s H:=rfl
theorem loop_count {b:Code} {Q:Post} (n:Nat) (I:Nat→Sl→Heap→Prop) {s:Sl} {H:Heap} (h0:I 0 s H)
 (hstep:∀k s H,I k s H→k≤n→wpC P C N base b s H (cntQ I n k Q)):LoopC P C N base b s H Q:=by
 have key:∀j k s H,I k s H→k≤n→n-k<j→loopN (wpC P C N base b) Q j s H:=by
  intro j
  induction j with
  | zero=>intro k s H _ _ h;omega
  | succ j ih =>
   intro k s H hi hk hj
   unfold loopN
   refine wpC_mono (fun e s' H' h=>?_) (hstep k s H hi hk)
   cases e with
   | normal=>exact ih (k+1) s' H' h.2 (by have:=h.1;omega) (by have:=h.1;omega)
   | exit i=>exact h
   | ret=>exact h
 exact ⟨n+1,key _ 0 _ _ h0 (by omega) (by omega)⟩
end Go.Proofs.Ev
namespace Go.Proofs.Ev
inductive SX where
 | mk (isList:Bool) (atom:List UInt8) (list:List SX) (k:SK)
mutual
def SX.cells:SX→List AV
 | .mk b a l k=>[.bool b,.str a,slAV k (SX.rows l)]
def SX.rows:List SX→List (List AV)
 | []=>[]
 | x::l=>SX.cells x::SX.rows l
end
mutual
def SX.nodes:SX→Nat
 | .mk _ _ l _=>SX.nodess l+1
def SX.nodess:List SX→Nat
 | []=>0
 | x::l=>SX.nodes x+SX.nodess l
end
theorem SX.rows_map:∀l:List SX,SX.rows l=l.map SX.cells
 | []=>rfl
 | x::l=>by rw [SX.rows,SX.rows_map l];rfl
def SX.isList:SX→Bool | .mk b _ _ _=>b
def SX.atom:SX→List UInt8 | .mk _ a _ _=>a
def SX.list:SX→List SX | .mk _ _ l _=>l
def SX.k:SX→SK | .mk _ _ _ k=>k
theorem SX.cells_eq (x:SX):x.cells=[.bool x.isList,.str x.atom,slAV x.k (x.list.map SX.cells)]:=by
 cases x with | mk b a l k=>rw [SX.cells,SX.rows_map];rfl
@[simp] theorem SX.len (x:SX):x.cells.length=3:=by rw [x.cells_eq];rfl
@[simp] theorem SX.leafs (x:SX):x.cells.all AV.leaf=true:=by rw [x.cells_eq];simp
theorem SX.nodes_eq (x:SX):x.nodes=SX.nodess x.list+1:=by cases x;rw [SX.nodes];rfl
theorem SX.nodes_pos (x:SX):0<x.nodes:=by rw [x.nodes_eq];omega
theorem SX.nodes_mem:∀{l:List SX} {y:SX},y∈l→y.nodes≤SX.nodess l
 | x::l,y,h=>by
  rw [SX.nodess]
  rcases List.mem_cons.1 h with rfl | h
  ·omega
  ·have:=SX.nodes_mem h;omega
theorem SX.closedss_of:∀{l:List SX},(∀y∈l,AV.closeds y.cells=true)→AV.closedss (l.map SX.cells)=true
 | [],_=>rfl
 | x::l,h=>by
  have h1:=SX.closedss_of (l:=l) fun y hy=>h y (List.mem_cons_of_mem _ hy)
  simp only [List.map_cons,AV.closedss,h x List.mem_cons_self,h1,Bool.and_self]
theorem SX.closed_n:∀(n:Nat) (x:SX),x.nodes≤n→AV.closeds x.cells=true
 | 0,x,h=>by have:=x.nodes_pos;omega
 | n+1,x,h=>by
  rw [x.cells_eq]
  have hc:=slAV_closed (k:=x.k) (SX.closedss_of (l:=x.list) fun y hy=>SX.closed_n n y (by have:=SX.nodes_mem hy;rw [x.nodes_eq] at h;omega))
  simp only [AV.closeds,AV.closed,hc,Bool.and_self]
@[simp] theorem SX.closed (x:SX):AV.closeds x.cells=true:=SX.closed_n _ x (Nat.le_refl _)
def decN (n:Nat):List UInt8:=if n<10 then [UInt8.ofNat (48+n)] else decN (n / 10)++[UInt8.ofNat (48+n % 10)]
def decI (n:Int):List UInt8:=if n<0 then 45::decN n.natAbs else decN n.toNat
theorem decN_len:∀(k n:Nat),n<10^k→0<k→(decN n).length≤k
 | 0,_,_,h=>by omega
 | k+1,n,h,_=>by
  rw [decN]
  split
  ·simp
  ·rename_i h10
   have hk:0<k:=by
    rcases Nat.eq_zero_or_pos k with rfl | hk
    ·simp at h;omega
    ·exact hk
   have:=decN_len k (n / 10) (by rw [Nat.pow_succ] at h;omega) hk
   simp;omega
mutual
def SX.enc:SX→List UInt8
 | .mk false a _ _=>decN a.length++58::a
 | .mk true _ l _=>40::SX.encs l++[41]
def SX.encs:List SX→List UInt8
 | []=>[]
 | x::l=>SX.enc x++SX.encs l
end
theorem SX.encs_append:∀a b:List SX,SX.encs (a++b)=SX.encs a++SX.encs b
 | [],b=>by simp [SX.encs]
 | x::a,b=>by simp [SX.encs,SX.encs_append a b]
mutual
def SX.chk:SX→Int
 | .mk false a l _=>if 0<l.length then 1 else if 65536<a.length then 4 else 0
 | .mk true a l _=>if a≠[] then 1 else SX.chks l
def SX.chks:List SX→Int
 | []=>0
 | x::l=>if SX.chk x≠0 then SX.chk x else SX.chks l
end
mutual
def SX.cnt:SX→Int→Int→Int
 | .mk b _ l _,lim,dep=>if dep<1∨lim<1 then lim+1 else if b then SX.cnts l lim (dep-1) 1 else 1
def SX.cnts:List SX→Int→Int→Int→Int
 | [],_,_,n=>n
 | x::l,lim,dep,n=>if n≤lim then SX.cnts l lim dep (n+SX.cnt x (lim-n) dep) else n
end
theorem SX.cnt_n:∀(n:Nat) (x:SX) (lim dep:Int),x.nodes≤n→0≤lim→1≤x.cnt lim dep∧x.cnt lim dep≤lim+1∧(x.chk=0→x.cnt lim dep≤lim→x.cnt lim dep=x.nodes)
 | 0,x,_,_,h,_=>by have:=x.nodes_pos;omega
 | n+1,.mk b a l k,lim,dep,h,hl=>by
  rw [SX.nodes] at h
  have key:∀(l:List SX),SX.nodess l≤n→∀m:Int,1≤m→m≤lim+1→m≤SX.cnts l lim (dep-1) m∧SX.cnts l lim (dep-1) m≤lim+1∧(SX.chks l=0→SX.cnts l lim (dep-1) m≤lim→SX.cnts l lim (dep-1) m=m+SX.nodess l):=by
   intro l
   induction l with
   | nil=>intro _ m h1 h2;simp [SX.cnts,SX.nodess,h2]
   | cons x l ih =>
    intro hn m h1 h2
    rw [SX.nodess] at hn
    rw [SX.cnts]
    by_cases hm:m≤lim
    ·rw [if_pos hm]
     obtain ⟨a1,a2,a3⟩:=SX.cnt_n n x (lim-m) (dep-1) (by omega) (by omega)
     obtain ⟨b1,b2,b3⟩:=ih (by omega) (m+x.cnt (lim-m) (dep-1)) (by omega) (by omega)
     refine ⟨by omega,b2,fun hc hle=>?_⟩
     rw [SX.chks] at hc
     by_cases h0:x.chk=0
     ·rw [if_neg (by simpa using h0)] at hc
      have e1:=b3 hc hle
      have e2:=a3 h0 (by omega)
      rw [e1,e2,SX.nodess];omega
     ·rw [if_pos h0] at hc;exact absurd hc h0
    ·rw [if_neg hm]
     exact ⟨by omega,h2,fun _ h=>absurd h hm⟩
  rw [SX.cnt]
  by_cases hd:dep<1∨lim<1
  ·rw [if_pos hd];exact ⟨by omega,by omega,fun _ h=>by omega⟩
  ·rw [if_neg hd]
   cases b with
   | false =>
    simp only [Bool.false_eq_true,if_false]
    refine ⟨by omega,by omega,fun hc _=>?_⟩
    rw [SX.chk] at hc
    have:l=[]:=by
     cases l with
     | nil=>rfl
     | cons x l=>simp at hc
    subst this;simp [SX.nodes,SX.nodess]
   | true =>
    simp only [if_true]
    obtain ⟨b1,b2,b3⟩:=key l (by omega) 1 (by omega) (by omega)
    refine ⟨b1,b2,fun hc hle=>?_⟩
    rw [SX.chk] at hc
    split at hc
    ·simp at hc
    ·rw [b3 hc hle,SX.nodes];omega
theorem SX.enc_len:∀(n:Nat) (x:SX),x.nodes≤n→x.chk=0→x.enc.length≤x.nodes*65544
 | 0,x,h,_=>by have:=x.nodes_pos;omega
 | n+1,.mk b a l k,h,hc=>by
  rw [SX.nodes] at h
  have key:∀(l:List SX),SX.nodess l≤n→SX.chks l=0→(SX.encs l).length≤SX.nodess l*65544:=by
   intro l
   induction l with
   | nil=>intro _ _;simp [SX.encs]
   | cons x l ih =>
    intro hn hc
    rw [SX.nodess] at hn
    rw [SX.chks] at hc
    by_cases h0:x.chk=0
    ·rw [if_neg (by simpa using h0)] at hc
     have e1:=ih (by omega) hc
     have e2:=SX.enc_len n x (by omega) h0
     rw [SX.encs,SX.nodess,List.length_append];omega
    ·rw [if_pos h0] at hc;exact absurd hc h0
  rw [SX.nodes]
  cases b with
  | false =>
   rw [SX.chk] at hc
   by_cases h1:0<l.length
   ·rw [if_pos h1] at hc;cases hc
   ·rw [if_neg h1] at hc
    by_cases h2:65536<a.length
    ·rw [if_pos h2] at hc;cases hc
    ·rw [SX.enc]
     have:=decN_len 5 a.length (by omega) (by decide)
     simp;omega
  | true =>
   rw [SX.chk] at hc
   split at hc
   ·cases hc
   ·have:=key l (by omega) hc
    rw [SX.enc];simp;omega
theorem SX.chks_mem:∀{l:List SX} {y:SX},SX.chks l=0→y∈l→y.chk=0
 | x::l,y,h,hm=>by
  rw [SX.chks] at h
  by_cases h0:x.chk=0
  ·rw [if_neg (by simpa using h0)] at h
   rcases List.mem_cons.1 hm with rfl | hm
   ·exact h0
   ·exact SX.chks_mem h hm
  ·rw [if_pos h0] at h;exact absurd h h0
theorem SX.encs_take_len (n:Nat):∀(l:List SX),SX.chks l=0→SX.nodess l≤n→∀i,(SX.encs (l.take i)).length≤SX.nodess l*65544
 | [],_,_,i=>by simp [SX.encs]
 | x::l,h,hn,0=>by simp [SX.encs]
 | x::l,h,hn,i+1=>by
  rw [SX.chks] at h
  rw [SX.nodess] at hn
  by_cases h0:x.chk=0
  ·rw [if_neg (by simpa using h0)] at h
   have e1:=SX.encs_take_len n l h (by omega) i
   have e2:=SX.enc_len n x (by omega) h0
   rw [List.take_succ_cons,SX.encs,SX.nodess,List.length_append];omega
  ·rw [if_pos h0] at h;exact absurd h h0
end Go.Proofs.Ev
namespace Go.Proofs.Ev
abbrev W32:=BitVec 32
def w32 (x:W32):AV:=.int .u32 (x.toNat:Int)
section
variable {P:Program} {C:Cfg} (t:TypeId) (x y:W32)
theorem ofInt_w:BitVec.ofInt 32 (x.toNat:Int)=x:=by
 apply BitVec.eq_of_toNat_eq
 rw [BitVec.toNat_ofInt]
 have:=x.isLt
 omega
theorem wrap_w:IntKind.u32.wrap (x.toNat:Int)=(x.toNat:Int):=by have:=x.isLt;exact IntWalk.u32_in _ (by omega)
theorem w_add:binA P C .add t (w32 x) (w32 y)=some (w32 (x+y)):=by
 simp only [w32,bin_add,BitVec.toNat_add,Option.some.injEq,AV.int.injEq,true_and]
 rw [IntKind.wrap_u32];omega
theorem w_and:binA P C .and t (w32 x) (w32 y)=some (w32 (x &&& y)):=by
 simp only [w32,binA,IntKind.bits,ofInt_w,if_true]
 exact congrArg (fun z=>some (AV.int .u32 z)) (wrap_w _)
theorem w_or:binA P C .or t (w32 x) (w32 y)=some (w32 (x ||| y)):=by
 simp only [w32,binA,IntKind.bits,ofInt_w,if_true]
 exact congrArg (fun z=>some (AV.int .u32 z)) (wrap_w _)
theorem w_xor:binA P C .xor t (w32 x) (w32 y)=some (w32 (x ^^^ y)):=by
 simp only [w32,binA,IntKind.bits,ofInt_w,if_true]
 exact congrArg (fun z=>some (AV.int .u32 z)) (wrap_w _)
theorem w_not:unA .xor (w32 x)=some (w32 (~~~x)):=by
 have e:BitVec.ofInt 32 (IntKind.max .u32) ^^^ x = ~~~x:=by
  have:BitVec.ofInt 32 (IntKind.max .u32)=BitVec.allOnes 32:=by decide
  rw [this,BitVec.allOnes_xor]
 show some (AV.int .u32 (IntKind.u32.wrap ((BitVec.ofInt 32 (IntKind.max .u32) ^^^ BitVec.ofInt 32 (x.toNat:Int)).toNat:Int)))=_
 rw [ofInt_w,e,wrap_w];rfl
theorem w_shr (k:IntKind) (n:Nat) (h:n≤32):binA P C .shr t (w32 x) (.int k (n:Int))=some (w32 (x >>> n)):=by
 simp only [w32,binA,IntKind.bits]
 rw [if_pos (by omega)]
 have e:min (n:Int).toNat 32=n:=by omega
 rw [e,BitVec.toNat_ushiftRight,Nat.shiftRight_eq_div_pow]
 congr 2
 have:((2:Int)^n)=((2^n:Nat):Int):=by simp
 rw [this,Int.fdiv_eq_ediv_of_nonneg _ (Int.natCast_nonneg _)]
 rfl
theorem w_shl (k:IntKind) (n:Nat) (h:n≤32):binA P C .shl t (w32 x) (.int k (n:Int))=some (w32 (x <<< n)):=by
 simp only [w32,binA,IntKind.bits]
 rw [if_pos (by omega)]
 have e:min (n:Int).toNat 32=n:=by omega
 rw [e,BitVec.toNat_shiftLeft,Nat.shiftLeft_eq,IntKind.wrap_u32]
 congr 2
end
def rotr (x:W32) (n:Nat):W32:=x >>> n ||| x <<< (32-n)
def shaK:List W32:=[
 0x428a2f98,0x71374491,0xb5c0fbcf,0xe9b5dba5,0x3956c25b,0x59f111f1,0x923f82a4,0xab1c5ed5,
 0xd807aa98,0x12835b01,0x243185be,0x550c7dc3,0x72be5d74,0x80deb1fe,0x9bdc06a7,0xc19bf174,
 0xe49b69c1,0xefbe4786,0x0fc19dc6,0x240ca1cc,0x2de92c6f,0x4a7484aa,0x5cb0a9dc,0x76f988da,
 0x983e5152,0xa831c66d,0xb00327c8,0xbf597fc7,0xc6e00bf3,0xd5a79147,0x06ca6351,0x14292967,
 0x27b70a85,0x2e1b2138,0x4d2c6dfc,0x53380d13,0x650a7354,0x766a0abb,0x81c2c92e,0x92722c85,
 0xa2bfe8a1,0xa81a664b,0xc24b8b70,0xc76c51a3,0xd192e819,0xd6990624,0xf40e3585,0x106aa070,
 0x19a4c116,0x1e376c08,0x2748774c,0x34b0bcb5,0x391c0cb3,0x4ed8aa4a,0x5b9cca4f,0x682e6ff3,
 0x748f82ee,0x78a5636f,0x84c87814,0x8cc70208,0x90befffa,0xa4506ceb,0xbef9a3f7,0xc67178f2]
def byteW (b:UInt8):W32:=BitVec.ofNat 32 b.toNat
def wordAt (block:List UInt8) (t:Nat):W32 :=
 byteW (block.getD (4*t) 0) <<< 24 ||| byteW (block.getD (4*t+1) 0) <<< 16 ||| byteW (block.getD (4*t+2) 0) <<< 8 ||| byteW (block.getD (4*t+3) 0)
def nextW (w:List W32):W32 :=
 let t:=w.length
 let x:=w.getD (t-15) 0
 let y:=w.getD (t-2) 0
 ((rotr y 17 ^^^ rotr y 19 ^^^ y >>> 10)+w.getD (t-7) 0+(rotr x 7 ^^^ rotr x 18 ^^^ x >>> 3))+w.getD (t-16) 0
def schedL (block:List UInt8):Nat→List W32
 | 0=>[]
 | t+1=>let w:=schedL block t;w++[if t<16 then wordAt block t else nextW w]
theorem schedL_len (block:List UInt8):∀t,(schedL block t).length=t
 | 0=>rfl
 | t+1=>by simp [schedL,schedL_len block t]
structure St8 where
 (a b c d e f g h:W32)
def St8.list (s:St8):List W32:=[s.a,s.b,s.c,s.d,s.e,s.f,s.g,s.h]
def round8 (s:St8) (k w:W32):St8 :=
 let t1:=s.h+(rotr s.e 6 ^^^ rotr s.e 11 ^^^ rotr s.e 25)+(s.e &&& s.f ^^^ ~~~s.e &&& s.g)+k+w
 let t2:=(rotr s.a 2 ^^^ rotr s.a 13 ^^^ rotr s.a 22)+(s.a &&& s.b ^^^ s.a &&& s.c ^^^ s.b &&& s.c)
 ⟨t1+t2,s.a,s.b,s.c,s.d+t1,s.e,s.f,s.g⟩
def rounds8 (block:List UInt8) (s:St8):Nat→St8
 | 0=>s
 | t+1=>round8 (rounds8 block s t) (shaK.getD t 0) ((schedL block 64).getD t 0)
def stepS (s:St8) (block:List UInt8):St8 :=
 let v:=rounds8 block s 64
 ⟨s.a+v.a,s.b+v.b,s.c+v.c,s.d+v.d,s.e+v.e,s.f+v.f,s.g+v.g,s.h+v.h⟩
def initS:St8:=⟨0x6a09e667,0xbb67ae85,0x3c6ef372,0xa54ff53a,0x510e527f,0x9b05688c,0x1f83d9ab,0x5be0cd19⟩
def lenBytes (n:Nat):List UInt8:=(List.range 8).map fun i=>UInt8.ofNat ((n*8 % 18446744073709551616) / 2^(8*(7-i)))
def padded (s:List UInt8):List UInt8:=s++128::List.replicate ((120-(s.length+1) % 64) % 64) 0++lenBytes s.length
def blocksN (m:List UInt8):Nat→List (List UInt8)
 | 0=>[]
 | n+1=>m.take 64::blocksN (m.drop 64) n
def shaSt (s:List UInt8):St8:=(blocksN (padded s) ((padded s).length / 64)).foldl stepS initS
def digW (l:List W32):List Nat:=(List.range 32).map fun i=>((l.getD (i / 4) 0).toNat / 2^(24-8*(i % 4))) % 256
def sha (s:List UInt8):List Nat:=digW (shaSt s).list
@[simp] theorem sha_len (s:List UInt8):(sha s).length=32:=by simp [sha,digW]
theorem sha_byt (s:List UInt8):∀x∈sha s,x<256:=by
 intro x hx
 unfold sha digW at hx
 obtain ⟨i,_,rfl⟩:=List.mem_map.1 hx
 exact Nat.mod_lt _ (by decide)
end Go.Proofs.Ev
