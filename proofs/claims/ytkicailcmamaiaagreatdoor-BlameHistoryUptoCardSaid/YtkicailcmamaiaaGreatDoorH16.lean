/- Part 16 of the proof that quiltlaw38.BlameHistory returns true: no statement of its own. -/
import Derived.Test.YtkicailcmamaiaaGreatDoorH15
set_option linter.all false
namespace Go.Proofs.Ev
open Go.Proofs
variable {C:bD}
def p6 (d:List Nat):SX:=bO (qP d)
def Fk (c:aW):SX:=fp (fR c.kind::gn c) .loose
def gx (p:aA):SX:=fp [bO [113,117,105,108,116,49],bO p.author,bO p.message,fR p.time,fp (p.deps.map fun d=>p6 d.d) (gO p.deps),fp (p.changes.map Fk) (gO p.changes)] .exact
structure aA.OkP (p:aA):Prop where
 deps:p.deps.length≤2^20
 changesN:p.changes.length≤2^20
 changes:∀c∈p.changes,c.Ok2∧1≤c.kind∧c.kind≤7
 nodes:(gx p).nodes≤2^26
theorem DL (c:aW):gn c≠[]:=by unfold gn;repeat' split
                              all_goals simp
def yY (p:aA) (H:ae) (v0 v1:AV) (J:ae) (s:Sl) (H':ae):Prop:=s 1=.ptr H.length 0 5 0 0∧s 4=.ptr (H.length+3) 0 3 0 0∧s 5=.ptr (H.length+4) 0 3 0 0∧H'=H++.rows 5 0 [p.cells]::.rows 3 0 [[.bool true,.str [],.nils]]::.rows 3 0 [[.bool true,.str [],.nils]]::.rows 3 0 [[.bool true,.str [],v0]]::.rows 3 0 [[.bool true,.str [],v1]]::J
def Kz (p:aA) (H:ae) (i:Nat) (v:AV) (J:ae):Prop:=aQ (H.length+5) 3 J v (((p.deps.take i).map fun d=>p6 d.d).map SX.cells)∧(i=0→v=.nils)∧(v=.nils∨∃b g l,v=.sl b g 3 0 l)
theorem xI {α β:Type} {f:α→Option β}:∀{l:List α} {r:List β},l.length=r.length→(∀(j:Nat) (h:j<l.length) (h':j<r.length),f l[j]=some r[j])→l.mapM f=some r
 | [],[],_,_=>rfl
 | [],_::_,h,_=>by simp at h
 | _::_,[],h,_=>by simp at h
 | x::l,y::r,h,hf=>by
  rw [List.mapM_cons,show f x=some y from hf 0 (by simp) (by simp),xI (l:=l) (r:=r) (by simpa using h) fun j h1 h2=>hf (j+1) (by simp;omega) (by simp;omega)];rfl
def FW (p:aA) (H J0:ae) (i:Nat) (v:AV) (J:ae) (rows:List (List AV)):Prop:=aQ (H.length+6+J0.length) 3 J v rows∧(i=0→v=.nils)∧(v=.nils∨∃b g l,v=.sl b g 3 0 l)∧rows.length=i∧
 ∀(j:Nat) (hj:j<i),∃(c:aW) (b g:Nat),p.changes[j]?=some c∧rows[j]?=some [.bool true,.str [],.sl (H.length+6+J0.length+b) g 3 0 ((gn c).length+1)]∧J[b]?=some (.rows 3 g ((fR c.kind::gn c).map SX.cells))∧∀g' l,v≠.sl (H.length+6+J0.length+b) g' 3 0 l
set_option maxRecDepth 100000 in
set_option maxHeartbeats 2000000 in
theorem yZ (S:bN C) (p:aA) (hp:p.OkP):∀H:ae,dU Tryz.prog C H.length 197 [.agg p.cells] H fun r H'=>aI H' H.length 3 r=some (.tup [.str (if oV (gx p)=0 then (gx p).enc else []),.int .i64 (oV (gx p))]):=by
 have main:∀H:ae,dU Tryz.prog C H.length 197 [.agg p.cells] H fun r H'=>aI H' H.length 3 r=some (.tup [.str (if oV (gx p)=0 then (gx p).enc else []),.int .i64 (oV (gx p))]):=by
  intro H
  refine aj Tryz.func197 rfl (S.prim _ (by decide)) (by simp) (by kernel_rfl) ?_
  unfold Tryz.f197
  have g2:=fun n=>(eS S n).eq
  have g3:=fun s=>(fL S s).eq
  have e3:=fun v hv hc (H':ae) hb K=>nA (C:=C) S v hv hc (base:=H.length) (H:=H') hb K
  have l1:=fun K=>e3 .nils rfl rfl (H++[.rows 5 0 [p.cells]]) (by simp) K
  have l2:=fun K=>e3 .nils rfl rfl (H++[.rows 5 0 [p.cells],.rows 3 0 [[.bool true,.str [],.nils]]]) (by simp) K
  refine cut (fun s H'=>s 1=.ptr H.length 0 5 0 0∧H'=H++[.rows 5 0 [p.cells]]) ?_ ?_
  ·simp [aE]
  rintro s H' ⟨e1,rfl⟩
  simp only [List.append_assoc,List.cons_append,List.nil_append] at l1 l2
  refine cut (yY p H .nils .nils []) ?_ ?_
  ·simp [e1,l1,l2,ao,aD,yY]
  rintro s H' ⟨e1,e4,e5,rfl⟩
  refine cut (fun s H'=>∃v J,Kz p H p.deps.length v J∧yY p H v .nils J s H') ?_ ?_
  ·simp [e1,e4,e5]
   refine ay p.deps.length (fun i s H'=>s 15=am p.depsK (p.deps.map ar.cells)∧s 16=.int .i64 p.deps.length∧s 17=.int .i64 i∧∃v J,Kz p H i v J∧yY p H v .nils J s H') ?_ ?_
   ·exact ⟨rfl,rfl,rfl,.nils,[],⟨.nils,fun _=>rfl,.inl rfl⟩,e1,e4,e5,rfl⟩
   rintro i s H' ⟨q15,q16,q17,v,J,⟨hg,hz,hk⟩,e1,e4,e5,rfl⟩ hi
   by_cases h:i<p.deps.length
   ·have hd:=hp.deps
    have hbd:=mi p.deps[i].d
    obtain ⟨v',J',ha,hg',hl'⟩:=pQ (H0:=H) (Z:=H++[.rows 5 0 [p.cells],.rows 3 0 [[.bool true,.str [],.nils]],.rows 3 0 [[.bool true,.str [],.nils]],.rows 3 0 [[.bool true,.str [],v]],.rows 3 0 [[.bool true,.str [],.nils]]]) (by simp) (by simp) (y:=p6 p.deps[i].d) (hg.app [.rows 32 0 [p.deps[i].cells]]) (by simp;omega)
    have et:(p.deps.take (i+1)).map (fun d=>p6 d.d)=(p.deps.take i).map (fun d=>p6 d.d)++[p6 p.deps[i].d]:=by
     rw [List.take_add_one,List.getElem?_eq_getElem h,List.map_append];rfl
    have hdl:p.deps[i].cells=dig p.deps[i].d:=rfl
    have h32:p.deps[i].d.length=32:=p.deps[i].h
    have hd0:aJ.length=32:=by decide
    have ht:List.take 32 (dig p.deps[i].d)=dig p.deps[i].d:=List.take_of_length_le (by simp [dig,h32])
    have CG:List.drop 32 (dig aJ)=[]:=by decide
    have hlf:∀x∈dig p.deps[i].d,x.leaf=true:=by intro x hx;obtain ⟨n,_,rfl⟩:=List.mem_map.1 hx;rfl
    simp [hdl,p6] at ha
    simp [e1,e4,e5,q15,q16,q17,h,g3,hdl,ah,aq,ao,aD,dw,bH,bn,cg,gd,hbd,ha,h32,hd0,ht,CG,hlf,au h (by omega)]
    rw [aL (h:=by kernel_rfl)]
    simp [e1,e4,e5,q15,q16,q17,ao,aD,hg'.leafv,hg'.cellv]
    rw [aL (h:=by kernel_rfl)]
    simp [e1,e4,e5,q15,q16,q17,au h (by omega)]
    rw [←et] at hg'
    exact ⟨h,v',J',⟨hg',fun h0=>by omega,.inr hl'⟩,e1,e4,e5,rfl⟩
   ·have h':i=p.deps.length:=by omega
    subst h'
    simp [e1,e4,e5,q15,q16,q17]
    exact ⟨v,J,⟨hg,hz,hk⟩,e1,e4,e5,rfl⟩
  rintro s H' ⟨v0,J0,⟨hg0,hz0,hk0⟩,e1,e4,e5,rfl⟩
  have ef:=fun K=>DM S (base:=H.length) (H:=H++.rows 5 0 [p.cells]::.rows 3 0 [[.bool true,.str [],.nils]]::.rows 3 0 [[.bool true,.str [],.nils]]::.rows 3 0 [[.bool true,.str [],v0]]::.rows 3 0 [[.bool true,.str [],.nils]]::J0) (by simp) K
  refine cut (fun s H'=>s 8=.map (H.length+(J0.length+5))∧yY p H v0 .nils (J0++[.map pF]) s H') ?_ ?_
  ·simp at ef
   simp [e1,e4,e5,ef,yY]
  rintro s H' ⟨e8,e1,e4,e5,rfl⟩
  refine cut (fun s H'=>∃v J rows,FW p H J0 p.changes.length v J rows∧yY p H v0 v (J0++.map pF::J) s H') ?_ ?_
  ·simp [e1,e4,e5,e8]
   refine ay p.changes.length (fun i s H'=>s 8=.map (H.length+(J0.length+5))∧s 32=am p.changesK (p.changes.map aW.cells)∧s 33=.int .i64 p.changes.length∧s 34=.int .i64 i∧∃v J rows,FW p H J0 i v J rows∧yY p H v0 v (J0++.map pF::J) s H') ?_ ?_
   ·exact ⟨e8,rfl,rfl,rfl,.nils,[],[],⟨.nils,fun _=>rfl,.inl rfl,rfl,fun j hj=>by omega⟩,e1,e4,e5,rfl⟩
   rintro i s H' ⟨e8,q32,q33,q34,v,J,rows,⟨hg,hz,hk,hrl,hrows⟩,e1,e4,e5,rfl⟩ hi
   by_cases h:i<p.changes.length
   ·obtain ⟨c,hc⟩:∃c,c=p.changes[i]:=⟨_,rfl⟩
    obtain ⟨hc1,hc2,hc3⟩:=hp.changes _ (List.getElem_mem h)
    rw [←hc] at hc1 hc2 hc3
    have ff:=(B9 S c hc1).eq
    have lk:∀L:ae,cU Tryz.prog C (H++.rows 5 0 [p.cells]::.rows 3 0 [[.bool true,.str [],.nils]]::.rows 3 0 [[.bool true,.str [],.nils]]::.rows 3 0 [[.bool true,.str [],v0]]::.rows 3 0 [[.bool true,.str [],v]]::(J0++.map pF::L)) 339 (.map (H.length+(J0.length+5))) (.int .i64 c.kind) false=some (.fn (tP c.kind) []):=fun L=>GM (by rw [bq];simp [bq]) hc2 hc3
    obtain ⟨num,hnum⟩:∃num,num=(fR c.kind).cells:=⟨_,rfl⟩
    have l3:=fun K=>e3 (.lst [num] true) rfl rfl (H++.rows 5 0 [p.cells]::.rows 3 0 [[.bool true,.str [],.nils]]::.rows 3 0 [[.bool true,.str [],.nils]]::.rows 3 0 [[.bool true,.str [],v0]]::.rows 3 0 [[.bool true,.str [],v]]::(J0++.map pF::(J++[.rows 139 0 [c.cells]]))) (by simp) K
    simp only [List.append_assoc,List.cons_append,List.nil_append] at l3
    have hcn:=hp.changesN
    have hn3:num.length=3:=by rw [hnum];simp
    have hnl:∀x∈num,x.leaf=true:=by intro x hx;rw [hnum] at hx;exact List.all_eq_true.1 (SX.leafs (fR c.kind)) x hx
    have hfl:(gn c).length≤4:=by unfold gn;repeat' split
                                 all_goals simp
    obtain ⟨b,g,J1,ha1,hb1,_,_⟩:=aQ.append (P:=Tryz.prog) (base:=H.length) (Z:=H++.rows 5 0 [p.cells]::.rows 3 0 [[.bool true,.str [],.nils]]::.rows 3 0 [[.bool true,.str [],.nils]]::.rows 3 0 [[.bool true,.str [],v0]]::.rows 3 0 [[.bool true,.str [],v]]::(J0++.map pF::(J++[.rows 139 0 [c.cells],.rows 3 0 [[.bool true,.str [],.lst [num] true]],.rows 3 0 [[.bool true,.str [],.lst [num] true]]]))) (J:=[]) (e:=263) (e':=263) (ts:=#[261,261]) (v:=.lst [num] true) (rows:=[num]) (ys:=(gn c).map SX.cells) (x:=(am .exact ((gn c).map SX.cells)).denil) (by simp) (by simp) se tf (by simp) (by decide) (by simp) (.lst [num]) (by simp [hn3]) (lR .exact _) (by simp) (by simpa using DL c) (by simp;omega)
    rw [List.append_nil] at ha1
    have hden:(AV.lst [num] true).denil=.lst [num] true:=rfl
    rw [hden] at ha1
    simp only [List.append_assoc,List.cons_append,List.nil_append] at ha1
    simp only [List.length_append,List.length_cons,List.length_nil,List.length_map] at ha1
    obtain ⟨N,hN⟩:∃N,N=H.length+(J0.length+(J.length+(0+1+1+1)+1)+1+1+1+1+1)+b:=⟨_,rfl⟩
    rw [←hN] at ha1
    simp [e1,e4,e5,e8,q32,q33,q34,h,←hc,g2,←hnum,l3,hn3,hnl,ah,aq,ao,aD,lk,ff,ha1,au h (by omega)]
    rw [aL (h:=by kernel_rfl)]
    simp [e1,e4,e5,e8,q32,q33,q34,ao,aD]
    rw [aL (h:=by kernel_rfl)]
    have hrr:∀r∈rows,r.length=3:=by
     intro r hr
     obtain ⟨j,hj,rfl⟩:=List.getElem_of_mem hr
     obtain ⟨c',b',g',_,h2,_⟩:=hrows j (by omega)
     rw [List.getElem?_eq_getElem hj] at h2
     rw [Option.some.inj h2];rfl
    obtain ⟨m,hm⟩:∃m,m=1+(gn c).length:=⟨_,rfl⟩
    rw [←hm]
    obtain ⟨b2,g2',J4,ha2,hb2,hold,hdis⟩:=aQ.append (P:=Tryz.prog) (base:=H.length) (Z:=H++.rows 5 0 [p.cells]::.rows 3 0 [[.bool true,.str [],.nils]]::.rows 3 0 [[.bool true,.str [],.nils]]::.rows 3 0 [[.bool true,.str [],v0]]::.rows 3 0 [[.bool true,.str [],v]]::(J0++[.map pF])) (J:=J++.rows 139 0 [c.cells]::.rows 3 0 [[.bool true,.str [],.lst [num] true]]::.rows 3 0 [[.bool true,.str [],.sl N g 3 0 m]]::J1) (e:=263) (e':=263) (ts:=#[261,261]) (v:=v) (rows:=rows) (ys:=[[.bool true,.str [],.sl N g 3 0 m]]) (x:=.lst [[.bool true,.str [],.sl N g 3 0 m]] true) (by simp) (by simp) se tf (by simp) (by decide) (by simp) (by have:=hg.app (.rows 139 0 [c.cells]::.rows 3 0 [[.bool true,.str [],.lst [num] true]]::.rows 3 0 [[.bool true,.str [],.sl N g 3 0 m]]::J1);simpa [Nat.add_assoc,Nat.add_comm,Nat.add_left_comm] using this) hrr rfl (by simp) (by simp) (by simp;omega)
    have hZl:(H++bL.rows 5 0 [p.cells]::bL.rows 3 0 [[.bool true,.str [],.nils]]::bL.rows 3 0 [[.bool true,.str [],.nils]]::bL.rows 3 0 [[.bool true,.str [],v0]]::bL.rows 3 0 [[.bool true,.str [],v]]::(J0++[bL.map pF])).length=H.length+6+J0.length:=by simp;omega
    rw [hZl] at ha2 hdis
    rw [hrl] at ha2
    simp only [List.append_assoc,List.cons_append,List.nil_append,List.length_cons,List.length_nil,Nat.zero_add] at ha2
    obtain ⟨v',hv'⟩:∃v',v'=AV.sl (H.length+6+J0.length+b2) g2' 3 0 (i+1):=⟨_,rfl⟩
    rw [←hv'] at ha2
    have hvl:v'.leaf=true:=by rw [hv'];rfl
    have hvc:v'.cells=[v']:=by rw [hv'];rfl
    have hJ1:b<J1.length:=(List.getElem?_eq_some_iff.1 hb1).1
    have hchg:FW p H J0 (i+1) v' J4 (rows++[[.bool true,.str [],.sl N g 3 0 m]]):=by
     refine ⟨.inr (.inr ⟨b2,g2',by rw [hv'];simp [hrl],hb2⟩),fun h0=>by omega,.inr ⟨_,_,_,hv'⟩,by simp [hrl],fun j hj=>?_⟩
     by_cases hji:j<i
     ·obtain ⟨c',b',g3',h1,h2,h3,h4⟩:=hrows j hji
      have hb'lt:b'<J.length:=(List.getElem?_eq_some_iff.1 h3).1
      have hne:b'≠b2:=by
       rintro rfl
       rcases hdis with ⟨g',l',hd⟩ | hd
       ·exact h4 _ _ hd
       ·simp at hd;omega
      refine ⟨c',b',g3',h1,by rw [List.getElem?_append_left (by omega)];exact h2,?_,fun g' l=>?_⟩
      ·rw [hold b' hne (by simp;omega),List.getElem?_append_left hb'lt];exact h3
      ·rw [hv'];intro he;injection he with he1;omega
     ·have hji:j=i:=by omega
      subst hji
      have hb2ne:J.length+(3+b)≠b2:=by
       intro hq
       rcases hdis with ⟨g',l',hd⟩ | hd
       ·rcases hg with ⟨_,h6⟩ | h6 | ⟨b6,g6,h6,hb6⟩
        ·rw [hd] at h6;cases h6
        ·rw [hd] at h6;cases h6
        ·rw [hd] at h6;injection h6 with h7
         have:=(List.getElem?_eq_some_iff.1 hb6).1
         omega
       ·simp at hd;omega
      refine ⟨c,J.length+(3+b),g,by rw [hc,List.getElem?_eq_getElem h],?_,?_,fun g' l=>?_⟩
      ·rw [List.getElem?_append_right (by omega),hrl,Nat.sub_self,hN,hm]
       simp;omega
      ·rw [hold _ hb2ne (by simp;omega),bq,Nat.add_comm 3 b]
       simp only [List.getElem?_cons_succ]
       rw [hb1,List.map_cons,←hnum];rfl
      ·rw [hv'];intro he;injection he with he1;omega
    simp [e1,e4,e5,e8,q32,q33,q34,ao,aD,ah,aq,ha2,hvl,hvc]
    exact ⟨hnl,h,au h (by omega),v',J4,⟨_,hchg⟩,e1,e4,e5,rfl⟩
   ·have h':i=p.changes.length:=by omega
    subst h'
    simp [e1,e4,e5,e8,q32,q33,q34]
    exact ⟨v,J,⟨rows,hg,hz,hk,hrl,hrows⟩,e1,e4,e5,rfl⟩
  rintro s H' ⟨v1,J,rows,⟨hg,hz,hk,hrl,hrows⟩,e1,e4,e5,rfl⟩
  have f0:=fun L=>hg0.freezeN (L:=L) (Z:=H++[.rows 5 0 [p.cells],.rows 3 0 [[.bool true,.str [],.nils]],.rows 3 0 [[.bool true,.str [],.nils]],.rows 3 0 [[.bool true,.str [],v0]],.rows 3 0 [[.bool true,.str [],v1]]]) (k:=0) (d:=3) (by simp) (by simp) (fun h0=>hz0 (by simpa using h0)) hk0
  have f1:∀L:ae,aI (H++.rows 5 0 [p.cells]::.rows 3 0 [[.bool true,.str [],.nils]]::.rows 3 0 [[.bool true,.str [],.nils]]::.rows 3 0 [[.bool true,.str [],v0]]::.rows 3 0 [[.bool true,.str [],v1]]::(J0++.map pF::(J++L))) 0 4 v1=some (am (gO p.changes) ((p.changes.map Fk).map SX.cells)):=by
   intro L
   by_cases hc0:p.changes=[]
   ·rw [hz (by simp [hc0]),hc0];rfl
   ·have hget:∀(b:Nat) (blk:bL),J[b]?=some blk→(H++.rows 5 0 [p.cells]::.rows 3 0 [[.bool true,.str [],.nils]]::.rows 3 0 [[.bool true,.str [],.nils]]::.rows 3 0 [[.bool true,.str [],v0]]::.rows 3 0 [[.bool true,.str [],v1]]::(J0++.map pF::(J++L)))[H.length+6+J0.length+b]?=some blk:=by
     intro b blk hb
     rw [show H.length+6+J0.length+b=H.length+(J0.length+(b+1)+5) by omega,bq]
     simp only [List.getElem?_cons_succ]
     rw [bq]
     simp only [List.getElem?_cons_succ]
     rw [List.getElem?_append_left (List.getElem?_eq_some_iff.1 hb).1];exact hb
    have hrf:rows.mapM (fun r:List AV=>r.mapM (aI (H++.rows 5 0 [p.cells]::.rows 3 0 [[.bool true,.str [],.nils]]::.rows 3 0 [[.bool true,.str [],.nils]]::.rows 3 0 [[.bool true,.str [],v0]]::.rows 3 0 [[.bool true,.str [],v1]]::(J0++.map pF::(J++L))) 0 3))=some ((p.changes.map Fk).map SX.cells):=by
     refine xI (by simp [hrl]) fun j h1 h2=>?_
     obtain ⟨c',b',g',hc',h4,h5,_⟩:=hrows j (by omega)
     rw [List.getElem?_eq_getElem h1] at h4
     have hcj:j<p.changes.length:=by omega
     rw [List.getElem?_eq_getElem hcj] at hc'
     rw [Option.some.inj h4]
     have hfs:=dW (k:=0) (d:=2) (hget b' _ h5) (by omega) (aH SX.closed _)
     rw [List.length_map,List.length_cons] at hfs
     simp only [List.getElem_map,Option.some.inj hc',Fk,cS,List.mapM_cons,List.mapM_nil,js,kc,hfs]
     rfl
    rcases hk with hk | ⟨b,g,l,hk⟩
    ·rcases hg with ⟨h6,_⟩ | h6 | ⟨b6,g6,h6,hb6⟩
     ·rw [h6] at hrl;exact absurd (List.length_eq_zero_iff.1 hrl.symm) hc0
     ·rw [hk] at h6;cases h6
     ·rw [hk] at h6;cases h6
    ·rcases hg with ⟨_,h6⟩ | h6 | ⟨b6,g6,h6,hb6⟩
     ·rw [hk] at h6;cases h6
     ·rw [hk] at h6;cases h6
     ·refine ((congrArg (aI _ 0 4) h6).trans (pb (hget b6 _ hb6) (Nat.zero_le _) hrf)).trans ?_
      cases hq:p.changes with
      | nil=>exact absurd hq hc0
      | cons a l=>rfl
  have l3:=fun v hv hc (H':ae) hb K=>nA (C:=C) S v hv hc (base:=H.length) (H:=H') hb K
  simp [e1,e4,e5,g2,g3,hg0.leafv,hg.leafv,hg0.cellv,hg.cellv,ah,aq]
  rw [l3 _ (by simp) (by simp) _ (by simp),aL (h:=by kernel_rfl)]
  simp
  rw [(BU S.tod4 (gx p) hp.nodes).eq]
  ·simp
   simp [ak,AV.closed,AV.closeds]
  ·have k1:gO (p.deps.map fun d=>p6 d.d)=gO p.deps:=by unfold gO;simp
   have htk:p.deps.take p.deps.length=p.deps:=List.take_length
   rw [htk] at f0
   rw [k1] at f0
   obtain ⟨BB,hBB⟩:∃BB:bL,BB=.rows 3 0 [[.bool true,.str [],.lst [(bO [113,117,105,108,116,49]).cells,(bO p.author).cells,(bO p.message).cells,(fR p.time).cells,[.bool true,.str [],v0],[.bool true,.str [],v1]] true]]:=⟨_,rfl⟩
   rw [←hBB]
   have f0':=f0 (.map pF::(J++[BB]))
   have f1':=f1 [BB]
   simp only [List.append_assoc,List.cons_append,List.nil_append] at f0' f1' ⊢
   rw [List.mapM_cons,List.mapM_nil,je (ws:=(gx p).cells)]
   ·rfl
   rw [gx,cS]
   simp only [List.mapM_cons,List.mapM_nil,js,kc]
   rw [ud (qs:=[bO [113,117,105,108,116,49],bO p.author,bO p.message,fR p.time,fp (p.deps.map fun d=>p6 d.d) (gO p.deps),fp (p.changes.map Fk) (gO p.changes)].map SX.cells)]
   ·rfl
   simp only [List.mapM_cons,List.mapM_nil,List.map_cons,List.map_nil,dq (SX.closed _),cS,js,kc,f0',f1']
   rfl
 exact main
end Go.Proofs.Ev
namespace Go.Proofs.Ev
open Go.Proofs
variable {C:bD}
theorem nn (l:List SX) (k:SK):(fp l k).enc=40::SX.encs l++[41]:=rfl
theorem tK {α:Type} {f g:α→SX}:∀{l:List α},(∀x∈l,(f x).enc=(g x).enc)→SX.encs (l.map f)=SX.encs (l.map g)
 | [],_=>rfl
 | x::l,h=>by
  rw [List.map_cons,List.map_cons,SX.encs,SX.encs,h x (by simp),tK fun y hy=>h y (by simp [hy])]
theorem Gc (l:List aC):(jE l).enc=(nF l).enc:=rfl
theorem DJ (l:List (List UInt8)):(ny l).enc=(nz l).enc:=rfl
theorem LC (c:aW) (h1:1≤c.kind) (h2:c.kind≤7):(Fk c).enc=(lq c).enc:=by
 have h:SX.encs (fR c.kind::gn c)=SX.encs (kH c):=by
  have hk:c.kind=1∨c.kind=2∨c.kind=3∨c.kind=4∨c.kind=5∨c.kind=6∨c.kind=7:=by omega
  rcases hk with hk | hk | hk | hk | hk | hk | hk<;>simp [gn,kH,mO,jH,yM,hk,SX.encs,Gc,DJ]
 rw [Fk,lq,nn,nn,h]
theorem Gd (p:aA) (hd:∀d∈p.deps,bz d.d=false) (hc:∀c∈p.changes,1≤c.kind∧c.kind≤7):(gx p).enc=(dC p).enc:=by
 have e1:SX.encs (p.deps.map fun d=>p6 d.d)=SX.encs (p.deps.map fun d=>jB d.d):=tK fun d h=>by rw [p6,jB,hd d h];rfl
 have e2:SX.encs (p.changes.map Fk)=SX.encs (p.changes.map lq):=tK fun c h=>LC c (hc c h).1 (hc c h).2
 rw [gx,dC,nn,nn]
 simp only [SX.encs,nn,e1,e2]
def j4 (c:UInt8):Bool:=!(decide (c.toNat<97)||decide (122<c.toNat))||!(decide (c.toNat<65)||decide (90<c.toNat))||!(decide (c.toNat<48)||decide (57<c.toNat))||decide (c.toNat=46)||decide (c.toNat=95)||decide (c.toNat=45)
def nC (s:List UInt8):Bool:=s.all j4&&!s.isEmpty&&decide (s.length≤40)&&s != [46]&&s != [46,46]
structure fZ (C:bD):Prop extends bN C where
 pureG:∀f,f∈[277,197]→C.pure f=true
theorem Hf (S:fZ C) (p:aA) (hp:p.OkP):b8 Tryz.prog C 197 [] [.agg p.cells] (.tup [.str (if oV (gx p)=0 then (gx p).enc else []),.int .i64 (oV (gx p))]) :=
 aw (S.pureG _ (by decide)) fun H=>yZ S.tobN p hp H
theorem uI (S:fZ C) (s:List UInt8) (hs:s.length≤2^40):b8 Tryz.prog C 277 [] [.str s] (.bool (nC s)):=by
 refine aw (S.pureG _ (by decide)) fun H=>aj Tryz.func277 rfl (S.prim _ (by decide)) (by simp) (by kernel_rfl) ?_
 unfold Tryz.f277
 have hn:nC s=(s.all j4&&(!s.isEmpty&&decide (s.length≤40)&&s != [46]&&s != [46,46])):=by unfold nC;simp only [Bool.and_assoc]
 rw [hn]
 refine cut (fun t H'=>t 0=.str s∧H'=H) ?_ ?_
 ·simp [aE]
 rintro t H' ⟨q0,hH⟩
 refine cut (fun t H''=>s.all j4=true∧t 0=.str s∧H''=H) ?_ ?_
 ·simp [q0,hH]
  refine ay s.length (fun i t H''=>(s.take i).all j4=true∧t 0=.str s∧t 6=.int .i64 s.length∧t 7=.int .i64 i∧H''=H) ?_ ?_
  ·exact ⟨by simp,q0,rfl,rfl,rfl⟩
  rintro i t H'' ⟨ha,q0,q6,q7,hH⟩ hi
  subst hH
  by_cases h:i<s.length
  ·have et:s.take (i+1)=s.take i++[s[i]]:=by rw [List.take_add_one,List.getElem?_eq_getElem h];rfl
   have fin:∀b,j4 s[i]=b→(b=true→(s.take (i+1)).all j4=true)∧(b=false→s.all j4=false):=fun b hb=>⟨fun h1=>by
    rw [et,List.all_append,ha];simp [hb,h1],fun h1=>by
    rw [←List.take_append_drop (i+1) s,List.all_append,et,List.all_append];simp [hb,h1]⟩
   unfold j4 at fin
   generalize hnn:s[i].toNat=n at fin
   have cs:(n<48∧n=46)∨(n<48∧n=45)∨(n<48∧n≠46∧n≠45)∨(48≤n∧n≤57)∨(58≤n∧n≤64)∨(65≤n∧n≤90)∨(91≤n∧n≤96∧n=95)∨(91≤n∧n≤96∧n≠95)∨(97≤n∧n≤122)∨(123≤n):=by omega
   rcases cs with hc | hc | hc | hc | hc | hc | hc | hc | hc | hc
   ·simp [q0,q6,q7,h,hnn,an,show (n:Int)<97 by omega,show ¬((122:Int)<n) by omega,show (n:Int)<65 by omega,show ¬((90:Int)<n) by omega,show (n:Int)<48 by omega,show ¬((57:Int)<n) by omega,show ((n:Int) != 46)=false by simp;omega,show ((n:Int) != 95)=true by simp;omega,show ((n:Int) != 45)=true by simp;omega,au h (by omega)]
    exact List.all_eq_true.1 ((fin _ rfl).1 (by simp;omega))
   ·simp [q0,q6,q7,h,hnn,an,show (n:Int)<97 by omega,show ¬((122:Int)<n) by omega,show (n:Int)<65 by omega,show ¬((90:Int)<n) by omega,show (n:Int)<48 by omega,show ¬((57:Int)<n) by omega,show ((n:Int) != 46)=true by simp;omega,show ((n:Int) != 95)=true by simp;omega,show ((n:Int) != 45)=false by simp;omega,au h (by omega)]
    exact List.all_eq_true.1 ((fin _ rfl).1 (by simp;omega))
   ·simp [q0,q6,q7,h,hnn,an,show (n:Int)<97 by omega,show ¬((122:Int)<n) by omega,show (n:Int)<65 by omega,show ¬((90:Int)<n) by omega,show (n:Int)<48 by omega,show ¬((57:Int)<n) by omega,show ((n:Int) != 46)=true by simp;omega,show ((n:Int) != 95)=true by simp;omega,show ((n:Int) != 45)=true by simp;omega,au h (by omega)]
    intro hall
    have h1:s.all j4=false:=(fin _ rfl).2 (by simp;omega)
    rw [List.all_eq_true.2 hall] at h1
    cases h1
   ·simp [q0,q6,q7,h,hnn,an,show (n:Int)<97 by omega,show ¬((122:Int)<n) by omega,show (n:Int)<65 by omega,show ¬((90:Int)<n) by omega,show ¬((n:Int)<48) by omega,show ¬((57:Int)<n) by omega,show ((n:Int) != 46)=true by simp;omega,show ((n:Int) != 95)=true by simp;omega,show ((n:Int) != 45)=true by simp;omega,au h (by omega)]
    exact List.all_eq_true.1 ((fin _ rfl).1 (by simp;omega))
   ·simp [q0,q6,q7,h,hnn,an,show (n:Int)<97 by omega,show ¬((122:Int)<n) by omega,show (n:Int)<65 by omega,show ¬((90:Int)<n) by omega,show ¬((n:Int)<48) by omega,show (57:Int)<n by omega,show ((n:Int) != 46)=true by simp;omega,show ((n:Int) != 95)=true by simp;omega,show ((n:Int) != 45)=true by simp;omega,au h (by omega)]
    intro hall
    have h1:s.all j4=false:=(fin _ rfl).2 (by simp;omega)
    rw [List.all_eq_true.2 hall] at h1
    cases h1
   ·simp [q0,q6,q7,h,hnn,an,show (n:Int)<97 by omega,show ¬((122:Int)<n) by omega,show ¬((n:Int)<65) by omega,show ¬((90:Int)<n) by omega,show ¬((n:Int)<48) by omega,show (57:Int)<n by omega,show ((n:Int) != 46)=true by simp;omega,show ((n:Int) != 95)=true by simp;omega,show ((n:Int) != 45)=true by simp;omega,au h (by omega)]
    exact List.all_eq_true.1 ((fin _ rfl).1 (by simp;omega))
   ·simp [q0,q6,q7,h,hnn,an,show (n:Int)<97 by omega,show ¬((122:Int)<n) by omega,show ¬((n:Int)<65) by omega,show (90:Int)<n by omega,show ¬((n:Int)<48) by omega,show (57:Int)<n by omega,show ((n:Int) != 46)=true by simp;omega,show ((n:Int) != 95)=false by simp;omega,show ((n:Int) != 45)=true by simp;omega,au h (by omega)]
    exact List.all_eq_true.1 ((fin _ rfl).1 (by simp;omega))
   ·simp [q0,q6,q7,h,hnn,an,show (n:Int)<97 by omega,show ¬((122:Int)<n) by omega,show ¬((n:Int)<65) by omega,show (90:Int)<n by omega,show ¬((n:Int)<48) by omega,show (57:Int)<n by omega,show ((n:Int) != 46)=true by simp;omega,show ((n:Int) != 95)=true by simp;omega,show ((n:Int) != 45)=true by simp;omega,au h (by omega)]
    intro hall
    have h1:s.all j4=false:=(fin _ rfl).2 (by simp;omega)
    rw [List.all_eq_true.2 hall] at h1
    cases h1
   ·simp [q0,q6,q7,h,hnn,an,show ¬((n:Int)<97) by omega,show ¬((122:Int)<n) by omega,show ¬((n:Int)<65) by omega,show (90:Int)<n by omega,show ¬((n:Int)<48) by omega,show (57:Int)<n by omega,show ((n:Int) != 46)=true by simp;omega,show ((n:Int) != 95)=true by simp;omega,show ((n:Int) != 45)=true by simp;omega,au h (by omega)]
    exact List.all_eq_true.1 ((fin _ rfl).1 (by simp;omega))
   ·simp [q0,q6,q7,h,hnn,an,show ¬((n:Int)<97) by omega,show (122:Int)<n by omega,show ¬((n:Int)<65) by omega,show (90:Int)<n by omega,show ¬((n:Int)<48) by omega,show (57:Int)<n by omega,show ((n:Int) != 46)=true by simp;omega,show ((n:Int) != 95)=true by simp;omega,show ((n:Int) != 45)=true by simp;omega,au h (by omega)]
    intro hall
    have h1:s.all j4=false:=(fin _ rfl).2 (by simp;omega)
    rw [List.all_eq_true.2 hall] at h1
    cases h1
  ·have h':i=s.length:=by omega
   subst h'
   rw [List.take_length] at ha
   simp [q0,q6,q7]
   exact List.all_eq_true.1 ha
 rintro t H'' ⟨ha,q0,hH⟩
 rw [ha]
 by_cases hs0:s=[]
 ·subst hs0
  simp [q0,an]
 have b0:s.isEmpty=false:=by cases s with | nil=>exact absurd rfl hs0 | cons=>rfl
 by_cases h40:s.length≤40
 ·have h40':(s.length:Int)≤40:=by omega
  by_cases hd1:s=[46]
  ·subst hd1
   simp [q0,an]
  ·have c1:(s==[46])=false:=by simpa using hd1
   by_cases hd2:s=[46,46]
   ·subst hd2
    simp [q0,an]
   ·have c2:(s==[46,46])=false:=by simpa using hd2
    simp [q0,an,b0,h40,h40',c1,c2]
    exact ⟨hd1,hd2⟩
 ·have h40':¬(s.length:Int)≤40:=by omega
  simp [q0,an,b0,h40,h40']
end Go.Proofs.Ev
namespace Go.Proofs.Ev
open Go.Proofs
variable {C:bD}
structure jV (C:bD):Prop extends fZ C where
 cmpB:∀{base:Nat} {H:ae} {a b:AV} {x y:List Nat},x.length=y.length→(∀n∈x,n<256)→(∀n∈y,n<256)→cg H a.denil=some ((dig x).map fun c=>[c])→cg H b.denil=some ((dig y).map fun c=>[c])→∀K:AV→ae→Prop,
  aF Tryz.prog C base (.fn 137 []) [a,b] H K=K (.int .i64 (bQ x y)) H
 pureH:∀f,f∈[81,193]→C.pure f=true
theorem Hb (S:jV C) (x y:ar):b8 Tryz.prog C 81 [] [.agg x.cells,.agg y.cells] (.int .i64 (bQ x.d y.d)):=by
 refine aw (S.pureH _ (by decide)) fun H=>aj Tryz.func81 rfl (S.prim _ (by decide)) (by simp) (by kernel_rfl) ?_
 unfold Tryz.f81
 have hx:x.d.length=32:=x.h
 have hy:y.d.length=32:=y.h
 have e1:=S.cmpB (base:=H.length) (H:=H++[.rows 32 0 [dig x.d],.rows 32 0 [dig y.d]]) (a:=.asl H.length 0 32 0 0 32) (b:=.asl (H.length+1) 0 32 0 0 32) (x:=x.d) (y:=y.d) (by rw [hx,hy]) x.b y.b (by simp [AV.denil,cg,hx,List.take_of_length_le]) (by simp [AV.denil,cg,hy,List.take_of_length_le])
 have hdx:x.cells=dig x.d:=rfl
 have hdy:y.cells=dig y.d:=rfl
 simp [aE,hdx,hdy,hx,hy,dw,bH,e1]
def CF (p:aA):Int :=
 if nC p.author=false then 5 else if 1000<p.message.length then 4 else if p.time<0∨1099511627776<p.time then 2 else if 100<p.deps.length then 4
 else if ir none p.deps≠0 then ir none p.deps else if p.changes.length=0 then 1 else if 400<p.changes.length then 4 else 0
set_option maxHeartbeats 2000000 in
theorem Hi (S:jV C) (p:aA) (ha:p.author.length≤2^40):b8 Tryz.prog C 193 [] [.agg p.cells] (.int .i64 (CF p)):=by
 refine aw (S.pureH _ (by decide)) fun H=>aj Tryz.func193 rfl (S.prim _ (by decide)) (by simp) (by kernel_rfl) ?_
 unfold Tryz.f193 CF
 have e0:=(uI S.tofZ p.author ha).eq
 refine cut (fun s H'=>s 1=.ptr H.length 0 5 0 0∧H'=H++[.rows 5 0 [p.cells]]) ?_ ?_
 ·simp [aE]
 rintro s H' ⟨q1,rfl⟩
 refine cut (fun s H'=>(nC p.author=true∧p.message.length≤1000∧0≤p.time∧p.time≤1099511627776∧p.deps.length≤100)∧s 1=.ptr H.length 0 5 0 0∧H'=H++[.rows 5 0 [p.cells]]) ?_ ?_
 ·cases h1:nC p.author with
  | false=>simp [q1,e0,h1]
  | true =>
   by_cases h2:1000<p.message.length
   ·simp [q1,e0,h1,h2,show (1000:Int)<p.message.length by omega]
   by_cases h3:p.time<0
   ·simp [q1,e0,h1,h2,h3,an,show ¬(1000:Int)<p.message.length by omega]
   by_cases h4:1099511627776<p.time
   ·simp [q1,e0,h1,h2,h3,h4,an,show ¬(1000:Int)<p.message.length by omega]
   by_cases h5:100<p.deps.length
   ·simp [q1,e0,h1,h2,h3,h4,h5,an,show ¬(1000:Int)<p.message.length by omega,show (100:Int)<p.deps.length by omega]
   ·simp [q1,e0,h1,h2,h3,h4,h5,an,show ¬(1000:Int)<p.message.length by omega,show ¬(100:Int)<p.deps.length by omega]
    omega
 rintro s H' ⟨⟨h1,h2,h3,h4,h5⟩,q1,rfl⟩
 rw [h1,if_neg (by decide),if_neg (by omega),if_neg (by omega),if_neg (by omega)]
 refine cut (fun s H'=>ir none p.deps=0∧s 1=.ptr H.length 0 5 0 0∧∃J,H'=H++.rows 5 0 [p.cells]::J) ?_ ?_
 ·simp [q1]
  refine ay p.deps.length (fun i s H'=>ir none p.deps=ir (oB p.deps i) (p.deps.drop i)∧s 1=.ptr H.length 0 5 0 0∧s 31=am p.depsK (p.deps.map ar.cells)∧s 32=.int .i64 p.deps.length∧s 33=.int .i64 i∧∃J,H'=H++.rows 5 0 [p.cells]::J) ?_ ?_
  ·exact ⟨rfl,q1,rfl,rfl,rfl,[],rfl⟩
  rintro i s H' ⟨hc,q1,q31,q32,q33,J,rfl⟩ hi
  by_cases h:i<p.deps.length
  ·rw [List.drop_eq_getElem_cons h] at hc
   simp only [ir] at hc
   have hdl:p.deps[i].cells=dig p.deps[i].d:=rfl
   have h32:p.deps[i].d.length=32:=p.deps[i].h
   have hd0:aJ.length=32:=by decide
   have ht:List.take 32 (dig p.deps[i].d)=dig p.deps[i].d:=List.take_of_length_le (by simp [dig,h32])
   have CG:List.drop 32 (dig aJ)=[]:=by decide
   have hlf:∀x∈dig p.deps[i].d,x.leaf=true:=by intro x hx;obtain ⟨n,_,rfl⟩:=List.mem_map.1 hx;rfl
   have ez:=oW S.toaz p.deps[i].d aJ h32 (by decide)
   cases hz:bz p.deps[i].d with
   | true =>
    rw [if_pos hz] at hc
    have hz':p.deps[i].d=aJ:=by simpa [bz] using hz
    simp [q1,q31,q32,q33,h,hdl,h32,hd0,ht,CG,hlf,ao,aD,ez]
    refine ⟨fun _=>?_,fun hne=>absurd hz' hne⟩
    rw [hc];simp
   | false =>
    rw [if_neg (by simp [hz])] at hc
    have hz':¬p.deps[i].d=aJ:=by simpa [bz] using hz
    cases i with
    | zero =>
     simp [q1,q31,q32,q33,h,hdl,h32,hd0,ht,CG,hlf,ao,aD,ez,hz',an]
     refine ⟨?_,rfl⟩
     simpa [oB,List.getElem?_eq_getElem h] using hc
    | succ i =>
     have hk1:i<p.deps.length:=by omega
     have e2:=(Hb S p.deps[i] p.deps[i+1]).eq
     have w1:IntKind.i64.wrap (i:Int)=i:=iV (by omega)
     have w2:IntKind.i64.wrap ((i:Int)+1+1)=((i+2:Nat):Int):=by rw [aO (by omega) (by omega)];omega
     have t1:((i:Int)+1).toNat=i+1:=by omega
     have t2:(0:Int)≤(i:Int)+1:=by omega
     have t3:(i:Int)+1<p.deps.length:=by omega
     have t4:(0:Int)<(i:Int)+1:=by omega
     have hdl2:p.deps[i].cells=dig p.deps[i].d:=rfl
     have h322:p.deps[i].d.length=32:=p.deps[i].h
     have ht2:List.take 32 (dig p.deps[i].d)=dig p.deps[i].d:=List.take_of_length_le (by simp [dig,h322])
     simp only [hdl,hdl2] at e2
     simp only [oB,List.getElem?_eq_getElem hk1] at hc
     simp [q1,q31,q32,q33,h,hdl,h32,hd0,ht,CG,hlf,ao,aD,ez,hz',an,w1,w2,t1,t2,t3,t4,hk1,hdl2,h322,ht2,e2]
     refine ⟨fun h5=>?_,fun h5=>⟨?_,by omega⟩⟩
     ·simp only [h5,decide_true,if_true] at hc
      rw [hc];simp
     ·simp only [show ¬0≤bQ p.deps[i].d p.deps[i+1].d by omega,decide_false,Bool.false_eq_true,if_false] at hc
      simpa [oB,List.getElem?_eq_getElem h] using hc
  ·have h':i=p.deps.length:=by omega
   subst h'
   rw [List.drop_length] at hc
   simp only [ir] at hc
   simp [q1,q31,q32,q33,hc]
 rintro s H' ⟨hc,q1,J,rfl⟩
 rw [hc]
 by_cases h6:p.changes.length=0
 ·have h6':p.changes=[]:=List.length_eq_zero_iff.1 h6
  simp [q1,h6']
 ·by_cases h7:400<p.changes.length
  ·simp [q1,h6,h7,show (400:Int)<p.changes.length by omega,show ¬(p.changes.length:Int)=0 by omega]
  ·simp [q1,h6,h7,show ¬(400:Int)<p.changes.length by omega,show ¬(p.changes.length:Int)=0 by omega]
end Go.Proofs.Ev
namespace Go.Proofs.Ev
open Go.Proofs
variable {C:bD}
structure fD (C:bD):Prop extends jV C where
 pureI:∀f,f∈[233,161,96,384,334]→C.pure f=true
def II (a b:Int):Int:=if a<b then -1 else if b<a then 1 else 0
theorem ET (S:fD C) (a:Int):b8 Tryz.prog C 233 [] [.int .i64 a] (.bool false):=by
 refine aw (S.pureI _ (by decide)) fun H=>aj Tryz.func233 rfl (S.prim _ (by decide)) (by simp) (by kernel_rfl) ?_
 unfold Tryz.f233
 simp [aE]
theorem Ha (S:fD C) (a b:Int):b8 Tryz.prog C 161 [] [.int .i64 a,.int .i64 b] (.int .i64 (II a b)):=by
 refine aw (S.pureI _ (by decide)) fun H=>aj Tryz.func161 rfl (S.prim _ (by decide)) (by simp) (by kernel_rfl) ?_
 unfold Tryz.f161 II
 have e:=fun x=>(ET S x).eq
 by_cases h1:a<b
 ·simp [aE,e,h1]
 ·by_cases h2:b<a
  ·simp [aE,e,h1,h2]
  ·simp [aE,e,h1,h2]
theorem EK (S:fD C) (a b:aC):b8 Tryz.prog C 96 [] [.agg a.cells,.agg b.cells] (.int .i64 (df a b)):=by
 refine aw (S.pureI _ (by decide)) fun H=>aj Tryz.func96 rfl (S.prim _ (by decide)) (by simp) (by kernel_rfl) ?_
 unfold Tryz.f96
 have hx:a.d.length=32:=a.h
 have hy:b.d.length=32:=b.h
 have e2:=fun x y=>(Ha S x y).eq
 have e1:=S.cmpB (base:=H.length) (H:=H++[.rows 33 0 [a.cells],.rows 33 0 [b.cells]]) (a:=.asl H.length 0 33 0 0 32) (b:=.asl (H.length+1) 0 33 0 0 32) (x:=a.d) (y:=b.d) (by rw [hx,hy]) a.b b.b (by simp [AV.denil,cg]) (by simp [AV.denil,cg])
 by_cases hc:bQ a.d b.d=0
 ·have hI:df a b=II a.n b.n:=by unfold df II;rw [if_pos hc]
  rw [hI]
  simp [aE,dw,bH,e1,e2,hc]
 ·have hI:df a b=bQ a.d b.d:=by unfold df;rw [if_neg hc]
  rw [hI]
  simp [aE,dw,bH,e1,e2,hc]
def xE:List Int→Int→Int→Int
 | [],_,_=>-1
 | x::l,v,i=>if v=x then i else xE l v (i+1)
theorem ES (S:fD C) (l:List Int) (k:SK) (v:Int) (hl:l.length≤2^40):b8 Tryz.prog C 384 [] [am k (l.map fun x=>[.int .i64 x]),.int .i64 v] (.int .i64 (xE l v 0)):=by
 refine aw (S.pureI _ (by decide)) fun H=>aj Tryz.func384 rfl (S.prim _ (by decide)) (by simp) (by kernel_rfl) ?_
 unfold Tryz.f384
 simp [aE]
 refine ay l.length (fun i s H'=>s 0=am k (l.map fun x=>[.int .i64 x])∧s 1=.int .i64 v∧s 7=.int .i64 l.length∧s 8=.int .i64 i∧H'=H∧xE l v 0=xE (l.drop i) v i) ?_ ?_
 ·exact ⟨rfl,rfl,rfl,rfl,rfl,rfl⟩
 rintro i s H' ⟨q0,q1,q7,q8,rfl,hc⟩ hi
 by_cases h:i<l.length
 ·rw [List.drop_eq_getElem_cons h,xE] at hc
  by_cases hv:v=l[i]
  ·rw [if_pos hv] at hc
   simp [q0,q1,q7,q8,h,hc,←hv]
  ·rw [if_neg hv] at hc
   simp [q0,q1,q7,q8,h,hc,hv,au h (by omega)]
 ·have h':i=l.length:=by omega
  subst h'
  rw [List.drop_length,xE] at hc
  simp [q0,q1,q7,q8,hc]
theorem zo:∀(l:List Int) (v i:Int),0≤i→(0≤xE l v i↔v∈l)
 | [],v,i,_=>by simp [xE]
 | x::l,v,i,hi=>by
  rw [xE]
  by_cases h:v=x
  ·rw [if_pos h];simp [h,hi]
  ·rw [if_neg h,zo l v (i+1) (by omega)];simp [h]
theorem yh (S:fD C) (l:List Int) (k:SK) (v:Int) (hl:l.length≤2^40):b8 Tryz.prog C 334 [] [am k (l.map fun x=>[.int .i64 x]),.int .i64 v] (.bool (decide (v∈l))):=by
 refine aw (S.pureI _ (by decide)) fun H=>aj Tryz.func334 rfl (S.prim _ (by decide)) (by simp) (by kernel_rfl) ?_
 unfold Tryz.f334
 have e:=(ES S l k v hl).eq
 have hm:=zo l v 0 (Int.le_refl _)
 simp [aE,e,hm]
end Go.Proofs.Ev
namespace Go.Proofs.Ev
open Go.Proofs
variable {C:bD}
structure gP (C:bD):Prop extends fD C where
 idxB:∀(s:List UInt8) (c:UInt8),∃n:Int,(n<0↔¬c∈s)∧∀base H (K:AV→ae→Prop),aF Tryz.prog C base (.fn 335 []) [.str s,.int .u8 c.toNat] H K=K (.int .i64 n) H
 pureJ:∀f,f∈[279,278]→C.pure f=true
 plainJ:∀f,f∈[333]→C.pure f=false∧C.frz f=false
def zt (s:List UInt8):Bool:=decide (s.length≤1000)&&decide (¬(10:UInt8)∈s)&&decide (¬(0:UInt8)∈s)
theorem Cf (S:gP C) (s:List UInt8):b8 Tryz.prog C 279 [] [.str s] (.bool (zt s)):=by
 refine aw (S.pureJ _ (by decide)) fun H=>aj Tryz.func279 rfl (S.prim _ (by decide)) (by simp) (by kernel_rfl) ?_
 unfold Tryz.f279 zt
 obtain ⟨n1,h1,e1⟩:=S.idxB s 10
 obtain ⟨n2,h2,e2⟩:=S.idxB s 0
 simp only [show ((10:UInt8).toNat:Int)=10 from rfl] at e1
 simp only [show ((0:UInt8).toNat:Int)=0 from rfl] at e2
 by_cases a:s.length≤1000
 ·have a':(s.length:Int)≤1000:=by omega
  by_cases b:n1<0
  ·have b':=h1.1 b
   by_cases c:n2<0
   ·have c':=h2.1 c
    simp [aE,an,a,a',e1,e2,b,b',c,c']
   ·have c':(0:UInt8)∈s:=Decidable.byContradiction fun h=>c (h2.2 h)
    simp [aE,an,a,a',e1,e2,b,b',c,c']
  ·have b':(10:UInt8)∈s:=Decidable.byContradiction fun h=>b (h1.2 h)
   simp [aE,an,a,a',e1,e2,b,b']
 ·have a':¬(s.length:Int)≤1000:=by omega
  simp [aE,an,a,a',e1,e2]
theorem H6 (S:gP C) {base b g:Nat} {H:ae} {kd:Int} (hg:ax H b g 1 0=some [.int .i64 kd]) (l:List Int) (k:SK) (hl:l.length≤2^40) (K:AV→ae→Prop) :
 aF Tryz.prog C base (.fn 333 [.ptr b g 1 0 0]) [am k (l.map fun x=>[.int .i64 x])] H K=K (.bool (decide (kd∈l))) H:=by
 refine aF.eq (bW (S.plainJ _ (by decide)).1 (S.plainJ _ (by decide)).2 (aj Tryz.func333 rfl (S.prim _ (by decide)) (by simp) (by kernel_rfl) ?_)) K
 unfold Tryz.f333
 have e:=(yh S.tofD l k kd hl).eq
 simp [aE,hg,e]
end Go.Proofs.Ev
namespace Go.Proofs.Ev
open Go.Proofs
variable {C:bD}
def sf (c:aW):Bool :=
 (decide (c.kind=1)||(c.type==0))&&(decide (c.kind∈[2,3,4,5,6])||aB c.file aM)&&(decide (c.kind=2)||(aB c.parent aM&&c.name.isEmpty))&&(decide (c.kind=3)||(c.mode==0))&&(decide (c.kind=4)||c.data.isEmpty)
 && (decide (c.kind∈[5,6])||(aB c.after aM&&aB c.before aM))&&(decide (c.kind=5)||((c.lines.length:Int)==0))&&(decide (c.kind∈[2,3,4,6,7])||((c.over.length:Int)==0))
set_option maxRecDepth 100000 in
set_option maxHeartbeats 4000000 in
theorem Hr (S:gP C) (c:aW) (hk1:1≤c.kind) (hk7:c.kind≤7):b8 Tryz.prog C 278 [] [.agg c.cells] (.bool (sf c)):=by
 refine aw (S.pureJ _ (by decide)) fun H=>aj Tryz.func278 rfl (S.prim _ (by decide)) (by simp) (by kernel_rfl) ?_
 unfold Tryz.f278
 refine cut (fun s H'=>s 1=.ptr H.length 0 139 0 0∧H'=H++[.rows 139 0 [c.cells]]) ?_ ?_
 ·simp [aE]
 rintro s H' ⟨q1,rfl⟩
 refine cut (fun s H'=>s 1=.ptr H.length 0 139 0 0∧s 3=.ptr (H.length+1) 0 1 0 0∧H'=H++[.rows 139 0 [c.cells],.rows 1 0 [[.int .i64 c.kind]]]) ?_ ?_
 ·simp [q1,ao,aD]
 rintro s H' ⟨q1,q3,rfl⟩
 refine cut (fun s H'=>s 1=.ptr H.length 0 139 0 0∧s 4=.fn 333 [.ptr (H.length+1) 0 1 0 0]∧H'=H++[.rows 139 0 [c.cells],.rows 1 0 [[.int .i64 c.kind]]]) ?_ ?_
 ·simp [q1,q3]
 rintro s H' ⟨q1,q4,rfl⟩
 refine cut (fun s H'=>s 1=.ptr H.length 0 139 0 0∧s 5=.ptr (H.length+2) 0 33 0 0∧s 4=.fn 333 [.ptr (H.length+1) 0 1 0 0]∧H'=H++[.rows 139 0 [c.cells],.rows 1 0 [[.int .i64 c.kind]],.rows 33 0 [aM.cells]]) ?_ ?_
 ·simp [q1,q4,ao,aD]
 rintro s H' ⟨q1,q5,q4,rfl⟩
 obtain ⟨L,hL⟩:∃L:ae,L=[.rows 1 0 [[.int .i64 c.kind]],.rows 33 0 [aM.cells]]:=⟨_,rfl⟩
 have et:=fun (l:List Int) (hl:l.length≤2^40)=>H6 S (base:=H.length) (b:=H.length+1) (g:=0) (H:=H++.rows 139 0 [c.cells]::L) (kd:=c.kind) (by rw [hL];simp [ax,bq]) l .exact hl
 have hz:ax L 1 0 33 0=some aM.cells:=by rw [hL];rfl
 rw [←hL]
 clear hL
 have t1:=et [1] (by simp)
 have t2:=et [2,3,4,5,6] (by simp)
 have t3:=et [2] (by simp)
 have t4:=et [3] (by simp)
 have t5:=et [4] (by simp)
 have t6:=et [5,6] (by simp)
 have t7:=et [5] (by simp)
 have t8:=et [2,3,4,6,7] (by simp)
 simp only [am,List.map_cons,List.map_nil] at t1 t2 t3 t4 t5 t6 t7 t8
 have ei:=fun a=>gZ S.toaz a aM
 unfold sf
 generalize hkd:c.kind=kd at *
 have hk:kd=1∨kd=2∨kd=3∨kd=4∨kd=5∨kd=6∨kd=7:=by omega
 rcases hk with rfl | rfl | rfl | rfl | rfl | rfl | rfl
 ·rcases Bool.eq_false_or_eq_true (aB c.file aM) with f0 | f0
  rotate_left
  ·simp [q1,q5,q4,an,ah,aq,t1,t2,t3,t4,t5,t6,t7,t8,ei,hz,f0]
  rcases Bool.eq_false_or_eq_true (aB c.parent aM) with f1 | f1
  rotate_left
  ·simp [q1,q5,q4,an,ah,aq,t1,t2,t3,t4,t5,t6,t7,t8,ei,hz,f0,f1]
  rcases Bool.eq_false_or_eq_true (c.name.isEmpty) with f2 | f2
  rotate_left
  ·simp [q1,q5,q4,an,ah,aq,t1,t2,t3,t4,t5,t6,t7,t8,ei,hz,f0,f1,f2]
  rcases Bool.eq_false_or_eq_true (c.mode==0) with f3 | f3
  rotate_left
  ·simp [q1,q5,q4,an,ah,aq,t1,t2,t3,t4,t5,t6,t7,t8,ei,hz,f0,f1,f2,f3]
  rcases Bool.eq_false_or_eq_true (c.data.isEmpty) with f4 | f4
  rotate_left
  ·simp [q1,q5,q4,an,ah,aq,t1,t2,t3,t4,t5,t6,t7,t8,ei,hz,f0,f1,f2,f3,f4]
  rcases Bool.eq_false_or_eq_true (aB c.after aM) with f5 | f5
  rotate_left
  ·simp [q1,q5,q4,an,ah,aq,t1,t2,t3,t4,t5,t6,t7,t8,ei,hz,f0,f1,f2,f3,f4,f5]
  rcases Bool.eq_false_or_eq_true (aB c.before aM) with f6 | f6
  rotate_left
  ·simp [q1,q5,q4,an,ah,aq,t1,t2,t3,t4,t5,t6,t7,t8,ei,hz,f0,f1,f2,f3,f4,f5,f6]
  rcases Bool.eq_false_or_eq_true ((c.lines.length:Int)==0) with f7 | f7
  rotate_left
  ·simp [q1,q5,q4,an,ah,aq,t1,t2,t3,t4,t5,t6,t7,t8,ei,hz,f0,f1,f2,f3,f4,f5,f6,f7]
  rcases Bool.eq_false_or_eq_true ((c.over.length:Int)==0) with f8 | f8
  rotate_left
  ·simp [q1,q5,q4,an,ah,aq,t1,t2,t3,t4,t5,t6,t7,t8,ei,hz,f0,f1,f2,f3,f4,f5,f6,f7,f8]
  simp [q1,q5,q4,an,ah,aq,t1,t2,t3,t4,t5,t6,t7,t8,ei,hz,f0,f1,f2,f3,f4,f5,f6,f7,f8]
 ·rcases Bool.eq_false_or_eq_true (c.type==0) with f0 | f0
  rotate_left
  ·simp [q1,q5,q4,an,ah,aq,t1,t2,t3,t4,t5,t6,t7,t8,ei,hz,f0]
  rcases Bool.eq_false_or_eq_true (c.mode==0) with f1 | f1
  rotate_left
  ·simp [q1,q5,q4,an,ah,aq,t1,t2,t3,t4,t5,t6,t7,t8,ei,hz,f0,f1]
  rcases Bool.eq_false_or_eq_true (c.data.isEmpty) with f2 | f2
  rotate_left
  ·simp [q1,q5,q4,an,ah,aq,t1,t2,t3,t4,t5,t6,t7,t8,ei,hz,f0,f1,f2]
  rcases Bool.eq_false_or_eq_true (aB c.after aM) with f3 | f3
  rotate_left
  ·simp [q1,q5,q4,an,ah,aq,t1,t2,t3,t4,t5,t6,t7,t8,ei,hz,f0,f1,f2,f3]
  rcases Bool.eq_false_or_eq_true (aB c.before aM) with f4 | f4
  rotate_left
  ·simp [q1,q5,q4,an,ah,aq,t1,t2,t3,t4,t5,t6,t7,t8,ei,hz,f0,f1,f2,f3,f4]
  rcases Bool.eq_false_or_eq_true ((c.lines.length:Int)==0) with f5 | f5
  rotate_left
  ·simp [q1,q5,q4,an,ah,aq,t1,t2,t3,t4,t5,t6,t7,t8,ei,hz,f0,f1,f2,f3,f4,f5]
  simp [q1,q5,q4,an,ah,aq,t1,t2,t3,t4,t5,t6,t7,t8,ei,hz,f0,f1,f2,f3,f4,f5]
 ·rcases Bool.eq_false_or_eq_true (c.type==0) with f0 | f0
  rotate_left
  ·simp [q1,q5,q4,an,ah,aq,t1,t2,t3,t4,t5,t6,t7,t8,ei,hz,f0]
  rcases Bool.eq_false_or_eq_true (aB c.parent aM) with f1 | f1
  rotate_left
  ·simp [q1,q5,q4,an,ah,aq,t1,t2,t3,t4,t5,t6,t7,t8,ei,hz,f0,f1]
  rcases Bool.eq_false_or_eq_true (c.name.isEmpty) with f2 | f2
  rotate_left
  ·simp [q1,q5,q4,an,ah,aq,t1,t2,t3,t4,t5,t6,t7,t8,ei,hz,f0,f1,f2]
  rcases Bool.eq_false_or_eq_true (c.data.isEmpty) with f3 | f3
  rotate_left
  ·simp [q1,q5,q4,an,ah,aq,t1,t2,t3,t4,t5,t6,t7,t8,ei,hz,f0,f1,f2,f3]
  rcases Bool.eq_false_or_eq_true (aB c.after aM) with f4 | f4
  rotate_left
  ·simp [q1,q5,q4,an,ah,aq,t1,t2,t3,t4,t5,t6,t7,t8,ei,hz,f0,f1,f2,f3,f4]
  rcases Bool.eq_false_or_eq_true (aB c.before aM) with f5 | f5
  rotate_left
  ·simp [q1,q5,q4,an,ah,aq,t1,t2,t3,t4,t5,t6,t7,t8,ei,hz,f0,f1,f2,f3,f4,f5]
  rcases Bool.eq_false_or_eq_true ((c.lines.length:Int)==0) with f6 | f6
  rotate_left
  ·simp [q1,q5,q4,an,ah,aq,t1,t2,t3,t4,t5,t6,t7,t8,ei,hz,f0,f1,f2,f3,f4,f5,f6]
  simp [q1,q5,q4,an,ah,aq,t1,t2,t3,t4,t5,t6,t7,t8,ei,hz,f0,f1,f2,f3,f4,f5,f6]
 ·rcases Bool.eq_false_or_eq_true (c.type==0) with f0 | f0
  rotate_left
  ·simp [q1,q5,q4,an,ah,aq,t1,t2,t3,t4,t5,t6,t7,t8,ei,hz,f0]
  rcases Bool.eq_false_or_eq_true (aB c.parent aM) with f1 | f1
  rotate_left
  ·simp [q1,q5,q4,an,ah,aq,t1,t2,t3,t4,t5,t6,t7,t8,ei,hz,f0,f1]
  rcases Bool.eq_false_or_eq_true (c.name.isEmpty) with f2 | f2
  rotate_left
  ·simp [q1,q5,q4,an,ah,aq,t1,t2,t3,t4,t5,t6,t7,t8,ei,hz,f0,f1,f2]
  rcases Bool.eq_false_or_eq_true (c.mode==0) with f3 | f3
  rotate_left
  ·simp [q1,q5,q4,an,ah,aq,t1,t2,t3,t4,t5,t6,t7,t8,ei,hz,f0,f1,f2,f3]
  rcases Bool.eq_false_or_eq_true (aB c.after aM) with f4 | f4
  rotate_left
  ·simp [q1,q5,q4,an,ah,aq,t1,t2,t3,t4,t5,t6,t7,t8,ei,hz,f0,f1,f2,f3,f4]
  rcases Bool.eq_false_or_eq_true (aB c.before aM) with f5 | f5
  rotate_left
  ·simp [q1,q5,q4,an,ah,aq,t1,t2,t3,t4,t5,t6,t7,t8,ei,hz,f0,f1,f2,f3,f4,f5]
  rcases Bool.eq_false_or_eq_true ((c.lines.length:Int)==0) with f6 | f6
  rotate_left
  ·simp [q1,q5,q4,an,ah,aq,t1,t2,t3,t4,t5,t6,t7,t8,ei,hz,f0,f1,f2,f3,f4,f5,f6]
  simp [q1,q5,q4,an,ah,aq,t1,t2,t3,t4,t5,t6,t7,t8,ei,hz,f0,f1,f2,f3,f4,f5,f6]
 ·rcases Bool.eq_false_or_eq_true (c.type==0) with f0 | f0
  rotate_left
  ·simp [q1,q5,q4,an,ah,aq,t1,t2,t3,t4,t5,t6,t7,t8,ei,hz,f0]
  rcases Bool.eq_false_or_eq_true (aB c.parent aM) with f1 | f1
  rotate_left
  ·simp [q1,q5,q4,an,ah,aq,t1,t2,t3,t4,t5,t6,t7,t8,ei,hz,f0,f1]
  rcases Bool.eq_false_or_eq_true (c.name.isEmpty) with f2 | f2
  rotate_left
  ·simp [q1,q5,q4,an,ah,aq,t1,t2,t3,t4,t5,t6,t7,t8,ei,hz,f0,f1,f2]
  rcases Bool.eq_false_or_eq_true (c.mode==0) with f3 | f3
  rotate_left
  ·simp [q1,q5,q4,an,ah,aq,t1,t2,t3,t4,t5,t6,t7,t8,ei,hz,f0,f1,f2,f3]
  rcases Bool.eq_false_or_eq_true (c.data.isEmpty) with f4 | f4
  rotate_left
  ·simp [q1,q5,q4,an,ah,aq,t1,t2,t3,t4,t5,t6,t7,t8,ei,hz,f0,f1,f2,f3,f4]
  rcases Bool.eq_false_or_eq_true ((c.over.length:Int)==0) with f5 | f5
  rotate_left
  ·simp [q1,q5,q4,an,ah,aq,t1,t2,t3,t4,t5,t6,t7,t8,ei,hz,f0,f1,f2,f3,f4,f5]
  simp [q1,q5,q4,an,ah,aq,t1,t2,t3,t4,t5,t6,t7,t8,ei,hz,f0,f1,f2,f3,f4,f5]
 ·rcases Bool.eq_false_or_eq_true (c.type==0) with f0 | f0
  rotate_left
  ·simp [q1,q5,q4,an,ah,aq,t1,t2,t3,t4,t5,t6,t7,t8,ei,hz,f0]
  rcases Bool.eq_false_or_eq_true (aB c.parent aM) with f1 | f1
  rotate_left
  ·simp [q1,q5,q4,an,ah,aq,t1,t2,t3,t4,t5,t6,t7,t8,ei,hz,f0,f1]
  rcases Bool.eq_false_or_eq_true (c.name.isEmpty) with f2 | f2
  rotate_left
  ·simp [q1,q5,q4,an,ah,aq,t1,t2,t3,t4,t5,t6,t7,t8,ei,hz,f0,f1,f2]
  rcases Bool.eq_false_or_eq_true (c.mode==0) with f3 | f3
  rotate_left
  ·simp [q1,q5,q4,an,ah,aq,t1,t2,t3,t4,t5,t6,t7,t8,ei,hz,f0,f1,f2,f3]
  rcases Bool.eq_false_or_eq_true (c.data.isEmpty) with f4 | f4
  rotate_left
  ·simp [q1,q5,q4,an,ah,aq,t1,t2,t3,t4,t5,t6,t7,t8,ei,hz,f0,f1,f2,f3,f4]
  rcases Bool.eq_false_or_eq_true ((c.lines.length:Int)==0) with f5 | f5
  rotate_left
  ·simp [q1,q5,q4,an,ah,aq,t1,t2,t3,t4,t5,t6,t7,t8,ei,hz,f0,f1,f2,f3,f4,f5]
  simp [q1,q5,q4,an,ah,aq,t1,t2,t3,t4,t5,t6,t7,t8,ei,hz,f0,f1,f2,f3,f4,f5]
 ·rcases Bool.eq_false_or_eq_true (c.type==0) with f0 | f0
  rotate_left
  ·simp [q1,q5,q4,an,ah,aq,t1,t2,t3,t4,t5,t6,t7,t8,ei,hz,f0]
  rcases Bool.eq_false_or_eq_true (aB c.file aM) with f1 | f1
  rotate_left
  ·simp [q1,q5,q4,an,ah,aq,t1,t2,t3,t4,t5,t6,t7,t8,ei,hz,f0,f1]
  rcases Bool.eq_false_or_eq_true (aB c.parent aM) with f2 | f2
  rotate_left
  ·simp [q1,q5,q4,an,ah,aq,t1,t2,t3,t4,t5,t6,t7,t8,ei,hz,f0,f1,f2]
  rcases Bool.eq_false_or_eq_true (c.name.isEmpty) with f3 | f3
  rotate_left
  ·simp [q1,q5,q4,an,ah,aq,t1,t2,t3,t4,t5,t6,t7,t8,ei,hz,f0,f1,f2,f3]
  rcases Bool.eq_false_or_eq_true (c.mode==0) with f4 | f4
  rotate_left
  ·simp [q1,q5,q4,an,ah,aq,t1,t2,t3,t4,t5,t6,t7,t8,ei,hz,f0,f1,f2,f3,f4]
  rcases Bool.eq_false_or_eq_true (c.data.isEmpty) with f5 | f5
  rotate_left
  ·simp [q1,q5,q4,an,ah,aq,t1,t2,t3,t4,t5,t6,t7,t8,ei,hz,f0,f1,f2,f3,f4,f5]
  rcases Bool.eq_false_or_eq_true (aB c.after aM) with f6 | f6
  rotate_left
  ·simp [q1,q5,q4,an,ah,aq,t1,t2,t3,t4,t5,t6,t7,t8,ei,hz,f0,f1,f2,f3,f4,f5,f6]
  rcases Bool.eq_false_or_eq_true (aB c.before aM) with f7 | f7
  rotate_left
  ·simp [q1,q5,q4,an,ah,aq,t1,t2,t3,t4,t5,t6,t7,t8,ei,hz,f0,f1,f2,f3,f4,f5,f6,f7]
  rcases Bool.eq_false_or_eq_true ((c.lines.length:Int)==0) with f8 | f8
  rotate_left
  ·simp [q1,q5,q4,an,ah,aq,t1,t2,t3,t4,t5,t6,t7,t8,ei,hz,f0,f1,f2,f3,f4,f5,f6,f7,f8]
  simp [q1,q5,q4,an,ah,aq,t1,t2,t3,t4,t5,t6,t7,t8,ei,hz,f0,f1,f2,f3,f4,f5,f6,f7,f8]
end Go.Proofs.Ev
namespace Go.Proofs.Ev
open Go.Proofs
variable {C:bD}
structure iF (C:bD):Prop extends gP C where
 pureK:∀f,f∈[194,210]→C.pure f=true
structure aW.Good (c:aW):Prop where
 k1:1≤c.kind
 k7:c.kind≤7
 tidy:sf c=true
 ty:c.kind=1→1≤c.type∧c.type≤4
 nm:c.kind=2→nC c.name=true
 md:0≤c.mode∧c.mode≤511
 dt:c.data.length≤65536
 ln:c.kind=5→c.lines≠[]
 lnn:c.lines.length≤2000
 lv:∀s∈c.lines,zt s=true
 ov:c.kind=7→c.over≠[]
 on:c.over.length≤400
 asc:pR c.over=true
theorem FU (c:UInt8):j4 c=ox c:=by
 rw [Bool.eq_iff_iff]
 simp [j4,ox]
 omega
theorem zw (s:List UInt8):nC s=ql s:=by
 have h:j4=ox:=funext FU
 rw [Bool.eq_iff_iff]
 cases s with
 | nil=>simp [nC,ql]
 | cons x l =>
  have e:((l.length+1:Nat):Int)≤40↔l.length+1≤40:=by omega
  simp only [nC,ql,h,List.isEmpty_cons,Bool.not_false,Bool.and_true,Bool.and_eq_true,List.length_cons,decide_eq_true_eq,e,Bool.and_assoc,bne]
  constructor
  ·rintro ⟨a,b,c,d⟩;exact ⟨a,by omega,b,c,d⟩
  ·rintro ⟨a,_,b,c,d⟩;exact ⟨a,b,c,d⟩
theorem GH (s:List UInt8):zt s=kE s:=by
 rw [Bool.eq_iff_iff]
 simp only [zt,kE,Bool.and_eq_true,decide_eq_true_eq,List.all_eq_true,Jl]
 constructor
 ·rintro ⟨⟨h1,h2⟩,h3⟩
  refine ⟨by omega,fun x hx=>?_⟩
  have a1:x≠10:=fun h=>h2 (h▸hx)
  have a2:x≠0:=fun h=>h3 (h▸hx)
  have b1:x.toNat≠10:=fun h=>a1 (UInt8.toNat_inj.1 h)
  have b2:x.toNat≠0:=fun h=>a2 (UInt8.toNat_inj.1 h)
  simp;omega
 ·rintro ⟨h1,h2⟩
  refine ⟨⟨by omega,fun h=>?_⟩,fun h=>?_⟩
  ·have:=h2 _ h;simp at this
  ·have:=h2 _ h;simp at this
theorem Kb {c:aW} (h1:1≤c.kind) (h7:c.kind≤7) (h:oU (kr c)=true):sf c=true:=by
 have hk:c.kind=1∨c.kind=2∨c.kind=3∨c.kind=4∨c.kind=5∨c.kind=6∨c.kind=7:=by omega
 rcases hk with hk | hk | hk | hk | hk | hk | hk <;>
  simp [oU,kr,oE,oF,oG,ri,hk] at h<;>simp [sf,hk,h]
theorem IZ {c:aW} (h:gW c=0):c.Good:=by
 have hln:=qb h
 unfold gW at h
 split at h
 ·omega
 rename_i h1
 split at h
 ·omega
 rename_i h2
 have a1:1≤c.kind∧c.kind≤7:=by simp at h1;omega
 have ht:=Kb a1.1 a1.2 (by simpa using h2)
 split at h
 ·omega
 rename_i h3
 split at h
 ·omega
 rename_i h4
 split at h
 ·omega
 rename_i h5
 split at h
 ·omega
 rename_i h6
 have ht':=ht
 simp only [sf,Bool.and_eq_true,Bool.or_eq_true,decide_eq_true_eq,beq_iff_eq] at ht'
 obtain ⟨⟨⟨⟨⟨⟨⟨t1,t2⟩,t3⟩,t4⟩,t5⟩,t6⟩,t7⟩,t8⟩:=ht'
 have hmd:0≤c.mode∧c.mode≤511:=by
  rcases t4 with t4 | t4
  ·simp [t4] at h5;omega
  ·omega
 have hty:c.kind=1→1≤c.type∧c.type≤4:=fun hk=>by simp [hk] at h3;omega
 have hnm:c.kind=2→nC c.name=true:=fun hk=>by simp [hk] at h4;rw [zw];exact h4
 split at h
 ·rename_i hk
  have hov:c.over=[]:=by
   rcases t8 with t8 | t8
   ·simp [hk] at t8
   ·exact List.length_eq_zero_iff.1 (by omega)
  have hl:c.lines.length≠0∧c.lines.all kE=true:=by
   unfold mq at h
   split at h
   ·omega
   split at h
   ·omega
   split at h
   ·rename_i hz _ hv;exact ⟨hz,hv⟩
   ·omega
  refine ⟨a1.1,a1.2,ht,hty,hnm,hmd,by omega,fun _ h0=>hl.1 (by rw [h0];rfl),hln,fun s hs=>?_,fun hk'=>by omega,by rw [hov];simp,by rw [hov];rfl⟩
  rw [GH];exact List.all_eq_true.1 hl.2 s hs
 ·rename_i hk
  have hlz:c.lines=[]:=by
   rcases t7 with t7 | t7
   ·omega
   ·exact List.length_eq_zero_iff.1 (by omega)
  split at h
  ·omega
  rename_i h7
  split at h
  ·omega
  rename_i h8
  split at h
  ·omega
  rename_i h9
  refine ⟨a1.1,a1.2,ht,hty,hnm,hmd,by omega,fun hk'=>absurd hk' hk,hln,fun s hs=>?_,fun hk' h0=>?_,by omega,by simpa using h9⟩
  ·rw [hlz] at hs;cases hs
  ·simp [hk',h0] at h7
theorem FG:∀{l:List aC} (_:pR l=true) (k:Nat) (hk:k+1<l.length),df l[k] l[k+1]<0
 | [],_,k,hk=>by simp at hk
 | [_],_,k,hk=>by simp at hk
 | a::b::l,h,0,hk=>by
  simp only [pR,Bool.and_eq_true,decide_eq_true_eq] at h
  exact h.1
 | a::b::l,h,k+1,hk=>by
  simp only [pR,Bool.and_eq_true,decide_eq_true_eq] at h
  exact FG (l:=b::l) h.2 k (by simpa using hk)
set_option maxHeartbeats 4000000 in
theorem sD (S:iF C) (c:aW) (hg:c.Good) (hn:c.name.length≤2^40):b8 Tryz.prog C 194 [] [.agg c.cells] (.int .i64 0):=by
 refine aw (S.pureK _ (by decide)) fun H=>aj Tryz.func194 rfl (S.prim _ (by decide)) (by simp) (by kernel_rfl) ?_
 unfold Tryz.f194
 have et:=(Hr S.togP c hg.k1 hg.k7).eq
 rw [hg.tidy] at et
 have en:=(uI S.tofZ c.name hn).eq
 have k1:=hg.k1
 have k7:=hg.k7
 have m1:=hg.md
 have hl:=hg.lnn
 have hov:=hg.on
 have hd:=hg.dt
 have hk:c.kind=1∨c.kind=2∨c.kind=3∨c.kind=4∨c.kind=5∨c.kind=6∨c.kind=7:=by omega
 refine cut (fun s H'=>s 1=.ptr H.length 0 139 0 0∧H'=H++[.rows 139 0 [c.cells]]) ?_ ?_
 ·simp [aE]
 rintro s H' ⟨q1,rfl⟩
 refine cut (fun s H'=>s 1=.ptr H.length 0 139 0 0∧H'=H++[.rows 139 0 [c.cells]]) ?_ ?_
 ·have f1:¬c.mode<0:=by omega
  have f2:¬511<c.mode:=by omega
  have f3:¬(65536:Int)<c.data.length:=by omega
  have f4:¬(2000:Int)<c.lines.length:=by omega
  rcases hk with hk | hk | hk | hk | hk | hk | hk
  ·have:=hg.ty hk
   have f5:¬c.type<1:=by omega
   have f6:¬4<c.type:=by omega
   simp [q1,et,en,an,hk,f1,f2,f3,f4,f5,f6]
  ·have:=hg.nm hk
   simp [q1,et,en,an,hk,f1,f2,f3,f4,this]
  ·simp [q1,et,en,an,hk,f1,f2,f3,f4]
  ·simp [q1,et,en,an,hk,f1,f2,f3,f4]
  ·have:=hg.ln hk
   simp [q1,et,en,an,hk,f1,f2,f3,f4,this]
  ·simp [q1,et,en,an,hk,f1,f2,f3,f4]
  ·simp [q1,et,en,an,hk,f1,f2,f3,f4]
 rintro s H' ⟨q1,rfl⟩
 refine cut (fun s H'=>s 1=.ptr H.length 0 139 0 0∧H'=H++[.rows 139 0 [c.cells]]) ?_ ?_
 ·simp [q1]
  refine ay c.lines.length (fun i s H'=>s 1=.ptr H.length 0 139 0 0∧s 73=am c.linesK (c.lines.map fX)∧s 74=.int .i64 c.lines.length∧s 75=.int .i64 i∧H'=H++[.rows 139 0 [c.cells]]) ?_ ?_
  ·exact ⟨q1,rfl,rfl,rfl,rfl⟩
  rintro i s H' ⟨q1,q73,q74,q75,rfl⟩ hi
  by_cases h:i<c.lines.length
  ·have ev:=(Cf S.togP c.lines[i]).eq
   rw [hg.lv _ (List.getElem_mem h)] at ev
   simp [q1,q73,q74,q75,h,fX,ev,au h (by omega)]
  ·have h':i=c.lines.length:=by omega
   subst h'
   simp [q1,q73,q74,q75]
 rintro s H' ⟨q1,rfl⟩
 refine cut (fun s H'=>s 1=.ptr H.length 0 139 0 0∧H'=H++[.rows 139 0 [c.cells]]) ?_ ?_
 ·have f4:¬(400:Int)<c.over.length:=by omega
  by_cases hk7:c.kind=7
  ·have:=hg.ov hk7
   simp [q1,an,hk7,f4,this]
  ·have b7:(c.kind==7)=false:=by simpa using hk7
   simp [q1,an,b7,hk7,f4]
 rintro s H' ⟨q1,rfl⟩
 refine cut (fun _ _=>True) ?_ ?_
 ·simp [q1]
  refine ay c.over.length (fun i s H'=>s 1=.ptr H.length 0 139 0 0∧s 5=.int .i64 ((i:Int)+1)∧H'=H++[.rows 139 0 [c.cells]]) ?_ ?_
  ·exact ⟨q1,rfl,rfl⟩
  rintro i s H' ⟨q1,q5,rfl⟩ hi
  by_cases h:i+1<c.over.length
  ·have h0:i<c.over.length:=by omega
   have e:=(EK S.tofD c.over[i] c.over[i+1]).eq
   have hc:=FG hg.asc i h
   have w1:IntKind.i64.wrap (i:Int)=i:=iV (by omega)
   have w2:IntKind.i64.wrap ((i:Int)+1+1)=((i+1:Nat):Int)+1:=by rw [aO (by omega) (by omega)];omega
   have t1:((i:Int)+1).toNat=i+1:=by omega
   have t2:(0:Int)≤(i:Int)+1:=by omega
   have t3:(i:Int)+1<c.over.length:=by omega
   have t4:¬0≤df c.over[i] c.over[i+1]:=by omega
   simp [q1,q5,h,h0,e,w1,w2,t1,t2,t3,t4]
  ·have t3:¬(i:Int)+1<c.over.length:=by omega
   simp [q1,q5,t3]
 rintro s H' -
 simp
end Go.Proofs.Ev
