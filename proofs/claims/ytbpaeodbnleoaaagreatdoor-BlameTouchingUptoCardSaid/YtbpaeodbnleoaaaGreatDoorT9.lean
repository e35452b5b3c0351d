/- Part 9 of the proof that quiltlaw38.BlameTouching returns true: no statement of its own. -/
import Derived.Test.YtbpaeodbnleoaaaGreatDoorT7
import Derived.Test.YtbpaeodbnleoaaaGreatDoorT8
set_option linter.all false
namespace Go.Proofs.Ev
variable {P:Program} {base:Nat}
def K8:Nat→Nat
 | 0=>0
 | n+1=>4*K8 n+4
def xI (sz:Nat) (rows:List (List AV)):ag:=if rows=[] then [] else [.rows sz (K8 (rows.length-1)) rows]
def ny (b sz:Nat) (rows:List (List AV)):AV:=if rows=[] then .lst [] true else .sl b (K8 (rows.length-1)) sz 0 rows.length
@[simp] theorem OM (sz:Nat):xI sz []=[]:=rfl
@[simp] theorem ND (b sz:Nat):ny b sz []=.lst [] true:=rfl
@[simp] theorem Lo (b sz:Nat) (rows:List (List AV)):(ny b sz rows).denil=ny b sz rows:=by unfold ny;split<;>rfl
theorem Jb {ts:Array TypeId} {e e' sz by_:Nat} (h0:(ts[0]?).bind P.underlying=some (.slice e)) (h1:(ts[1]?).bind P.underlying=some (.slice e')) (hs:bF P e=some sz) (hb:bytesOf P e=some by_)
 (hz:(aQ P e).map (fun z=>z.cells.length)=some sz) (hp:0<sz) {Y:ag} (hY:base≤Y.length) {rows:List (List AV)} {r:List AV} {x:Bool} (hr:r.length=sz) (hbound:(rows.length+1)*(by_+1)≤2^45) (hs1:sz≠1:=by decide) :
 bA P base (Y++xI sz rows) ts (ny Y.length sz rows) (.lst [r] x)=some (ny Y.length sz (rows++[r]),Y++xI sz (rows++[r])):=by
 have hc:(([r]:List (List AV)).all fun r=>decide (r.length=sz))=true:=by simp [hr]
 have hk:c8 P e sz=0:=by simp [c8,hs1]
 have hk2:∀g,fm P e sz g=4*g+4:=fun g=>by simp [fm,hk]
 unfold bA
 simp only [h0,h1,hs,hb,cQ,cF,hc,hp,hz,hk,hk2,and_self,if_true]
 cases rows with
 | nil =>
  simp only [ny,xI,if_true,List.append_nil,List.nil_append,List.isEmpty_cons,Bool.false_eq_true,if_false,List.length_nil,List.length_cons,Nat.zero_add,List.all_nil,List.cons_ne_nil,reduceCtorEq]
  rw [if_pos ⟨trivial,by simpa using hbound,trivial⟩]
  rfl
 | cons a l =>
  have hne:(a::l)++[r]≠[]:=by simp
  simp only [ny,xI,if_neg hne,if_neg (List.cons_ne_nil a l)]
  have hg:(Y++[bQ.rows sz (K8 ((a::l).length-1)) (a::l)])[Y.length]?=some (.rows sz (K8 ((a::l).length-1)) (a::l)):=by simp
  simp only [hg]
  rw [if_pos ⟨hY,trivial,trivial,trivial,trivial,by simpa using hbound⟩]
  simp [K8,hk2]
theorem lq {ts:Array TypeId} {e e' sz by_:Nat} (h0:(ts[0]?).bind P.underlying=some (.slice e)) (h1:(ts[1]?).bind P.underlying=some (.slice e')) (hs:bF P e=some sz) (hb:bytesOf P e=some by_)
 (hz:(aQ P e).map (fun z=>z.cells.length)=some sz) (hp:0<sz) (H:ag) {r:List AV} {x:Bool} (hr:r.length=sz) (hbound:by_+1≤2^45) (hs1:sz≠1:=by decide) :
 bA P base H ts (.lst [] true) (.lst [r] x)=some (.sl H.length 0 sz 0 1,H++[.rows sz 0 [r]]):=by
 have hc:(([r]:List (List AV)).all fun r=>decide (r.length=sz))=true:=by simp [hr]
 have hk:c8 P e sz=0:=by simp [c8,hs1]
 have hk2:∀g,fm P e sz g=4*g+4:=fun g=>by simp [fm,hk]
 unfold bA
 simp only [h0,h1,hs,hb,cQ,cF,hc,hp,hz,hk,hk2,and_self,if_true]
 simp only [List.isEmpty_cons,Bool.false_eq_true,if_false,List.length_nil,List.length_cons,Nat.zero_add,List.all_nil,List.nil_append]
 rw [if_pos ⟨trivial,by simpa using hbound,trivial⟩]
theorem pQ {ts:Array TypeId} {e e' sz by_:Nat} (h0:(ts[0]?).bind P.underlying=some (.slice e)) (h1:(ts[1]?).bind P.underlying=some (.slice e')) (hs:bF P e=some sz) (hb:bytesOf P e=some by_)
 (hz:(aQ P e).map (fun z=>z.cells.length)=some sz) (hp:0<sz) {H:ag} {b g:Nat} {rs:List (List AV)} (hg:H[b]?=some (.rows sz g rs)) (hbase:base≤b) {r:List AV} {x:Bool} (hr:r.length=sz)
 (hbound:(rs.length+1)*(by_+1)≤2^45) (hs1:sz≠1:=by decide) :
 bA P base H ts (.sl b g sz 0 rs.length) (.lst [r] x)=some (.sl b (4*g+4) sz 0 (rs.length+1),H.set b (.rows sz (4*g+4) (rs++[r]))):=by
 have hc:(([r]:List (List AV)).all fun r=>decide (r.length=sz))=true:=by simp [hr]
 have hk:c8 P e sz=0:=by simp [c8,hs1]
 have hk2:∀g,fm P e sz g=4*g+4:=fun g=>by simp [fm,hk]
 unfold bA
 simp only [h0,h1,hs,hb,cQ,cF,hc,hp,hz,hk2,and_self,if_true,hg]
 rw [if_pos ⟨hbase,trivial,trivial,trivial,trivial,by simpa using hbound⟩]
 rfl
theorem fF {H:ag} {k d b g sz:Nat} {rs:List (List AV)} (hg:H[b]?=some (.rows sz g rs)) (hk:k≤b) (hc:AV.closedss rs=true):aJ H k (d+1) (.sl b g sz 0 rs.length)=some (.lst rs false):=by
 simp [aJ,AV.closed,hk,cF,hg,hc]
def Grow (n sz:Nat) (J:ag) (v:AV) (rows:List (List AV)):Prop:=(rows=[]∧(v=.nils∨v=.lst [] true))∨∃b g,v=.sl (n+b) g sz 0 rows.length∧J[b]?=some (.rows sz g rows)
theorem Grow.lst {n sz:Nat} {J:ag}:Grow n sz J (.lst [] true) []:=.inl ⟨rfl,.inr rfl⟩
theorem Grow.len {t e:TypeId} (h:P.underlying t=some (.slice e)) {n sz:Nat} {J H:ag} {v:AV} {rows:List (List AV)} (hg:Grow n sz J v rows):fc P H t v.denil=some (.int .i64 rows.length):=by
 rcases hg with ⟨rfl,rfl | rfl⟩ | ⟨b,g,rfl,_⟩
 ·exact fQ h H [] true
 ·exact fQ h H [] true
 ·exact mq h H _ _ _ _ _
def zs (v:AV):SK:=match v with | .nils=>.nil | .lst _ _=>.exact | _=>.loose
theorem Grow.freeze {n sz k d:Nat} {Z J:ag} {v:AV} {rows:List (List AV)} (hn:n=Z.length) (hk:k≤n) (hg:Grow n sz J v rows) (hc:AV.closedss rows=true):aJ (Z++J) k (d+1) v=some (aw (zs v) rows):=by
 subst hn
 rcases hg with ⟨rfl,rfl | rfl⟩ | ⟨b,g,rfl,hb⟩
 ·rfl
 ·rfl
 ·rw [fF (rs:=rows) (by rw [bt];exact hb) (by omega) hc]
  cases rows<;>rfl
theorem oc {H:ag} {e:TypeId} (k:SK) (ys:List (List AV)):cQ H (.slice e) (aw k ys).denil=some ys:=by
 obtain ⟨x,hx⟩:=mC k ys
 rw [hx];rfl
theorem Grow.append {ts:Array TypeId} {e e' sz by_:Nat} (h0:(ts[0]?).bind P.underlying=some (.slice e)) (h1:(ts[1]?).bind P.underlying=some (.slice e')) (hs:bF P e=some sz) (hb:bytesOf P e=some by_)
 (hz:(aQ P e).map (fun z=>z.cells.length)=some sz) (hp:0<sz) {Z J:ag} (hY:base≤Z.length) {v x:AV} {rows ys:List (List AV)} (hg:Grow Z.length sz J v rows)
 (hx:cQ (Z++J) (.slice e') x=some ys) (hy:∀r∈ys,r.length=sz) (hbound:(rows.length+ys.length)*(by_+1)≤2^45) :
 ∃v' J',bA P base (Z++J) ts v.denil x=some (v',Z++J')∧Grow Z.length sz J' v' (rows++ys)∧(∀b blk,J[b]?=some blk→v≠.sl (Z.length+b) (match blk with | .rows _ g _=>g | _=>0) sz 0 rows.length→J'[b]?=some blk):=by
 have hc:(ys.all fun r=>decide (r.length=sz))=true:=by simpa using hy
 unfold bA
 simp only [h0,h1,hs,hb,hx,hc,hp,hz,and_self,if_true]
 rcases hg with ⟨rfl,hv⟩ | ⟨b,g,rfl,hb⟩
 ·have hd:v.denil=.lst [] true:=by rcases hv with rfl | rfl<;>rfl
  rw [hd]
  simp only
  by_cases he:ys=[]
  ·subst he
   exact ⟨.lst [] true,J,by simp,.lst,fun b blk h _=>h⟩
  ·rw [if_neg (by simpa using he),if_pos ⟨trivial,by simpa using hbound,rfl⟩]
   exact ⟨_,J++[.rows sz (c8 P e sz) ys],by simp;rfl,.inr ⟨J.length,c8 P e sz,by simp,by simp⟩,fun b blk h _=>by
    rw [List.getElem?_append_left (List.getElem?_eq_some_iff.1 h).1];exact h⟩
 ·have hlt:b<J.length:=(List.getElem?_eq_some_iff.1 hb).1
  have hg:(Z++J)[Z.length+b]?=some (.rows sz g rows):=by rw [bt];exact hb
  simp only [AV.denil,hg]
  rw [if_pos ⟨by omega,trivial,trivial,trivial,trivial,hbound⟩]
  refine ⟨_,J.set b (.rows sz (fm P e sz g) (rows++ys)),by rw [pR],.inr ⟨b,fm P e sz g,by simp,by simp [hlt]⟩,fun b' blk h hne=>?_⟩
  rw [List.getElem?_set_ne]
  ·exact h
  ·rintro rfl
   rw [hb] at h;cases h
   exact hne rfl
end Go.Proofs.Ev
namespace Go.Proofs.Ev
open Go.Proofs
variable {C:bG}
structure ga (C:bG):Prop extends dP C where
 pure3:∀f,f∈[261,195,194,128]→C.pure f=true
def br (n:Int):aI:={ aO with n:=n }
def fA (c:aW) (first:Nat) (i:Nat):aH:={ b9 with id:=br (first+i:Nat),kind:=5,file:=c.file,text:=c.lines.getD i [] }
def fw (c:aW) (first:Nat) (i:Nat):aH :=
 {b9 with id:=br (first+c.lines.length+i:Nat),kind:=6,file:=c.file,frm:=if 0<i then br (first+i-1:Nat) else c.after,to:=if i<c.lines.length then br (first+i:Nat) else c.before }
def cg (c:aW) (first:Nat):List aH :=
 if c.kind=1 then [{ b9 with id:=br first,kind:=1,file:=br first,type:=c.type }]
 else if c.kind=2 then [{ b9 with id:=br first,kind:=2,file:=c.file,parent:=c.parent,name:=c.name,over:=c.over,overK:=c.overK }]
 else if c.kind=3 then [{ b9 with id:=br first,kind:=3,file:=c.file,mode:=c.mode,over:=c.over,overK:=c.overK }]
 else if c.kind=4 then [{ b9 with id:=br first,kind:=4,file:=c.file,data:=c.data,over:=c.over,overK:=c.overK }]
 else if c.kind=6 then [{ b9 with id:=br first,kind:=6,file:=c.file,frm:=c.after,to:=c.before,over:=c.over,overK:=c.overK }]
 else if c.kind=7 then [{ b9 with id:=br first,kind:=7,over:=c.over,overK:=c.overK }]
 else (List.range c.lines.length).map (fA c first)++(List.range (c.lines.length+1)).map (fw c first)
def qr (c:aW):SK:=if c.kind=1∨c.kind=2∨c.kind=3∨c.kind=4∨c.kind=6∨c.kind=7 then .exact else .loose
def dr (c:aW) (first i:Nat):List (List AV):=((List.range c.lines.length).map (fA c first)++(List.range i).map (fw c first)).map aH.cells
def vx (n:Nat) (J:ag) (v:AV) (rows:List (List AV)):Prop:=(rows=[]∧v=.lst [] true)∨∃b g,v=.sl (n+(b+2)) g 172 0 rows.length∧J[b]?=some (.rows 172 g rows)
theorem Hz {n:Nat} {rows rows':List (List AV)} (h:rows=rows'):vx n (xI 172 rows) (ny (n+2) 172 rows) rows':=by
 subst h
 unfold vx xI ny
 cases rows with
 | nil=>left;simp
 | cons a l=>right;exact ⟨0,_,by simp;rfl,by simp⟩
theorem kY {n:Nat} {J:ag} {X:bQ} {r:List AV} {rows':List (List AV)} (hr:rows'=[r]):vx n (J++[X,.rows 172 0 [r]]) (.sl (n+(J.length+1+1+1)) 0 172 0 1) rows':=by
 subst hr
 exact .inr ⟨J.length+1,0,rfl,by simp⟩
theorem mw {n b g:Nat} {J:ag} {X:bQ} {r:List AV} {rs rows':List (List AV)} (hb:J[b]?=some (.rows 172 g rs)) (hr:rows'=rs++[r]) :
 vx n (J.set b (.rows 172 (4*g+4) (rs++[r]))++[X]) (.sl (n+(b+2)) (4*g+4) 172 0 (rs.length+1)) rows':=by
 subst hr
 have hlt:b<J.length:=(List.getElem?_eq_some_iff.1 hb).1
 exact .inr ⟨b,4*g+4,by simp,by rw [List.getElem?_append_left (by simpa using hlt)];simp [hlt]⟩
theorem dX (c:aW) (first i:Nat):dr c first (i+1)=dr c first i++[(fw c first i).cells]:=by simp [dr,List.range_succ]
set_option maxRecDepth 100000 in
set_option maxHeartbeats 2000000 in
theorem HX (S:ga C) (c:aW) (first:Nat) (hf:first≤2^40) (hl:c.lines.length≤2^20):cE Tryz.prog C 261 [] [.agg c.cells,.int .i64 first] (aw (qr c) ((cg c first).map aH.cells)):=by
 refine aB (S.pure3 _ (by decide)) fun H=>am Tryz.func261 rfl (S.prim _ (by decide)) (by simp) (by kernel_rfl) ?_
 unfold Tryz.f261
 by_cases k1:c.kind=1
 ·simp [aG,ao,aE,k1,aj,au]
  simp [aq,AV.closed,AV.closedss,cg,qr,k1,aw,br]
 by_cases k2:c.kind=2
 ·simp [aG,ao,aE,k2,aj,au]
  simp [aq,AV.closed,AV.closedss,cg,qr,k2,aw,br]
 by_cases k3:c.kind=3
 ·simp [aG,ao,aE,k3,aj,au]
  simp [aq,AV.closed,AV.closedss,cg,qr,k3,aw,br]
 by_cases k4:c.kind=4
 ·simp [aG,ao,aE,k4,aj,au]
  simp [aq,AV.closed,AV.closedss,cg,qr,k4,aw,br]
 by_cases k6:c.kind=6
 ·simp [aG,ao,aE,k6,aj,au]
  simp [aq,AV.closed,AV.closedss,cg,qr,k6,aw,br]
 by_cases k7:c.kind=7
 ·simp [aG,ao,aE,k7,aj,au]
  simp [aq,AV.closed,AV.closedss,cg,qr,k7,aw,br]
 simp [aG,ao,aE,k1,k2,k3,k4,k6,k7,aj,au]
 have ap:=fun (X Y:bQ) (rows:List (List AV)) (r:List AV) (hr:r.length=172) (hb:rows.length≤2^30)=>Jb (P:=Tryz.prog) (e:=83) (e':=83) (base:=H.length) (ts:=#[87,87]) (Y:=H++[X,Y]) (rows:=rows) (r:=r) (x:=true) (by simp) (by simp) nO p5 (by simp) (by decide) (by simp) hr (by omega)
 simp at ap
 refine cn (fun s H'=>s 1=.int .i64 first∧s 2=.ptr H.length 0 139 0 0∧s 7=.int .i64 c.lines.length∧∃i:Nat,s 8=.int .i64 i∧i≤c.lines.length∧
  s 6=ny (H.length+2) 172 (((List.range i).map (fA c first)).map aH.cells)∧H'=H++.rows 139 0 [c.cells]::.rows 33 0 [(br first).cells]::xI 172 (((List.range i).map (fA c first)).map aH.cells))
  (fun s _=>c.lines.length-(match s 8 with | .int _ k=>k.toNat | _=>0)) ?_ ?_
 ·exact ⟨rfl,rfl,rfl,0,rfl,by omega,rfl,by simp [br]⟩
 rintro s H' ⟨h1,h2,h7,i,h8,hi,h6,rfl⟩
 simp [h1,h2,h7,h8,h6]
 refine ⟨fun h=>?_,fun h=>?_⟩
 ·have w1:IntKind.i64.wrap ((first:Int)+i)=((first+i:Nat):Int):=by rw [aK (by omega) (by omega)];omega
  simp [h,h1,h2,h6,h7,h8,w1,fU,aE,aj,au,ay h (by omega)]
  rw [ap _ _ _ _ (by simp) (by simp;omega),Et,aN (h:=by kernel_rfl)]
  simp [h,h1,h2,h7,h8,ay h (by omega)]
  refine ⟨⟨i+1,by simp,by omega,?_,?_⟩,rI h⟩
  ·simp [List.range_succ,fA,br,h]
  ·simp [List.range_succ,fA,br,h]
 ·have h:i=c.lines.length:=by omega
  subst h
  refine cn (fun s H'=>s 1=.int .i64 first∧s 2=.ptr H.length 0 139 0 0∧s 7=.int .i64 c.lines.length∧∃i:Nat,s 9=.int .i64 i∧i≤c.lines.length+1∧∃J:ag,H'=H++.rows 139 0 [c.cells]::.rows 33 0 [(br first).cells]::J∧
   vx H.length J (s 6) (dr c first i)) (fun s _=>c.lines.length+1-(match s 9 with | .int _ k=>k.toNat | _=>0)) ?_ ?_
  ·refine ⟨h1,h2,h7,0,rfl,by omega,_,rfl,?_⟩
   have e0:dr c first 0=List.map (aH.cells∘fA c first) (List.range c.lines.length):=by simp [dr]
   have e1:vx H.length (xI 172 (List.map (aH.cells∘fA c first) (List.range c.lines.length))) (s 6) (dr c first 0):=by
    rw [h6,List.map_map];exact Hz e0.symm
   exact e1
  rintro s H' ⟨h1,h2,h7,i,h9,hi,J,rfl,h6⟩
  simp [h1,h2,h7,h9]
  refine ⟨fun h=>?_,fun h=>?_⟩
  ·have w1:IntKind.i64.wrap ((first:Int)+c.lines.length)=((first+c.lines.length:Nat):Int):=by rw [aK (by omega) (by omega)];omega
   have w2:IntKind.i64.wrap ((first:Int)+c.lines.length+i)=((first+c.lines.length+i:Nat):Int):=by rw [aK (by omega) (by omega)];omega
   have w3:IntKind.i64.wrap ((first:Int)+i)=((first+i:Nat):Int):=by rw [aK (by omega) (by omega)];omega
   have w4:0<i→IntKind.i64.wrap ((first:Int)+i-1)=((first+i-1:Nat):Int):=fun _=>by rw [aK (by omega) (by omega)];omega
   by_cases h0':0<i
   ·have w4:=w4 h0'
    by_cases hn':i<c.lines.length
    ·rcases h6 with ⟨h6,h6'⟩ | ⟨b,g,h6,hb⟩
     ·simp [w1,w2,w3,w4,h,h1,h2,h7,h9,h6',aE,ao,h0',hn',aj,au]
      rw [lq (e:=83) (e':=83) (by simp) (by simp) nO p5 (by simp) (by decide) _ (by simp) (by decide)]
      simp [h1,h2,h7,h9,ay (show i<c.lines.length+1 by omega) (by omega)]
      refine ⟨⟨i+1,by simp,by omega,?_⟩,by omega⟩
      refine kY ?_
      rw [dX,h6]
      simp [fw,br,h0',hn']
     ·have hJ:b<J.length:=(List.getElem?_eq_some_iff.1 hb).1
      simp [w1,w2,w3,w4,h,h1,h2,h7,h9,h6,aE,ao,h0',hn',aj,au]
      rw [pQ (e:=83) (e':=83) (g:=g) (rs:=dr c first i) (by simp) (by simp) nO p5 (by simp) (by decide) (by rw [bt];show (J++_)[b]?=_;rw [List.getElem?_append_left hJ];exact hb) (by omega) (by simp) (by simp [dr];omega)]
      simp [h1,h2,h7,h9,ay (show i<c.lines.length+1 by omega) (by omega),List.set_append_left,hJ]
      refine ⟨⟨i+1,by simp,by omega,?_⟩,by omega⟩
      refine mw hb ?_
      rw [dX]
      simp [fw,br,h0',hn']
    ·rcases h6 with ⟨h6,h6'⟩ | ⟨b,g,h6,hb⟩
     ·simp [w1,w2,w3,w4,h,h1,h2,h7,h9,h6',aE,ao,h0',hn',aj,au]
      rw [lq (e:=83) (e':=83) (by simp) (by simp) nO p5 (by simp) (by decide) _ (by simp) (by decide)]
      simp [h1,h2,h7,h9,ay (show i<c.lines.length+1 by omega) (by omega)]
      refine ⟨⟨i+1,by simp,by omega,?_⟩,by omega⟩
      refine kY ?_
      rw [dX,h6]
      simp [fw,br,h0',hn']
     ·have hJ:b<J.length:=(List.getElem?_eq_some_iff.1 hb).1
      simp [w1,w2,w3,w4,h,h1,h2,h7,h9,h6,aE,ao,h0',hn',aj,au]
      rw [pQ (e:=83) (e':=83) (g:=g) (rs:=dr c first i) (by simp) (by simp) nO p5 (by simp) (by decide) (by rw [bt];show (J++_)[b]?=_;rw [List.getElem?_append_left hJ];exact hb) (by omega) (by simp) (by simp [dr];omega)]
      simp [h1,h2,h7,h9,ay (show i<c.lines.length+1 by omega) (by omega),List.set_append_left,hJ]
      refine ⟨⟨i+1,by simp,by omega,?_⟩,by omega⟩
      refine mw hb ?_
      rw [dX]
      simp [fw,br,h0',hn']
   ·by_cases hn':i<c.lines.length
    ·rcases h6 with ⟨h6,h6'⟩ | ⟨b,g,h6,hb⟩
     ·simp [w1,w2,w3,w4,h,h1,h2,h7,h9,h6',aE,ao,h0',hn',aj,au]
      rw [lq (e:=83) (e':=83) (by simp) (by simp) nO p5 (by simp) (by decide) _ (by simp) (by decide)]
      simp [h1,h2,h7,h9,ay (show i<c.lines.length+1 by omega) (by omega)]
      refine ⟨⟨i+1,by simp,by omega,?_⟩,by omega⟩
      refine kY ?_
      rw [dX,h6]
      simp [fw,br,h0',hn']
     ·have hJ:b<J.length:=(List.getElem?_eq_some_iff.1 hb).1
      simp [w1,w2,w3,w4,h,h1,h2,h7,h9,h6,aE,ao,h0',hn',aj,au]
      rw [pQ (e:=83) (e':=83) (g:=g) (rs:=dr c first i) (by simp) (by simp) nO p5 (by simp) (by decide) (by rw [bt];show (J++_)[b]?=_;rw [List.getElem?_append_left hJ];exact hb) (by omega) (by simp) (by simp [dr];omega)]
      simp [h1,h2,h7,h9,ay (show i<c.lines.length+1 by omega) (by omega),List.set_append_left,hJ]
      refine ⟨⟨i+1,by simp,by omega,?_⟩,by omega⟩
      refine mw hb ?_
      rw [dX]
      simp [fw,br,h0',hn']
    ·rcases h6 with ⟨h6,h6'⟩ | ⟨b,g,h6,hb⟩
     ·simp [w1,w2,w3,w4,h,h1,h2,h7,h9,h6',aE,ao,h0',hn',aj,au]
      rw [lq (e:=83) (e':=83) (by simp) (by simp) nO p5 (by simp) (by decide) _ (by simp) (by decide)]
      simp [h1,h2,h7,h9,ay (show i<c.lines.length+1 by omega) (by omega)]
      refine ⟨⟨i+1,by simp,by omega,?_⟩,by omega⟩
      refine kY ?_
      rw [dX,h6]
      simp [fw,br,h0',hn']
     ·have hJ:b<J.length:=(List.getElem?_eq_some_iff.1 hb).1
      simp [w1,w2,w3,w4,h,h1,h2,h7,h9,h6,aE,ao,h0',hn',aj,au]
      rw [pQ (e:=83) (e':=83) (g:=g) (rs:=dr c first i) (by simp) (by simp) nO p5 (by simp) (by decide) (by rw [bt];show (J++_)[b]?=_;rw [List.getElem?_append_left hJ];exact hb) (by omega) (by simp) (by simp [dr];omega)]
      simp [h1,h2,h7,h9,ay (show i<c.lines.length+1 by omega) (by omega),List.set_append_left,hJ]
      refine ⟨⟨i+1,by simp,by omega,?_⟩,by omega⟩
      refine mw hb ?_
      rw [dX]
      simp [fw,br,h0',hn']
  ·have h:i=c.lines.length+1:=by omega
   subst h
   rcases h6 with ⟨h6,_⟩ | ⟨b,g,h6,hb⟩
   ·simp [dr,List.range_succ] at h6
   ·rw [h6,fF (H:=H++.rows 139 0 [c.cells]::.rows 33 0 [(br first).cells]::J) (rs:=dr c first (c.lines.length+1)) (by rw [bt];exact hb) (by omega) (aM aH.closed _)]
    simp [dr,cg,qr,k1,k2,k3,k4,k6,k7,aw]
end Go.Proofs.Ev
namespace Go.Proofs.Ev
open Go.Proofs
variable {C:bG}
def iv:Option ar→List ar→Int
 | _,[]=>0
 | p,x::l=>if bC x.d=true then 1 else if (match p with | none=>false | some y=>decide (0≤bZ y.d x.d))=true then 9 else iv (some x) l
def qb (l:List ar):Int:=if 100<l.length then 4 else iv none l
def oE (l:List ar):Nat→Option ar
 | 0=>none
 | k+1=>l[k]?
set_option maxHeartbeats 1000000 in
theorem HQ (S:ga C) (l:List ar) (K:SK):cE Tryz.prog C 194 [] [aw K (l.map ar.cells)] (.int .i64 (qb l)):=by
 refine aB (S.pure3 _ (by decide)) fun H=>am Tryz.func194 rfl (S.prim _ (by decide)) (by simp) (by kernel_rfl) ?_
 unfold Tryz.f194
 simp [aG]
 refine ⟨fun h=>by rw [qb,if_pos (by omega)],fun hle=>?_⟩
 have hle:l.length≤100:=by omega
 have hE:qb l=iv none l:=by rw [qb,if_neg (by omega)]
 refine cn (fun s H'=>H'=H∧s 0=aw K (l.map ar.cells)∧∃k:Nat,s 3=.int .i64 k∧k≤l.length∧qb l=iv (oE l k) (l.drop k)) (fun s _=>l.length-(match s 3 with | .int _ k=>k.toNat | _=>0)) ?_ ?_
 ·exact ⟨rfl,rfl,0,rfl,by omega,by simpa [oE] using hE⟩
 rintro s H' ⟨rfl,h0,k,h3,hk,hc⟩
 simp [h0,h3]
 refine ⟨fun h=>?_,fun h=>?_⟩
 ·rw [List.drop_eq_getElem_cons h] at hc
  simp only [iv] at hc
  have e1:∀base H K,aD Tryz.prog C base (.fn 76 []) [.agg l[k].cells] H K=K (.bool (bC l[k].d)) H:=(kD S.toaA l[k].d l[k].h).eq
  cases hz:bC l[k].d with
  | true =>
   rw [if_pos hz] at hc
   rw [hz] at e1
   simp [h,h0,h3,hc,e1]
  | false =>
   rw [if_neg (by simp [hz])] at hc
   rw [hz] at e1
   cases k with
   | zero =>
    simp only [oE] at hc
    simp [h,h0,h3,e1,an,show IntKind.i64.wrap 1=1 from rfl]
    exact ⟨⟨1,rfl,by omega,by simpa [oE,List.getElem?_eq_getElem h] using hc⟩,by omega⟩
   | succ k =>
    have hk1:k<l.length:=by omega
    have e2:∀base H K,aD Tryz.prog C base (.fn 34 []) [.agg l[k].cells,.agg l[k+1].cells] H K=K (.int .i64 (bZ l[k].d l[k+1].d)) H:=(nG (S.prim _ (by decide)) (S.pure _ (by decide)) l[k].d l[k+1].d l[k].h l[k+1].h).eq
    have w1:IntKind.i64.wrap (k:Int)=k:=gy (by omega)
    have w2:IntKind.i64.wrap ((k:Int)+1+1)=((k+2:Nat):Int):=by rw [aK (by omega) (by omega)];omega
    have t1:((k:Int)+1).toNat=k+1:=by omega
    have t2:(0:Int)≤(k:Int)+1:=by omega
    have t3:(k:Int)+1<l.length:=by omega
    have t4:(0:Int)<(k:Int)+1:=by omega
    simp only [oE,List.getElem?_eq_getElem hk1] at hc
    simp [h,h0,h3,e1,e2,an,w1,w2,t1,t2,t3,t4,hk1]
    refine ⟨fun h5=>by rw [hc,if_pos (by simpa using h5)],fun h5=>⟨⟨k+2,rfl,by omega,?_⟩,?_⟩⟩
    ·rw [hc,if_neg (by simpa using h5)];simp [oE,List.getElem?_eq_getElem h]
    ·rw [show ((k:Int)+2).toNat=k+2 by omega];exact rI h
 ·have h:k=l.length:=by omega
  subst h
  rw [List.drop_length] at hc
  simp only [iv] at hc
  exact hc.symm
end Go.Proofs.Ev
namespace Go.Proofs.Ev
open Go.Proofs
variable {C:bG}
theorem uo (c:aW) (first:Nat) (hl:c.lines.length≤2000):(cg c first).length≤4001∧cg c first≠[]:=by
 unfold cg
 repeat' split
 all_goals simp [List.range_succ]
 all_goals omega
theorem qf {c:aW} (h:gW c=0):c.lines.length≤2000:=by
 unfold gW at h
 split at h
 ·omega
 split at h
 ·omega
 rename_i h1 h2
 repeat (split at h;· omega)
 split at h
 ·rename_i hk
  unfold mr at h
  split at h
  ·omega
  split at h
  ·omega
  ·omega
 ·rename_i hk
  have h3:pb (kz c)=true:=by simpa using h2
  simp only [pb,Bool.and_eq_true,beq_iff_eq] at h3
  have h4:=h3.1.2
  have h5:(kz c).lines=c.lines:=by
   unfold kz oJ oI oH
   repeat' split
   all_goals first | rfl | omega | simp_all
  rw [h5] at h4
  omega
def kg:List aW→List aH→Int×List aH
 | [],own=>(0,own)
 | c::l,own=>if gW c≠0 then (gW c,[]) else if li c own≠0 then (li c own,[]) else kg l (own++cg c own.length)
def yM (l:List aW):SK:=if (kg l []).1≠0 then .nil else if l=[] then .exact else .loose
set_option maxHeartbeats 1000000 in
theorem Al (S:ga C) (l:List aW) (K:SK) (hl:l.length≤400) (hok:∀c∈l,c.Ok):cE Tryz.prog C 195 [] [aw K (l.map aW.cells)] (.tup [aw (yM l) ((kg l []).2.map aH.cells),.int .i64 (kg l []).1]):=by
 refine aB (S.pure3 _ (by decide)) fun H=>am Tryz.func195 rfl (S.prim _ (by decide)) (by simp) (by kernel_rfl) ?_
 unfold Tryz.f195
 simp [aG,aj,au]
 refine cn (fun s H'=>s 0=aw K (l.map aW.cells)∧∃k:Nat,∃own:List aH,∃J,s 5=.int .i64 k∧k≤l.length∧H'=H++J∧Grow H.length 172 J (s 4) (own.map aH.cells)∧own.length≤k*4001∧(own=[]→k=0)∧(k=0→s 4=.lst [] true)∧kg l []=kg (l.drop k) own) (fun s _=>l.length-(match s 5 with | .int _ k=>k.toNat | _=>0)) ?_ ?_
 ·exact ⟨rfl,0,[],[],rfl,by omega,by simp,.lst,by simp,by simp,fun _=>rfl,rfl⟩
 rintro s H' ⟨h0,k,own,J,h5,hk,rfl,hg,ho,hne,hz,hc⟩
 simp [h0,h5]
 refine ⟨fun h=>?_,fun h=>?_⟩
 ·have hck:=hok l[k] (List.getElem_mem h)
  rw [List.drop_eq_getElem_cons h] at hc
  simp only [kg] at hc
  have e1:=(CA S.todP l[k] hck).eq
  have e2:=fun base K=>(uM S.todP l[k] own (zs (s 4)) hck).eq (caps:=[]) (args:=[.agg l[k].cells,s 4]) base (H++J) (by
   rw [List.append_nil,List.mapM_cons,List.mapM_cons,List.mapM_nil,aq (v:=.agg l[k].cells) (by simp [AV.closed]),hg.freeze rfl (by omega) (aM aH.closed _)];rfl) K
  by_cases hf:gW l[k]=0
  ·by_cases hr:li l[k] own=0
   ·rw [if_neg (by simpa using hf),if_neg (by simpa using hr)] at hc
    have hln:=qf hf
    have hml:=uo l[k] own.length hln
    have e3:=(HX S l[k] own.length (by omega) (by omega)).eq
    have hlen:=fun t (e:TypeId) h HH=>Grow.len (P:=Tryz.prog) (t:=t) (e:=e) (H:=HH) h hg
    obtain ⟨v',J',ha,hg',_⟩:=Grow.append (P:=Tryz.prog) (base:=H.length) (e:=83) (e':=83) (ts:=#[87,87]) (by simp) (by simp) nO p5 (by simp) (by decide) (Nat.le_refl _) hg (oc (qr l[k]) ((cg l[k] own.length).map aH.cells)) (by simp) (by simp;omega)
    have hl1:=hlen 87 83 (by simp) (H++J)
    simp [h,h0,h5,e1,hf,e2,hr,hl1,e3,ha,ay h (by omega)]
    refine ⟨⟨k+1,by simp,by omega,own++cg l[k] own.length,by simpa using hg',by simp;omega,fun h=>absurd (List.append_eq_nil_iff.1 h).2 hml.2,by simp,hc⟩,rI h⟩
   ·rw [if_neg (by simpa using hf),if_pos hr] at hc
    simp [h,h0,h5,e1,hf,e2,hr]
    simp [hc,yM,hr,aw,aq,AV.closed,AV.closeds]
  ·rw [if_pos hf] at hc
   simp [h,h0,h5,e1,hf]
   simp [hc,yM,hf,aw,aq,AV.closed,AV.closeds]
 ·have h:k=l.length:=by omega
  subst h
  rw [List.drop_length] at hc
  simp only [kg] at hc
  refine bN ?_ (by simp [hc])
  rw [hg.freeze rfl (Nat.le_refl _) (aM aH.closed _),hc]
  have hK:zs (s 4)=yM l∨own=[]∧(yM l=.exact∧s 4=.lst [] true):=by
   by_cases h0:l.length=0
   ·right
    have:=hz h0
    have hl0:l=[]:=List.length_eq_zero_iff.1 h0
    subst hl0
    refine ⟨?_,rfl,this⟩
    have:=hc;simp [kg] at this;exact this
   ·left
    have h2:own≠[]:=fun h=>h0 (hne h)
    have hl0:l≠[]:=fun h=>h0 (by rw [h];rfl)
    rcases hg with ⟨h3,_⟩ | ⟨b,g,h3,_⟩
    ·simp at h3;exact absurd h3 h2
    ·rw [h3];simp [zs,yM,hc,hl0]
  rcases hK with h1 | ⟨h1,h2,h3⟩
  ·rw [h1]
  ·rw [h1,h2,h3];rfl
end Go.Proofs.Ev
namespace Go.Proofs.Ev
open Go.Proofs
variable {C:bG}
structure aC.Ok (p:aC):Prop where
 author:p.author.length≤2^40
 message:p.message.length≤2^40
 depsN:p.deps.length≤2^40
 changesN:p.changes.length≤2^40
 changes:∀c∈p.changes,c.Ok
def headE (p:aC):Int :=
 if qt p.author=false then 5
 else if 1000<(p.message.length:Int) then 4
 else if (decide (p.time<0)||decide (1099511627776<p.time))=true then 2
 else if qb p.deps≠0 then qb p.deps
 else if p.changes.length=0 then 1
 else if 400<(p.changes.length:Int) then 4 else 0
def kf (p:aC):Int:=if headE p≠0 then headE p else (kg p.changes []).1
def aR (p:aC):List aH:=if headE p≠0 then [] else (kg p.changes []).2
def iM (p:aC):SK:=if headE p≠0 then .nil else yM p.changes
def m0 (p:aC):AV:=.tup [aw (iM p) ((aR p).map aH.cells),.int .i64 (kf p)]
theorem tD {p:aC} {e:Int} (h:headE p=e) (he:e≠0):AV.tup [.nils,.int .i64 e]=m0 p:=by
 subst h
 simp [m0,kf,aR,iM,he,aw]
theorem D9 {p:aC} (h:headE p=0):AV.tup [aw (yM p.changes) ((kg p.changes []).2.map aH.cells),.int .i64 (kg p.changes []).1]=m0 p:=by
 simp [m0,kf,aR,iM,h]
theorem PH {p:aC} (h:400<p.changes.length):headE p≠0:=by
 unfold headE
 repeat' split
 all_goals omega
set_option maxRecDepth 100000 in
set_option maxHeartbeats 2000000 in
theorem wy (S:ga C) (p:aC) (hp:p.Ok):cE Tryz.prog C 128 [] [.agg p.cells] (m0 p):=by
 refine aB (S.pure3 _ (by decide)) fun H=>am Tryz.func128 rfl (S.prim _ (by decide)) (by simp) (by kernel_rfl) ?_
 unfold Tryz.f128
 have e1:=(Aq (S.prim _ (by decide)) (S.pure _ (by decide)) p.author hp.author).eq
 have e2:=(HQ S p.deps p.depsK).eq
 by_cases hl:400<p.changes.length
 ·have hl':(400:Int)<p.changes.length:=by omega
  simp +contextual [-Bool.not_and,-Bool.not_or,aG,an,e1,e2,hl']
  clear e1 e2
  repeat' (first | (refine And.intro ?_ ?_) | intro _)
  all_goals first
   | omega
   | (rw [aq (by simp [AV.closed,AV.closeds])];refine congrArg some (tD ?_ ?_)<;>grind [headE])
 ·have hl':¬(400:Int)<p.changes.length:=by omega
  have e3:=(Al S p.changes p.changesK (by omega) hp.changes).eq
  simp +contextual [-Bool.not_and,-Bool.not_or,aG,an,e1,e2,e3,hl']
  clear e1 e2 e3
  repeat' (first | (refine And.intro ?_ ?_) | intro _)
  all_goals first
   | omega
   | (rw [aq (by simp [AV.closed,AV.closeds])];refine congrArg some (tD ?_ ?_)<;>grind [headE])
   | (rw [aq (by simp [AV.closed,AV.closeds,cP,aM aH.closed])];refine congrArg some (D9 ?_);grind [headE])
end Go.Proofs.Ev
namespace Go.Proofs.Ev
variable {P:Program} {C:bG} {N base:Nat}
@[simp ↓] theorem nR (g:Operand) (ps:Array Tmp) (assign body:Code) (s:Sl) (H:ag) (Q:di):je P C N base (.rangeFunc g ps assign body) s H Q=AW P C N base g ps assign body s H Q:=rfl
def wR (b:Nat) (s:Sl) (Q:di) (H2:ag):Prop :=
 match H2[b]? with
 | some (.loop true none _ _ _ _)=>Q .normal s (H2.set b .dead)
 | some (.loop false (some .ret) _ _ _ _)=>Q .ret s (H2.set b .dead)
 | some (.loop false (some (.exit i)) _ _ _ _)=>Q (.exit i) s (H2.set b .dead)
 | _=>False
def cL (l:List AV) (ps:List Tmp) (assign body:Code):bQ:=.loop true none l ps assign body
def mZ (l:List AV) (ps:List Tmp) (assign body:Code):bQ:=.loop false none l ps assign body
def yX (e:jG) (l:List AV) (ps:List Tmp) (assign body:Code):bQ:=.loop e.code.isNone e.code l ps assign body
@[simp] theorem Js (l:List AV) (ps:List Tmp) (assign body:Code):yX .normal l ps assign body=cL l ps assign body:=rfl
theorem gf {b:Nat} {s:Sl} {Q:di} {H2:ag} {l:List AV} {ps:List Tmp} {assign body:Code} (h:H2[b]?=some (cL l ps assign body)):wR b s Q H2=Q .normal s (H2.set b .dead):=by
 simp only [wR,h,cL]
theorem il {g:Operand} {ps:Array Tmp} {assign body:Code} {s:Sl} {H:ag} {Q:di} {f:FuncId} {caps:List AV} (hg:bX s g=.fn f caps)
 (h:∀l,lT N l s→dW P C base f (.yld H.length::caps) (H++[cL l ps.toList assign body]) fun _ H2=>wR H.length s Q H2):AW P C N base g ps assign body s H Q:=by
 intro l hr
 obtain ⟨n,v,H2,h1,h2⟩:=h l hr
 have hv:aU l g=.fn f caps:=(hr.val g).trans hg
 unfold wR at h2
 split at h2
 ·rename_i hb
  exact ⟨n+2,.normal,l,s,_,by simp only [aV,hv,cL] at h1 ⊢;rw [km (Nat.le_succ n) h1];simp only [hb],hr,h2⟩
 ·rename_i hb
  exact ⟨n+2,.ret,l,s,_,by simp only [aV,hv,cL] at h1 ⊢;rw [km (Nat.le_succ n) h1];simp only [hb,aV],hr,h2⟩
 ·rename_i i _ _ _ _ hb
  exact ⟨n+2,.exit i,l,s,_,by simp only [aV,hv,cL] at h1 ⊢;rw [km (Nat.le_succ n) h1];simp only [hb,aV],hr,h2⟩
 ·exact h2.elim
def vw:List Tmp→List AV→Sl→Sl
 | p::ps,v::args,s=>vw ps args (Lv s p v)
 | _,_,s=>s
@[simp] theorem NL (p:Tmp) (ps:List Tmp) (v:AV) (args:List AV) (s:Sl):vw (p::ps) (v::args) s=vw ps args (Lv s p v):=rfl
@[simp] theorem OU (s:Sl):vw [] [] s=s:=rfl
theorem lT.params:∀{ps:List Tmp} {args:List AV} {l:List AV} {s:Sl},lT N l s→(∀p∈ps,p<N)→lT N (dJ ps args l) (vw ps args s)
 | [],_,_,_,h,_=>by unfold dJ vw;exact h
 | _::_,[],_,_,h,_=>by unfold dJ vw;exact h
 | p::ps,v::args,l,s,h,hp=>by
  unfold dJ vw
  exact lT.params (h.put (dst:=some p) (hp p (by simp)) v) fun q hq=>hp q (by simp [hq])
theorem ir {b:Nat} {l:List AV} {s:Sl} {ps:List Tmp} {assign body:Code} {args:List AV} {H:ag} {K:AV→ag→Prop} (hr:lT N l s) (hget:H[b]?=some (cL l ps assign body)) (hbase:base≤b)
 (hlen:args.length=ps.length) (hps:∀p∈ps,p<N) (hsa:kJ P assign=true) (hsb:kJ P body=true)
 (h:je P C N base assign (vw ps args s) H (Bn (fun s1 H1=>H1[b]?=some (cL l ps assign body)∧
  je P C N base body s1 (H1.set b (mZ l ps assign body)) fun e _ H3=>H3[b]?=some (mZ l ps assign body)∧K (.bool e.code.isNone) (H3.set b (yX e l ps assign body))) fun _ _ _=>False)) :
 aD P C base (.yld b) args H K:=by
 obtain ⟨n,e,l1,s1,H1,h1,h2,h3⟩:=fL hsa h (hr.params hps)
 cases e with
 | exit i=>exact h3.elim
 | ret=>exact h3.elim
 | normal =>
  obtain ⟨hg1,h3⟩:=h3
  obtain ⟨m,e2,l2,s2,H3,h4,h5,hg3,h6⟩:=fL hsb h3 h2
  refine ⟨n+m+1,.bool e2.code.isNone,H3.set b (yX e2 l ps assign body),?_,h6⟩
  have a1:=gn (Nat.le_add_right n m) h1
  have a2:=gn (Nat.le_add_left m n) h4
  simp only [cL,mZ] at hget hg1 hg3 a2
  simp only [dp,hget,if_pos (And.intro hbase hlen),a1,hg1,a2,hg3,yX]
theorem aD.eq {f:AV} {args:List AV} {H:ag} {v:AV} {H':ag} (h:aD P C base f args H fun v' H''=>v'=v∧H''=H') (K:AV→ag→Prop):aD P C base f args H K=K v H':=by
 obtain ⟨n,v1,H1,h1,rfl,rfl⟩:=h
 apply propext
 constructor
 ·rintro ⟨m,v2,H2,h2,h3⟩
  have e1:=jg (Nat.le_max_left n m) h1
  have e2:=jg (Nat.le_max_right n m) h2
  rw [e1] at e2
  simp only [Option.some.injEq,Prod.mk.injEq] at e2
  obtain ⟨rfl,rfl⟩:=e2
  exact h3
 ·intro h2;exact ⟨n,_,_,h1,h2⟩
def Jm (I:Nat→Sl→ag→Prop) (n k:Nat) (Q:di):di:=fun e s H=>match e with | .normal=>k<n∧I (k+1) s H | .exit i=>Q (.exit i) s H | .ret=>Q .ret s H
@[simp ↓] theorem K3 (I:Nat→Sl→ag→Prop) (n k:Nat) (Q:di) (s:Sl) (H:ag):Jm I n k Q .normal s H=(k<n∧I (k+1) s H):=rfl
@[simp ↓] theorem M9 (I:Nat→Sl→ag→Prop) (n k:Nat) (Q:di) (i:Nat) (s:Sl) (H:ag):Jm I n k Q (.exit i) s H=Q (.exit i) s H:=rfl
@[simp ↓] theorem N1 (I:Nat→Sl→ag→Prop) (n k:Nat) (Q:di) (s:Sl) (H:ag):Jm I n k Q .ret s H=Q .ret s H:=rfl
theorem az {b:Code} {Q:di} (n:Nat) (I:Nat→Sl→ag→Prop) {s:Sl} {H:ag} (h0:I 0 s H)
 (hstep:∀k s H,I k s H→k≤n→je P C N base b s H (Jm I n k Q)):FZ P C N base b s H Q:=by
 have key:∀j k s H,I k s H→k≤n→n-k<j→qq (je P C N base b) Q j s H:=by
  intro j
  induction j with
  | zero=>intro k s H _ _ h;omega
  | succ j ih =>
   intro k s H hi hk hj
   unfold qq
   refine gU (fun e s' H' h=>?_) (hstep k s H hi hk)
   cases e with
   | normal=>exact ih (k+1) s' H' h.2 (by have:=h.1;omega) (by have:=h.1;omega)
   | exit i=>exact h
   | ret=>exact h
 exact ⟨n+1,key _ 0 _ _ h0 (by omega) (by omega)⟩
end Go.Proofs.Ev
namespace Go.Proofs.Ev
inductive SX where
 | mk (isList:Bool) (atom:List UInt8) (list:List SX) (k:SK)
mutual
def SX.cells:SX→List AV
 | .mk b a l k=>[.bool b,.str a,aw k (SX.rows l)]
def SX.rows:List SX→List (List AV)
 | []=>[]
 | x::l=>SX.cells x::SX.rows l
end
mutual
def SX.nodes:SX→Nat
 | .mk _ _ l _=>SX.nodess l+1
def SX.nodess:List SX→Nat
 | []=>0
 | x::l=>SX.nodes x+SX.nodess l
end
theorem SX.rows_map:∀l:List SX,SX.rows l=l.map SX.cells
 | []=>rfl
 | x::l=>by rw [SX.rows,SX.rows_map l];rfl
def SX.isList:SX→Bool | .mk b _ _ _=>b
def SX.atom:SX→List UInt8 | .mk _ a _ _=>a
def SX.list:SX→List SX | .mk _ _ l _=>l
def SX.k:SX→SK | .mk _ _ _ k=>k
theorem SX.cells_eq (x:SX):x.cells=[.bool x.isList,.str x.atom,aw x.k (x.list.map SX.cells)]:=by
 cases x with | mk b a l k=>rw [SX.cells,SX.rows_map];rfl
@[simp] theorem SX.len (x:SX):x.cells.length=3:=by rw [x.cells_eq];rfl
@[simp] theorem SX.leafs (x:SX):x.cells.all AV.leaf=true:=by rw [x.cells_eq];simp
theorem SX.nodes_eq (x:SX):x.nodes=SX.nodess x.list+1:=by cases x;rw [SX.nodes];rfl
theorem SX.nodes_pos (x:SX):0<x.nodes:=by rw [x.nodes_eq];omega
theorem SX.nodes_mem:∀{l:List SX} {y:SX},y∈l→y.nodes≤SX.nodess l
 | x::l,y,h=>by
  rw [SX.nodess]
  rcases List.mem_cons.1 h with rfl | h
  ·omega
  ·have:=SX.nodes_mem h;omega
theorem SX.closedss_of:∀{l:List SX},(∀y∈l,AV.closeds y.cells=true)→AV.closedss (l.map SX.cells)=true
 | [],_=>rfl
 | x::l,h=>by
  have h1:=SX.closedss_of (l:=l) fun y hy=>h y (List.mem_cons_of_mem _ hy)
  simp only [List.map_cons,AV.closedss,h x List.mem_cons_self,h1,Bool.and_self]
theorem SX.closed_n:∀(n:Nat) (x:SX),x.nodes≤n→AV.closeds x.cells=true
 | 0,x,h=>by have:=x.nodes_pos;omega
 | n+1,x,h=>by
  rw [x.cells_eq]
  have hc:=cP (k:=x.k) (SX.closedss_of (l:=x.list) fun y hy=>SX.closed_n n y (by have:=SX.nodes_mem hy;rw [x.nodes_eq] at h;omega))
  simp only [AV.closeds,AV.closed,hc,Bool.and_self]
@[simp] theorem SX.closed (x:SX):AV.closeds x.cells=true:=SX.closed_n _ x (Nat.le_refl _)
def ld (n:Nat):List UInt8:=if n<10 then [UInt8.ofNat (48+n)] else ld (n / 10)++[UInt8.ofNat (48+n % 10)]
def m6 (n:Int):List UInt8:=if n<0 then 45::ld n.natAbs else ld n.toNat
theorem m7:∀(k n:Nat),n<10^k→0<k→(ld n).length≤k
 | 0,_,_,h=>by omega
 | k+1,n,h,_=>by
  rw [ld]
  split
  ·simp
  ·rename_i h10
   have hk:0<k:=by
    rcases Nat.eq_zero_or_pos k with rfl | hk
    ·simp at h;omega
    ·exact hk
   have:=m7 k (n / 10) (by rw [Nat.pow_succ] at h;omega) hk
   simp;omega
mutual
def SX.enc:SX→List UInt8
 | .mk false a _ _=>ld a.length++58::a
 | .mk true _ l _=>40::SX.encs l++[41]
def SX.encs:List SX→List UInt8
 | []=>[]
 | x::l=>SX.enc x++SX.encs l
end
theorem SX.encs_append:∀a b:List SX,SX.encs (a++b)=SX.encs a++SX.encs b
 | [],b=>by simp [SX.encs]
 | x::a,b=>by simp [SX.encs,SX.encs_append a b]
mutual
def SX.chk:SX→Int
 | .mk false a l _=>if 0<l.length then 1 else if 65536<a.length then 4 else 0
 | .mk true a l _=>if a≠[] then 1 else SX.chks l
def SX.chks:List SX→Int
 | []=>0
 | x::l=>if SX.chk x≠0 then SX.chk x else SX.chks l
end
mutual
def SX.cnt:SX→Int→Int→Int
 | .mk b _ l _,lim,dep=>if dep<1∨lim<1 then lim+1 else if b then SX.cnts l lim (dep-1) 1 else 1
def SX.cnts:List SX→Int→Int→Int→Int
 | [],_,_,n=>n
 | x::l,lim,dep,n=>if n≤lim then SX.cnts l lim dep (n+SX.cnt x (lim-n) dep) else n
end
theorem SX.cnt_n:∀(n:Nat) (x:SX) (lim dep:Int),x.nodes≤n→0≤lim→1≤x.cnt lim dep∧x.cnt lim dep≤lim+1∧(x.chk=0→x.cnt lim dep≤lim→x.cnt lim dep=x.nodes)
 | 0,x,_,_,h,_=>by have:=x.nodes_pos;omega
 | n+1,.mk b a l k,lim,dep,h,hl=>by
  rw [SX.nodes] at h
  have key:∀(l:List SX),SX.nodess l≤n→∀m:Int,1≤m→m≤lim+1→m≤SX.cnts l lim (dep-1) m∧SX.cnts l lim (dep-1) m≤lim+1∧(SX.chks l=0→SX.cnts l lim (dep-1) m≤lim→SX.cnts l lim (dep-1) m=m+SX.nodess l):=by
   intro l
   induction l with
   | nil=>intro _ m h1 h2;simp [SX.cnts,SX.nodess,h2]
   | cons x l ih =>
    intro hn m h1 h2
    rw [SX.nodess] at hn
    rw [SX.cnts]
    by_cases hm:m≤lim
    ·rw [if_pos hm]
     obtain ⟨a1,a2,a3⟩:=SX.cnt_n n x (lim-m) (dep-1) (by omega) (by omega)
     obtain ⟨b1,b2,b3⟩:=ih (by omega) (m+x.cnt (lim-m) (dep-1)) (by omega) (by omega)
     refine ⟨by omega,b2,fun hc hle=>?_⟩
     rw [SX.chks] at hc
     by_cases h0:x.chk=0
     ·rw [if_neg (by simpa using h0)] at hc
      have e1:=b3 hc hle
      have e2:=a3 h0 (by omega)
      rw [e1,e2,SX.nodess];omega
     ·rw [if_pos h0] at hc;exact absurd hc h0
    ·rw [if_neg hm]
     exact ⟨by omega,h2,fun _ h=>absurd h hm⟩
  rw [SX.cnt]
  by_cases hd:dep<1∨lim<1
  ·rw [if_pos hd];exact ⟨by omega,by omega,fun _ h=>by omega⟩
  ·rw [if_neg hd]
   cases b with
   | false =>
    simp only [Bool.false_eq_true,if_false]
    refine ⟨by omega,by omega,fun hc _=>?_⟩
    rw [SX.chk] at hc
    have:l=[]:=by
     cases l with
     | nil=>rfl
     | cons x l=>simp at hc
    subst this;simp [SX.nodes,SX.nodess]
   | true =>
    simp only [if_true]
    obtain ⟨b1,b2,b3⟩:=key l (by omega) 1 (by omega) (by omega)
    refine ⟨b1,b2,fun hc hle=>?_⟩
    rw [SX.chk] at hc
    split at hc
    ·simp at hc
    ·rw [b3 hc hle,SX.nodes];omega
theorem SX.enc_len:∀(n:Nat) (x:SX),x.nodes≤n→x.chk=0→x.enc.length≤x.nodes*65544
 | 0,x,h,_=>by have:=x.nodes_pos;omega
 | n+1,.mk b a l k,h,hc=>by
  rw [SX.nodes] at h
  have key:∀(l:List SX),SX.nodess l≤n→SX.chks l=0→(SX.encs l).length≤SX.nodess l*65544:=by
   intro l
   induction l with
   | nil=>intro _ _;simp [SX.encs]
   | cons x l ih =>
    intro hn hc
    rw [SX.nodess] at hn
    rw [SX.chks] at hc
    by_cases h0:x.chk=0
    ·rw [if_neg (by simpa using h0)] at hc
     have e1:=ih (by omega) hc
     have e2:=SX.enc_len n x (by omega) h0
     rw [SX.encs,SX.nodess,List.length_append];omega
    ·rw [if_pos h0] at hc;exact absurd hc h0
  rw [SX.nodes]
  cases b with
  | false =>
   rw [SX.chk] at hc
   by_cases h1:0<l.length
   ·rw [if_pos h1] at hc;cases hc
   ·rw [if_neg h1] at hc
    by_cases h2:65536<a.length
    ·rw [if_pos h2] at hc;cases hc
    ·rw [SX.enc]
     have:=m7 5 a.length (by omega) (by decide)
     simp;omega
  | true =>
   rw [SX.chk] at hc
   split at hc
   ·cases hc
   ·have:=key l (by omega) hc
    rw [SX.enc];simp;omega
theorem SX.chks_mem:∀{l:List SX} {y:SX},SX.chks l=0→y∈l→y.chk=0
 | x::l,y,h,hm=>by
  rw [SX.chks] at h
  by_cases h0:x.chk=0
  ·rw [if_neg (by simpa using h0)] at h
   rcases List.mem_cons.1 hm with rfl | hm
   ·exact h0
   ·exact SX.chks_mem h hm
  ·rw [if_pos h0] at h;exact absurd h h0
theorem SX.encs_take_len (n:Nat):∀(l:List SX),SX.chks l=0→SX.nodess l≤n→∀i,(SX.encs (l.take i)).length≤SX.nodess l*65544
 | [],_,_,i=>by simp [SX.encs]
 | x::l,h,hn,0=>by simp [SX.encs]
 | x::l,h,hn,i+1=>by
  rw [SX.chks] at h
  rw [SX.nodess] at hn
  by_cases h0:x.chk=0
  ·rw [if_neg (by simpa using h0)] at h
   have e1:=SX.encs_take_len n l h (by omega) i
   have e2:=SX.enc_len n x (by omega) h0
   rw [List.take_succ_cons,SX.encs,SX.nodess,List.length_append];omega
  ·rw [if_pos h0] at h;exact absurd h h0
end Go.Proofs.Ev
namespace Go.Proofs.Ev
abbrev oo:=BitVec 32
def bW (x:oo):AV:=.int .u32 (x.toNat:Int)
section
variable {P:Program} {C:bG} (t:TypeId) (x y:oo)
theorem sV:BitVec.ofInt 32 (x.toNat:Int)=x:=by
 apply BitVec.eq_of_toNat_eq
 rw [BitVec.toNat_ofInt]
 have:=x.isLt
 omega
theorem yl:IntKind.u32.wrap (x.toNat:Int)=(x.toNat:Int):=by have:=x.isLt;exact IntWalk.u32_in _ (by omega)
theorem wM:bU P C .add t (bW x) (bW y)=some (bW (x+y)):=by
 simp only [bW,Je,BitVec.toNat_add,Option.some.injEq,AV.int.injEq,true_and]
 rw [IntKind.wrap_u32];omega
theorem Lw:bU P C .and t (bW x) (bW y)=some (bW (x &&& y)):=by
 simp only [bW,bU,IntKind.bits,sV,if_true]
 exact congrArg (fun z=>some (AV.int .u32 z)) (yl _)
theorem KM:bU P C .or t (bW x) (bW y)=some (bW (x ||| y)):=by
 simp only [bW,bU,IntKind.bits,sV,if_true]
 exact congrArg (fun z=>some (AV.int .u32 z)) (yl _)
theorem DN:bU P C .xor t (bW x) (bW y)=some (bW (x ^^^ y)):=by
 simp only [bW,bU,IntKind.bits,sV,if_true]
 exact congrArg (fun z=>some (AV.int .u32 z)) (yl _)
theorem Lx:Lu .xor (bW x)=some (bW (~~~x)):=by
 have e:BitVec.ofInt 32 (IntKind.max .u32) ^^^ x = ~~~x:=by
  have:BitVec.ofInt 32 (IntKind.max .u32)=BitVec.allOnes 32:=by decide
  rw [this,BitVec.allOnes_xor]
 show some (AV.int .u32 (IntKind.u32.wrap ((BitVec.ofInt 32 (IntKind.max .u32) ^^^ BitVec.ofInt 32 (x.toNat:Int)).toNat:Int)))=_
 rw [sV,e,yl];rfl
theorem sw (k:IntKind) (n:Nat) (h:n≤32):bU P C .shr t (bW x) (.int k (n:Int))=some (bW (x >>> n)):=by
 simp only [bW,bU,IntKind.bits]
 rw [if_pos (by omega)]
 have e:min (n:Int).toNat 32=n:=by omega
 rw [e,BitVec.toNat_ushiftRight,Nat.shiftRight_eq_div_pow]
 congr 2
 have:((2:Int)^n)=((2^n:Nat):Int):=by simp
 rw [this,Int.fdiv_eq_ediv_of_nonneg _ (Int.natCast_nonneg _)]
 rfl
theorem wN (k:IntKind) (n:Nat) (h:n≤32):bU P C .shl t (bW x) (.int k (n:Int))=some (bW (x <<< n)):=by
 simp only [bW,bU,IntKind.bits]
 rw [if_pos (by omega)]
 have e:min (n:Int).toNat 32=n:=by omega
 rw [e,BitVec.toNat_shiftLeft,Nat.shiftLeft_eq,IntKind.wrap_u32]
 congr 2
end
def fa (x:oo) (n:Nat):oo:=x >>> n ||| x <<< (32-n)
def pB:List oo:=[
 0x428a2f98,0x71374491,0xb5c0fbcf,0xe9b5dba5,0x3956c25b,0x59f111f1,0x923f82a4,0xab1c5ed5,
 0xd807aa98,0x12835b01,0x243185be,0x550c7dc3,0x72be5d74,0x80deb1fe,0x9bdc06a7,0xc19bf174,
 0xe49b69c1,0xefbe4786,0x0fc19dc6,0x240ca1cc,0x2de92c6f,0x4a7484aa,0x5cb0a9dc,0x76f988da,
 0x983e5152,0xa831c66d,0xb00327c8,0xbf597fc7,0xc6e00bf3,0xd5a79147,0x06ca6351,0x14292967,
 0x27b70a85,0x2e1b2138,0x4d2c6dfc,0x53380d13,0x650a7354,0x766a0abb,0x81c2c92e,0x92722c85,
 0xa2bfe8a1,0xa81a664b,0xc24b8b70,0xc76c51a3,0xd192e819,0xd6990624,0xf40e3585,0x106aa070,
 0x19a4c116,0x1e376c08,0x2748774c,0x34b0bcb5,0x391c0cb3,0x4ed8aa4a,0x5b9cca4f,0x682e6ff3,
 0x748f82ee,0x78a5636f,0x84c87814,0x8cc70208,0x90befffa,0xa4506ceb,0xbef9a3f7,0xc67178f2]
def kW (b:UInt8):oo:=BitVec.ofNat 32 b.toNat
def rL (block:List UInt8) (t:Nat):oo :=
 kW (block.getD (4*t) 0) <<< 24 ||| kW (block.getD (4*t+1) 0) <<< 16 ||| kW (block.getD (4*t+2) 0) <<< 8 ||| kW (block.getD (4*t+3) 0)
def sg (w:List oo):oo :=
 let t:=w.length
 let x:=w.getD (t-15) 0
 let y:=w.getD (t-2) 0
 ((fa y 17 ^^^ fa y 19 ^^^ y >>> 10)+w.getD (t-7) 0+(fa x 7 ^^^ fa x 18 ^^^ x >>> 3))+w.getD (t-16) 0
def bu (block:List UInt8):Nat→List oo
 | 0=>[]
 | t+1=>let w:=bu block t;w++[if t<16 then rL block t else sg w]
theorem df (block:List UInt8):∀t,(bu block t).length=t
 | 0=>rfl
 | t+1=>by simp [bu,df block t]
structure vz where
 (a b c d e f g h:oo)
def vz.list (s:vz):List oo:=[s.a,s.b,s.c,s.d,s.e,s.f,s.g,s.h]
def CG (s:vz) (k w:oo):vz :=
 let t1:=s.h+(fa s.e 6 ^^^ fa s.e 11 ^^^ fa s.e 25)+(s.e &&& s.f ^^^ ~~~s.e &&& s.g)+k+w
 let t2:=(fa s.a 2 ^^^ fa s.a 13 ^^^ fa s.a 22)+(s.a &&& s.b ^^^ s.a &&& s.c ^^^ s.b &&& s.c)
 ⟨t1+t2,s.a,s.b,s.c,s.d+t1,s.e,s.f,s.g⟩
def cO (block:List UInt8) (s:vz):Nat→vz
 | 0=>s
 | t+1=>CG (cO block s t) (pB.getD t 0) ((bu block 64).getD t 0)
def nM (s:vz) (block:List UInt8):vz :=
 let v:=cO block s 64
 ⟨s.a+v.a,s.b+v.b,s.c+v.c,s.d+v.d,s.e+v.e,s.f+v.f,s.g+v.g,s.h+v.h⟩
def oz:vz:=⟨0x6a09e667,0xbb67ae85,0x3c6ef372,0xa54ff53a,0x510e527f,0x9b05688c,0x1f83d9ab,0x5be0cd19⟩
def cx (n:Nat):List UInt8:=(List.range 8).map fun i=>UInt8.ofNat ((n*8 % 18446744073709551616) / 2^(8*(7-i)))
def de (s:List UInt8):List UInt8:=s++128::List.replicate ((120-(s.length+1) % 64) % 64) 0++cx s.length
def kU (m:List UInt8):Nat→List (List UInt8)
 | 0=>[]
 | n+1=>m.take 64::kU (m.drop 64) n
def qE (s:List UInt8):vz:=(kU (de s) ((de s).length / 64)).foldl nM oz
def sL (l:List oo):List Nat:=(List.range 32).map fun i=>((l.getD (i / 4) 0).toNat / 2^(24-8*(i % 4))) % 256
def AQ (s:List UInt8):List Nat:=sL (qE s).list
@[simp] theorem KE (s:List UInt8):(AQ s).length=32:=by simp [AQ,sL]
theorem DE (s:List UInt8):∀x∈AQ s,x<256:=by
 intro x hx
 unfold AQ sL at hx
 obtain ⟨i,_,rfl⟩:=List.mem_map.1 hx
 exact Nat.mod_lt _ (by decide)
end Go.Proofs.Ev
namespace Go.Proofs.Ev
open Go.Proofs
variable {C:bG}
structure d6 (C:bG):Prop extends ga C where
 pure4:∀f,f∈[267,320,318,319,265,266]→C.pure f=true
 frz4:∀f,f∈[198]→C.pure f=false∧C.frz f=true
 plain4:∀f,f∈[199]→C.pure f=false∧C.frz f=false
@[simp] theorem SX.take3 (x:SX):x.cells.take 3=x.cells:=List.take_of_length_le (by simp)
@[simp] theorem SX.drop0 (x:SX):x.cells.drop 0=x.cells:=rfl
theorem SX.length_le:∀l:List SX,l.length≤SX.nodess l
 | []=>Nat.le_refl _
 | x::l=>by have:=SX.length_le l;have:=x.nodes_pos;rw [SX.nodess,List.length_cons];omega
set_option maxRecDepth 100000 in
set_option maxHeartbeats 2000000 in
theorem wA (S:d6 C):∀(n:Nat) (x:SX) (lim dep:Int),x.nodes≤n→n≤2^60→0≤lim→lim≤2^40→0≤dep→dep≤2^40→
 cE Tryz.prog C 318 [] [.agg x.cells,.int .i64 lim,.int .i64 dep] (.int .i64 (x.cnt lim dep))
 | 0,x,_,_,h,_,_,_,_,_=>by have:=x.nodes_pos;omega
 | n+1,.mk b a l k,lim,dep,hn,hn2,hl,hl2,hd,hd2=>by
  have ih:=wA S n
  refine aB (S.pure4 _ (by decide)) fun H=>am Tryz.func318 rfl (S.prim _ (by decide)) (by simp) (by kernel_rfl) ?_
  unfold Tryz.f318
  rw [SX.nodes] at hn
  have hll:=SX.length_le l
  rw [SX.cells,SX.rows_map]
  by_cases h0:dep<1∨lim<1
  ·have w1:IntKind.i64.wrap (lim+1)=lim+1:=aK (by omega) (by omega)
   rcases h0 with h0 | h0
   ·simp [aG,an,h0,SX.cnt,w1]
   ·by_cases h1:dep<1
    ·simp [aG,an,h1,SX.cnt,w1]
    ·simp [aG,an,h0,h1,SX.cnt,w1]
  ·have h1:¬dep<1:=by omega
   have h2:¬lim<1:=by omega
   cases b with
   | false=>simp [aG,an,h1,h2,SX.cnt]
   | true =>
    have hx:(SX.mk true a l k).cnt lim dep=SX.cnts l lim (dep-1) 1:=by rw [SX.cnt,if_neg (by omega)];rfl
    rw [hx]
    simp [aG,an,h1,h2]
    refine az l.length (fun i s H'=>H'=H++[.rows 3 0 [[.bool true,.str a,aw k (l.map SX.cells)]]]∧s 3=.ptr H.length 0 3 0 0∧s 1=.int .i64 lim∧s 2=.int .i64 dep∧s 8=.int .i64 i∧
     ∃m:Int,s 7=.int .i64 m∧1≤m∧m≤lim+1∧SX.cnts l lim (dep-1) 1=SX.cnts (l.drop i) lim (dep-1) m) ?_ ?_
    ·exact ⟨rfl,rfl,rfl,rfl,rfl,1,rfl,by omega,by omega,rfl⟩
    rintro i s H' ⟨rfl,e3,e1,e2,e8,m,e7,hm1,hm2,hc⟩ hi
    by_cases h:i<l.length
    ·rw [List.drop_eq_getElem_cons h,SX.cnts] at hc
     by_cases hm:m≤lim
     ·rw [if_pos hm] at hc
      have hmem:l[i]∈l:=List.getElem_mem h
      have hno:=SX.nodes_mem hmem
      have w1:IntKind.i64.wrap (lim-m)=lim-m:=aK (by omega) (by omega)
      have w2:IntKind.i64.wrap (dep-1)=dep-1:=aK (by omega) (by omega)
      have c1:=(ih l[i] (lim-m) (dep-1) (by omega) (by omega) (by omega) (by omega) (by omega) (by omega)).eq
      have b1:=SX.cnt_n n l[i] (lim-m) (dep-1) (by omega) (by omega)
      have w3:IntKind.i64.wrap (m+l[i].cnt (lim-m) (dep-1))=m+l[i].cnt (lim-m) (dep-1):=aK (by omega) (by omega)
      simp [e3,e1,e2,e8,e7,an,h,hm,w1,w2,w3,c1,ay h (by omega)]
      exact ⟨by omega,by omega,hc⟩
     ·rw [if_neg hm] at hc
      simp [e3,e1,e2,e8,e7,an,h,hm,hc]
    ·have h':i=l.length:=by omega
     subst h'
     rw [List.drop_length,SX.cnts] at hc
     simp [e3,e1,e2,e8,e7,an,hc]
set_option maxRecDepth 100000 in
set_option maxHeartbeats 2000000 in
theorem DC (S:d6 C):∀(n:Nat) (x:SX),x.nodes≤n→n≤2^60→cE Tryz.prog C 319 [] [.agg x.cells] (.int .i64 x.chk)
 | 0,x,h,_=>by have:=x.nodes_pos;omega
 | n+1,.mk b a l k,hn,hn2=>by
  have ih:=DC S n
  refine aB (S.pure4 _ (by decide)) fun H=>am Tryz.func319 rfl (S.prim _ (by decide)) (by simp) (by kernel_rfl) ?_
  unfold Tryz.f319
  rw [SX.nodes] at hn
  have hll:=SX.length_le l
  rw [SX.cells,SX.rows_map]
  cases b with
  | false =>
   rw [SX.chk]
   by_cases h1:0<l.length
   ·simp [aG,h1]
   ·have hl0:l=[]:=List.length_eq_zero_iff.1 (by omega)
    subst hl0
    by_cases h2:65536<a.length
    ·simp [aG,h2,show (65536:Int)<a.length by omega]
    ·simp [aG,h2,show ¬(65536:Int)<a.length by omega]
  | true =>
   by_cases ha:a=[]
   ·subst ha
    have hx:(SX.mk true [] l k).chk=SX.chks l:=rfl
    rw [hx]
    simp [aG]
    refine az l.length (fun i s H'=>H'=H++[.rows 3 0 [[.bool true,.str [],aw k (l.map SX.cells)]]]∧s 1=.ptr H.length 0 3 0 0∧s 3=.int .i64 i∧SX.chks l=SX.chks (l.drop i)) ?_ ?_
    ·exact ⟨rfl,rfl,rfl,rfl⟩
    rintro i s H' ⟨rfl,e1,e3,hc⟩ hi
    by_cases h:i<l.length
    ·rw [List.drop_eq_getElem_cons h,SX.chks] at hc
     have hno:=SX.nodes_mem (List.getElem_mem h)
     have c1:=(ih l[i] (by omega) (by omega)).eq
     by_cases h0:l[i].chk=0
     ·rw [if_neg (by simpa using h0)] at hc
      simp [e3,e1,h,h0,c1,ay h (by omega)]
      exact hc
     ·rw [if_pos h0] at hc
      simp [e3,e1,h,h0,c1,hc]
    ·have h':i=l.length:=by omega
     subst h'
     rw [List.drop_length,SX.chks] at hc
     simp [e3,e1,hc]
   ·have hx:(SX.mk true a l k).chk=1:=by rw [SX.chk,if_pos ha]
    simp [aG,ha,hx]
set_option maxRecDepth 100000 in
theorem nH (S:d6 C) (k:Nat):∀n:Nat,n<k→n≤2^60→cE Tryz.prog C 320 [] [.int .i64 (n:Int)] (.str (ld n)):=by
 induction k with
 | zero=>intro n h;omega
 | succ k ihk =>
  intro n h h2
  refine aB (S.pure4 _ (by decide)) fun H=>am Tryz.func320 rfl (S.prim _ (by decide)) (by simp) (by kernel_rfl) ?_
  unfold Tryz.f320
  by_cases h10:n<10
  ·have h10':(n:Int)<10:=by omega
   have w1:IntKind.i64.wrap (48+n)=48+n:=aK (by omega) (by omega)
   have w2:IntKind.u8.wrap (48+n)=48+n:=IntWalk.u8_in _ (by omega)
   have w3:((48:Int)+n).toNat=48+n:=by omega
   rw [ld,if_pos h10]
   simp [aG,h10,h10',w1,w2,w3,show ¬(n:Int)<0 by omega,aj,au,bi,cF,gi,-UInt8.ofNat_add]
  ·have ih:∀base H K,aD Tryz.prog C base (.fn 320 []) [.int .i64 ((n:Int) / 10)] H K=K (.str (ld (n / 10))) H:=(ihk (n / 10) (by omega) (by omega)).eq
   have e1:IntKind.i64.wrap ((n:Int) / 10)=(n:Int) / 10:=aK (by omega) (by omega)
   have w1:IntKind.i64.wrap (48+(n:Int) % 10)=48+(n:Int) % 10:=aK (by omega) (by omega)
   have w2:IntKind.u8.wrap (48+(n:Int) % 10)=48+(n:Int) % 10:=IntWalk.u8_in _ (by omega)
   have w3:((48:Int)+(n:Int) % 10).toNat=48+n % 10:=by omega
   have hd:=m7 60 (n / 10) (Nat.lt_of_le_of_lt (Nat.div_le_self _ _) (Nat.lt_of_le_of_lt h2 (by decide))) (by decide)
   rw [ld,if_neg h10]
   have a1:=gS (P:=Tryz.prog) (C:=C) (t:=9) (x:=ld (n / 10)) (y:=[UInt8.ofNat (48+n % 10)]) (by simp;omega)
   have q1:(n:Int).tdiv 10=(n:Int) / 10:=Int.tdiv_eq_ediv_of_nonneg (by omega)
   have q2:(n:Int).tmod 10=(n:Int) % 10:=Int.tmod_eq_emod_of_nonneg (by omega)
   simp [aG,h10,show ¬(n:Int)<0 by omega,show ¬(n:Int)<10 by omega,wW,pX,q1,q2,e1,ih,w1,w2,w3,a1,aj,au,bi,cF,gi,-UInt8.ofNat_add]
theorem HP (S:d6 C) (n:Int) (h1 : -(2^40)≤n) (h2:n≤2^40):cE Tryz.prog C 320 [] [.int .i64 n] (.str (m6 n)):=by
 by_cases hn:n<0
 ·obtain ⟨m,rfl⟩:∃m:Nat,n = -(m:Int):=⟨n.natAbs,by omega⟩
  have hm:m≤2^40:=by omega
  refine aB (S.pure4 _ (by decide)) fun H=>am Tryz.func320 rfl (S.prim _ (by decide)) (by simp) (by kernel_rfl) ?_
  unfold Tryz.f320
  have ih:=(nH S (m+1) m (by omega) (by omega)).eq
  have e1:IntKind.i64.wrap (m:Int)=m:=gy (by omega)
  have hd:=m7 60 m (Nat.lt_of_le_of_lt hm (by decide)) (by decide)
  have a1:=gS (P:=Tryz.prog) (C:=C) (t:=9) (x:=[45]) (y:=ld m) (by simp;omega)
  rw [m6,if_pos hn]
  simp [aG,hn,show ¬(-(m:Int)) < -9223372036854775807 by omega,show 0<m by omega,show ¬(9223372036854775807<m) by omega,e1,ih,a1]
 ·obtain ⟨m,rfl⟩:∃m:Nat,n=(m:Int):=⟨n.toNat,by omega⟩
  rw [m6,if_neg hn]
  exact nH S (m+1) m (by omega) (by omega)
def fO (n:Int):SX:=.mk false (if n < -1099511627776∨1099511627776<n then [] else m6 n) [] .nil
theorem us (n:Int):(fO n).cells=[.bool false,.str (if n < -1099511627776∨1099511627776<n then [] else m6 n),.nils]:=rfl
theorem Kx (S:d6 C) (n:Int):cE Tryz.prog C 267 [] [.int .i64 n] (.tup [.agg (fO n).cells,.int .i64 (if n < -1099511627776∨1099511627776<n then 2 else 0)]):=by
 refine aB (S.pure4 _ (by decide)) fun H=>am Tryz.func267 rfl (S.prim _ (by decide)) (by simp) (by kernel_rfl) ?_
 unfold Tryz.f267
 rw [us]
 by_cases h:n < -1099511627776∨1099511627776<n
 ·rw [if_pos h,if_pos h]
  by_cases h1:n < -1099511627776
  ·simp [aG,an,ao,aE,h1]
   simp [aq,AV.closed,AV.closeds]
  ·have h2:1099511627776<n:=by omega
   simp [aG,an,ao,aE,h1,h2]
   simp [aq,AV.closed,AV.closeds]
 ·rw [if_neg h,if_neg h]
  have e1:=(HP S n (by omega) (by omega)).eq
  simp [aG,an,e1,ao,aE,show ¬n < -1099511627776 by omega,show ¬(1099511627776:Int)<n by omega]
  simp [aq,AV.closed,AV.closeds]
set_option maxRecDepth 100000 in
set_option maxHeartbeats 2000000 in
theorem DD (S:d6 C):∀(n:Nat) (x:SX),x.nodes≤n→n≤2^40→x.chk=0→cE Tryz.prog C 266 [] [.agg x.cells] (.str x.enc)
 | 0,x,h,_,_=>by have:=x.nodes_pos;omega
 | n+1,.mk b a l k,hn,hn2,hk=>by
  have ih:=DD S n
  refine aB (S.pure4 _ (by decide)) fun H=>am Tryz.func266 rfl (S.prim _ (by decide)) (by simp) (by kernel_rfl) ?_
  unfold Tryz.f266
  rw [SX.nodes] at hn
  have hll:=SX.length_le l
  rw [SX.cells,SX.rows_map]
  cases b with
  | false =>
   rw [SX.chk] at hk
   have hl0:l=[]:=by
    cases l with
    | nil=>rfl
    | cons x l=>simp at hk
   subst hl0
   have ha:a.length≤65536:=by
    rcases Nat.lt_or_ge 65536 a.length with h | h
    ·simp [h] at hk
    ·exact h
   have hd:=m7 5 a.length (by omega) (by decide)
   have e1:=(nH S (a.length+1) a.length (by omega) (by omega)).eq
   have a1:=gS (P:=Tryz.prog) (C:=C) (t:=9) (x:=ld a.length) (y:=[58]) (by simp;omega)
   have a2:=gS (P:=Tryz.prog) (C:=C) (t:=9) (x:=ld a.length++[58]) (y:=a) (by simp;omega)
   rw [SX.enc]
   simp [aG,e1,a1,a2]
  | true =>
   rw [SX.chk] at hk
   have ha:a=[]:=by
    by_cases ha:a=[]
    ·exact ha
    ·simp [ha] at hk
   subst ha
   have hk:SX.chks l=0:=by simpa using hk
   have hx:(SX.mk true [] l k).enc=40::SX.encs l++[41]:=rfl
   rw [hx]
   simp [aG]
   refine az l.length (fun i s H'=>H'=H++[.rows 3 0 [[.bool true,.str [],aw k (l.map SX.cells)]]]∧s 1=.ptr H.length 0 3 0 0∧s 4=.int .i64 i∧s 3=.str (40::SX.encs (l.take i))) ?_ ?_
   ·exact ⟨rfl,rfl,rfl,rfl⟩
   rintro i s H' ⟨rfl,e1,e4,e3⟩ hi
   by_cases h:i<l.length
   ·have hno:=SX.nodes_mem (List.getElem_mem h)
    have hc0:=SX.chks_mem hk (List.getElem_mem h)
    have c1:=(ih l[i] (by omega) (by omega) hc0).eq
    have g1:=SX.encs_take_len n l hk (by omega) i
    have g2:=SX.enc_len n l[i] (by omega) hc0
    have a1:=gS (P:=Tryz.prog) (C:=C) (t:=9) (x:=40::SX.encs (l.take i)) (y:=l[i].enc) (by simp;omega)
    simp [e3,e1,e4,h,c1,a1,ay h (by omega)]
    have et:l.take (i+1)=l.take i++[l[i]]:=by rw [List.take_add_one,List.getElem?_eq_getElem h];rfl
    rw [et,SX.encs_append];simp [SX.encs]
   ·have h':i=l.length:=by omega
    subst h'
    have g1:=SX.encs_take_len n l hk (by omega) l.length
    rw [List.take_length] at e3 g1
    have a1:=gS (P:=Tryz.prog) (C:=C) (t:=9) (x:=40::SX.encs l) (y:=[41]) (by simp;omega)
    simp [e3,e1,e4,a1]
theorem Cj (S:d6 C) (x:SX) (h:x.nodes≤2^40):cE Tryz.prog C 265 [] [.agg x.cells] (.int .i64 (if 20000<x.cnt 20000 12 then 4 else x.chk)):=by
 refine aB (S.pure4 _ (by decide)) fun H=>am Tryz.func265 rfl (S.prim _ (by decide)) (by simp) (by kernel_rfl) ?_
 unfold Tryz.f265
 have e1:=(wA S _ x 20000 12 h (by omega) (by omega) (by omega) (by omega) (by omega)).eq
 have e2:=(DC S _ x h (by omega)).eq
 by_cases h:20000<x.cnt 20000 12
 ·simp [aG,e1,e2,h]
 ·simp [aG,e1,e2,h]
def vg (x:SX):Int:=if 20000<x.cnt 20000 12 then 4 else x.chk
theorem Ag (S:d6 C) (x:SX) (h:x.nodes≤2^40):sD Tryz.prog C 198 [.agg x.cells] (.tup [.str (if vg x=0 then x.enc else []),.int .i64 (vg x)]):=by
 refine lN (S.frz4 _ (by decide)).1 (S.frz4 _ (by decide)).2 rfl fun H=>am Tryz.func198 rfl (S.prim _ (by decide)) (by simp) (by kernel_rfl) ?_
 unfold Tryz.f198
 have e1:∀base H K,aD Tryz.prog C base (.fn 265 []) [.agg x.cells] H K=K (.int .i64 (vg x)) H:=(Cj S x h).eq
 by_cases h0:vg x=0
 ·have hk:x.chk=0:=by
   unfold vg at h0
   split at h0
   ·omega
   ·exact h0
  have e2:=(DD S _ x h (by omega) hk).eq
  simp [aG,e1,e2,h0]
 ·simp [aG,e1,h0]
end Go.Proofs.Ev
