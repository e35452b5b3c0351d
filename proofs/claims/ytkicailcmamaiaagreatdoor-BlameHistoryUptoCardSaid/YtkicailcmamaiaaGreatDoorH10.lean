/- Part 10 of the proof that quiltlaw38.BlameHistory returns true: no statement of its own. -/
import Derived.Test.YtkicailcmamaiaaGreatDoorH9
set_option linter.all false
namespace Go.Proofs.Ev
open Go.Proofs
variable {C:bD}
structure db (C:bD):Prop extends dZ C where
 pure5:∀f,f∈[184,185,180,272,273,181,123,71,73,271]→C.pure f=true
@[simp] theorem MS (b g e i f:Nat):AV.denil (.ptr b g e i f)=.ptr b g e i f:=rfl
@[simp] theorem Lu (c:List AV):AV.denil (.eptr c)=.eptr c:=rfl
@[simp] theorem NI (f:FuncId) (c:List AV):AV.denil (.fn f c)=.fn f c:=rfl
@[simp] theorem Lt (b:Bool):AV.denil (.bool b)=.bool b:=rfl
def bO (s:List UInt8):SX:=.mk false s [] .nil
def fp (l:List SX) (k:SK):SX:=.mk true [] l k
theorem rG (s:List UInt8):(bO s).cells=[.bool false,.str s,.nils]:=rfl
theorem cS (l:List SX) (k:SK):(fp l k).cells=[.bool true,.str [],am k (l.map SX.cells)]:=by rw [fp,SX.cells,SX.rows_map]
def qP (d:List Nat):List UInt8:=d.map UInt8.ofNat
def jB (d:List Nat):SX:=if bz d then bO [] else bO (qP d)
def dI (x:aC):SX:=fp [jB x.d,fR x.n] .exact
def gV {α:Type} (l:List α):SK:=if l.isEmpty then .exact else .loose
def nF (l:List aC):SX:=fp (l.map dI) (gV l)
theorem uC (S:db C) (s:List UInt8):b8 Tryz.prog C 184 [] [.str s] (.agg (bO s).cells):=by
 refine aw (S.pure5 _ (by decide)) fun H=>aj Tryz.func184 rfl (S.prim _ (by decide)) (by simp) (by kernel_rfl) ?_
 unfold Tryz.f184
 rw [rG]
 simp [aE,ao,aD]
 simp [ak,AV.closed,AV.closeds]
theorem py (S:db C) (n:Int):b8 Tryz.prog C 185 [] [.int .i64 n] (.agg (fR n).cells):=by
 refine aw (S.pure5 _ (by decide)) fun H=>aj Tryz.func185 rfl (S.prim _ (by decide)) (by simp) (by kernel_rfl) ?_
 unfold Tryz.f185
 have e1:=(JQ S.todZ n).eq
 simp [aE,ao,aD,e1,List.take_of_length_le]
 simp [ak,AV.closed,AV.closeds]
theorem qi (S:db C) (v:AV) (hv:v.leaf=true) (hc:v.cells=[v]) {base:Nat} {H:ae} (hb:base≤H.length) (K:AV→ae→Prop) :
 aF Tryz.prog C base (.fn 183 []) [v] H K=K (.agg [.bool true,.str [],v]) (H++[.rows 3 0 [[.bool true,.str [],v]]]):=by
 refine aF.eq (bW (S.plain4 _ (by decide)).1 (S.plain4 _ (by decide)).2 (aj Tryz.func183 rfl (S.prim _ (by decide)) (by simp) (by kernel_rfl) ?_)) K
 unfold Tryz.f183
 simp [aE,ao,aD,hv,hc,hb]
theorem Grow.leafv {n sz:Nat} {J:ae} {v:AV} {rows:List (List AV)} (hg:Grow n sz J v rows):v.leaf=true:=by
 rcases hg with ⟨_,rfl | rfl⟩ | ⟨b,g,rfl,_⟩<;>rfl
theorem Grow.cellv {n sz:Nat} {J:ae} {v:AV} {rows:List (List AV)} (hg:Grow n sz J v rows):v.cells=[v]:=by
 rcases hg with ⟨_,rfl | rfl⟩ | ⟨b,g,rfl,_⟩<;>rfl
theorem Grow.app {n sz:Nat} {J:ae} {v:AV} {rows:List (List AV)} (hg:Grow n sz J v rows) (L:ae):Grow n sz (J++L) v rows:=by
 rcases hg with ⟨h,hv⟩ | ⟨b,g,rfl,hb⟩
 ·exact .inl ⟨h,hv⟩
 ·exact .inr ⟨b,g,rfl,by rw [List.getElem?_append_left (List.getElem?_eq_some_iff.1 hb).1];exact hb⟩
theorem Grow.kind {n sz:Nat} {J:ae} {v:AV} {rows:List (List AV)} (hg:Grow n sz J v rows) (hv:rows=[]→v=.lst [] true):zl v=gV rows:=by
 rcases hg with ⟨h,_⟩ | ⟨b,g,rfl,hb⟩
 ·subst h;rw [hv rfl];rfl
 ·cases rows with
  | nil=>have:=hv rfl;cases this
  | cons a l=>rfl
theorem mi:∀d:List Nat,gd ((dig d).map fun c=>[c])=some (qP d)
 | []=>rfl
 | n::d=>by
  have:=mi d
  simp only [dig,List.map_cons,gd,qP] at this ⊢
  rw [this];simp [qP]
theorem EI (S:db C) (d:List Nat) (hd:d.length=32):b8 Tryz.prog C 271 [] [.agg (dig d)] (.str (qP d)):=by
 refine aw (S.pure5 _ (by decide)) fun H=>aj Tryz.func271 rfl (S.prim _ (by decide)) (by simp) (by kernel_rfl) ?_
 unfold Tryz.f271
 have hb:=mi d
 simp [aE,hd,dw,bH,bn,cg,List.take_of_length_le,hb]
theorem uH (S:db C) (d:List Nat) (hd:d.length=32):b8 Tryz.prog C 180 [] [.agg (dig d)] (.agg (jB d).cells):=by
 refine aw (S.pure5 _ (by decide)) fun H=>aj Tryz.func180 rfl (S.prim _ (by decide)) (by simp) (by kernel_rfl) ?_
 unfold Tryz.f180
 have e1:=(kv S.toaz d hd).eq
 have e2:=fun s=>(uC S s).eq
 have e3:=(EI S d hd).eq
 cases hz:bz d with
 | true =>
  simp [aE,hd,e1,e2,e3,hz,jB,ao,List.take_of_length_le]
  simp [ak,AV.closed,AV.closeds]
 | false =>
  simp [aE,hd,e1,e2,e3,hz,jB,ao,List.take_of_length_le]
  simp [ak,AV.closed,AV.closeds]
theorem oH (S:db C) (x:aC):b8 Tryz.prog C 272 [] [.agg x.cells] (.agg (dI x).cells):=by
 refine aw (S.pure5 _ (by decide)) fun H=>aj Tryz.func272 rfl (S.prim _ (by decide)) (by simp) (by kernel_rfl) ?_
 unfold Tryz.f272
 have e1:=(uH S x.d x.h).eq
 have e2:=(py S x.n).eq
 have e3:=fun v hv hc (H':ae) hb K=>qi (C:=C) S v hv hc (base:=H.length) (H:=H') hb K
 simp [aE,e1,e2,ah,aq]
 rw [e3 _ (by simp) (by simp) _ (by simp),aL (h:=by kernel_rfl)]
 simp [ao,aD]
 rw [aL (h:=by kernel_rfl)]
 rw [dI,cS]
 simp [ao,aD]
 simp [ak,AV.closed,AV.closeds,AV.closedss,am]
set_option maxHeartbeats 1000000 in
theorem Hl (S:db C) (l:List aC) (K:SK) (hl:l.length≤2^30):b8 Tryz.prog C 273 [] [am K (l.map aC.cells)] (.agg (nF l).cells):=by
 refine aw (S.pure5 _ (by decide)) fun H=>aj Tryz.func273 rfl (S.prim _ (by decide)) (by simp) (by kernel_rfl) ?_
 unfold Tryz.f273
 simp [aE,ah,aq]
 refine ay l.length (fun i s H'=>∃J,H'=H++.rows 3 0 [[.bool false,.str [],.nils]]::J∧s 0=am K (l.map aC.cells)∧s 2=.ptr H.length 0 3 0 0∧s 4=.int .i64 i∧
  Grow (H.length+1) 3 J (s 3) ((l.take i).map fun x=>(dI x).cells)∧(i=0→s 3=.lst [] true)) ?_ ?_
 ·exact ⟨[],rfl,rfl,rfl,rfl,.lst,fun _=>rfl⟩
 rintro i s H' ⟨J,rfl,e0,e2,e4,hg,hz⟩ hi
 by_cases h:i<l.length
 ·have c1:=(oH S l[i]).eq
  obtain ⟨v',J',ha,hg',_⟩:=Grow.append (P:=Tryz.prog) (base:=H.length) (Z:=H++[.rows 3 0 [[.bool false,.str [],.nils]]]) (e:=263) (e':=263) (ts:=#[261,261]) (ys:=[(dI l[i]).cells]) (x:=.lst [(dI l[i]).cells] true) (by simp) (by simp) se tf (by simp) (by decide) (by simp) (by simpa using hg) rfl (by simp) (by simp;omega)
  simp at ha hg'
  simp [e0,e2,e4,h,c1,ah,aq,ha,au h (by omega)]
  rw [List.take_add_one,List.getElem?_map,List.getElem?_eq_getElem h]
  simpa using hg'
 ·have h':i=l.length:=by omega
  subst h'
  rw [List.take_length] at hg
  have e3:=fun v hv hc (H':ae) hb K=>qi (C:=C) S v hv hc (base:=H.length) (H:=H') hb K
  simp [e0,e2,e4]
  rw [e3 _ hg.leafv hg.cellv _ (by simp)]
  simp [ao,aD,e2,hg.leafv,hg.cellv]
  rw [je (ws:=(nF l).cells)]
  have hk:=hg.kind fun h=>hz (by simpa using h)
  have hf:=(hg.app [.rows 3 0 [[.bool true,.str [],s 3]]]).freeze (Z:=H++[.rows 3 0 [[.bool true,.str [],s 3]]]) (k:=H.length) (d:=1) (by simp) (by omega) (aH (fun x=>SX.closed (dI x)) _)
  rw [hk] at hf
  simp at hf
  rw [nF,cS]
  simp [hf,Function.comp_def,gV]
end Go.Proofs.Ev
namespace Go.Proofs.Ev
variable {P:Program} {base:Nat}
def aQ (n sz:Nat) (J:ae) (v:AV) (rows:List (List AV)):Prop:=(rows=[]∧v=.nils)∨v=.lst rows true∨∃b g,v=.sl (n+b) g sz 0 rows.length∧J[b]?=some (.rows sz g rows)
theorem aQ.nils {n sz:Nat} {J:ae}:aQ n sz J .nils []:=.inl ⟨rfl,rfl⟩
theorem aQ.lst {n sz:Nat} {J:ae} (rows:List (List AV)):aQ n sz J (.lst rows true) rows:=.inr (.inl rfl)
theorem aQ.leafv {n sz:Nat} {J:ae} {v:AV} {rows:List (List AV)} (hg:aQ n sz J v rows):v.leaf=true:=by
 rcases hg with ⟨_,rfl⟩ | rfl | ⟨b,g,rfl,_⟩<;>rfl
theorem aQ.cellv {n sz:Nat} {J:ae} {v:AV} {rows:List (List AV)} (hg:aQ n sz J v rows):v.cells=[v]:=by
 rcases hg with ⟨_,rfl⟩ | rfl | ⟨b,g,rfl,_⟩<;>rfl
theorem aQ.app {n sz:Nat} {J:ae} {v:AV} {rows:List (List AV)} (hg:aQ n sz J v rows) (L:ae):aQ n sz (J++L) v rows:=by
 rcases hg with h | h | ⟨b,g,rfl,hb⟩
 ·exact .inl h
 ·exact .inr (.inl h)
 ·exact .inr (.inr ⟨b,g,rfl,by rw [List.getElem?_append_left (List.getElem?_eq_some_iff.1 hb).1];exact hb⟩)
theorem aQ.len {t e:TypeId} (h:P.underlying t=some (.slice e)) {n sz:Nat} {J H:ae} {v:AV} {rows:List (List AV)} (hg:aQ n sz J v rows):fQ P H t v.denil=some (.int .i64 rows.length):=by
 rcases hg with ⟨rfl,rfl⟩ | rfl | ⟨b,g,rfl,_⟩
 ·exact iO h H [] true
 ·exact iO h H _ true
 ·exact pl h H _ _ _ _ _
theorem aQ.append {ts:Array TypeId} {e e' sz by_:Nat} (h0:(ts[0]?).bind P.underlying=some (.slice e)) (h1:(ts[1]?).bind P.underlying=some (.slice e')) (hs:br P e=some sz) (hb:bytesOf P e=some by_)
 (hz:(aN P e).map (fun z=>z.cells.length)=some sz) (hp:0<sz) {Z J:ae} (hY:base≤Z.length) {v x:AV} {rows ys:List (List AV)} (hg:aQ Z.length sz J v rows) (hr:∀r∈rows,r.length=sz)
 (hx:cq (Z++J) (.slice e') x=some ys) (hy:∀r∈ys,r.length=sz) (hne:ys≠[]) (hbound:(rows.length+ys.length)*(by_+1)≤2^45) :
 ∃b g J',bg P base (Z++J) ts v.denil x=some (.sl (Z.length+b) g sz 0 (rows.length+ys.length),Z++J')∧J'[b]?=some (.rows sz g (rows++ys))∧(∀k,k≠b→k<J.length→J'[k]?=J[k]?)∧((∃g' l,v=.sl (Z.length+b) g' sz 0 l)∨J.length≤b):=by
 have hc:(ys.all fun r=>decide (r.length=sz))=true:=by simpa using hy
 have hd:(rows.all fun r=>decide (r.length=sz))=true:=by simpa using hr
 unfold bg
 simp only [h0,h1,hs,hb,hx,hc,hp,hz,and_self,if_true]
 have hlst:∀rows:List (List AV),(rows.length+ys.length)*(by_+1)≤2^45→(rows.all fun r=>decide (r.length=sz))=true→
  ∃b g J',(match (AV.lst rows true) with
   | .lst rows ex=>if ys.isEmpty then some (AV.lst rows true,Z++J) else if ex=true∧(rows.length+ys.length)*(by_+1)≤2^45∧rows.all (fun r=>decide (r.length=sz)) then some (AV.sl (Z++J).length (cY P e sz) sz 0 (rows.length+ys.length),(Z++J)++[.rows sz (cY P e sz) (rows++ys)]) else none
   | _=>none)=some (.sl (Z.length+b) g sz 0 (rows.length+ys.length),Z++J')∧J'[b]?=some (.rows sz g (rows++ys))∧(∀k,k≠b→k<J.length→J'[k]?=J[k]?)∧J.length≤b:=by
  intro rows hb hr
  refine ⟨J.length,cY P e sz,J++[.rows sz (cY P e sz) (rows++ys)],?_,by simp,fun k _ hk=>by rw [List.getElem?_append_left hk],Nat.le_refl _⟩
  simp only
  rw [if_neg (by simpa using hne),if_pos ⟨trivial,hb,hr⟩]
  simp
 rcases hg with ⟨rfl,rfl⟩ | rfl | ⟨b,g,rfl,hb⟩
 ·obtain ⟨b,g,J',h1,h2,h3,h4⟩:=hlst [] (by simpa using hbound) rfl
  exact ⟨b,g,J',h1,h2,h3,.inr h4⟩
 ·obtain ⟨b,g,J',h1,h2,h3,h4⟩:=hlst rows hbound hd
  exact ⟨b,g,J',h1,h2,h3,.inr h4⟩
 ·have hlt:b<J.length:=(List.getElem?_eq_some_iff.1 hb).1
  have hg:(Z++J)[Z.length+b]?=some (.rows sz g rows):=by rw [bq];exact hb
  simp only [AV.denil,hg]
  rw [if_pos ⟨by omega,trivial,trivial,trivial,trivial,hbound⟩]
  exact ⟨b,fk P e sz g,J.set b (.rows sz (fk P e sz g) (rows++ys)),by rw [pP],by simp [hlt],fun k hk _=>by rw [List.getElem?_set_ne (Ne.symm hk)],.inl ⟨_,_,rfl⟩⟩
theorem aQ.appendG {ts:Array TypeId} {e e' sz by_:Nat} (h0:(ts[0]?).bind P.underlying=some (.slice e)) (h1:(ts[1]?).bind P.underlying=some (.slice e')) (hs:br P e=some sz) (hb:bytesOf P e=some by_)
 (hz:(aN P e).map (fun z=>z.cells.length)=some sz) (hp:0<sz) {n:Nat} {Z J:ae} (hn:n=Z.length) (hY:base≤Z.length) {v x:AV} {rows ys:List (List AV)} (hg:aQ n sz J v rows) (hr:∀r∈rows,r.length=sz)
 (hx:cq (Z++J) (.slice e') x=some ys) (hy:∀r∈ys,r.length=sz) (hbound:(rows.length+ys.length)*(by_+1)≤2^45) :
 ∃v' J',bg P base (Z++J) ts v.denil x=some (v',Z++J')∧aQ n sz J' v' (rows++ys)∧((ys≠[]∨∃b g l,v=.sl b g sz 0 l)→∃b g l,v'=.sl b g sz 0 l):=by
 subst hn
 by_cases hne:ys=[]
 ·subst hne
  have hc:([].all fun r:List AV=>decide (r.length=sz))=true:=rfl
  unfold bg
  simp only [h0,h1,hs,hb,hx,hc,hp,hz,and_self,if_true]
  rcases hg with ⟨rfl,rfl⟩ | rfl | ⟨b,g,rfl,hb⟩
  ·exact ⟨.lst [] true,J,by simp [AV.denil],.lst [],by rintro (h | ⟨_,_,_,h⟩);exact absurd rfl h;cases h⟩
  ·exact ⟨.lst rows true,J,by simp [AV.denil],by rw [List.append_nil];exact .lst rows,by rintro (h | ⟨_,_,_,h⟩);exact absurd rfl h;cases h⟩
  ·have hlt:b<J.length:=(List.getElem?_eq_some_iff.1 hb).1
   have hg:(Z++J)[Z.length+b]?=some (.rows sz g rows):=by rw [bq];exact hb
   simp only [AV.denil,hg]
   rw [if_pos ⟨by omega,trivial,trivial,trivial,trivial,hbound⟩]
   exact ⟨_,J.set b (.rows sz (fk P e sz g) (rows++[])),by rw [pP],.inr (.inr ⟨b,fk P e sz g,by simp,by simp [hlt]⟩),fun _=>⟨_,_,_,rfl⟩⟩
 ·obtain ⟨b,g,J',h2,h3,_⟩:=aQ.append (base:=base) h0 h1 hs hb hz hp hY hg hr hx hy hne hbound
  exact ⟨_,J',h2,.inr (.inr ⟨b,g,by simp,h3⟩),fun _=>⟨_,_,_,rfl⟩⟩
theorem aQ.freezeS {Z J L:ae} {n k d sz:Nat} {v:AV} {rows:List (List AV)} (hg:aQ n sz J v rows) (hn:n=Z.length) (hk:k≤Z.length) (hc:AV.closedss rows=true) (hv:∃b g l,v=.sl b g sz 0 l) :
 aI (Z++(J++L)) k (d+1) v=some (am .loose rows):=by
 subst hn
 obtain ⟨b,g,l,rfl⟩:=hv
 rcases hg with ⟨_,h4⟩ | h4 | ⟨b4,g4,h4,hb4⟩
 ·cases h4
 ·cases h4
 ·have hget:(Z++(J++L))[Z.length+b4]?=some (.rows sz g4 rows):=by
   rw [bq,List.getElem?_append_left (List.getElem?_eq_some_iff.1 hb4).1];exact hb4
  rw [h4,dW hget (by omega) hc]
  cases rows<;>rfl
theorem dX {H:ae} {k d:Nat}:∀{l:List (List AV)},AV.closedss l=true→l.mapM (fun r:List AV=>r.mapM (aI H k d))=some l
 | [],_=>rfl
 | r::l,h=>by
  simp only [AV.closedss,Bool.and_eq_true] at h
  rw [List.mapM_cons,dq h.1,dX h.2];rfl
theorem pb {H:ae} {k d b g sz:Nat} {rs qs:List (List AV)} (hg:H[b]?=some (.rows sz g rs)) (hk:k≤b) (hc:rs.mapM (fun r:List AV=>r.mapM (aI H k d))=some qs):aI H k (d+1) (.sl b g sz 0 rs.length)=some (.lst qs false):=by
 simp only [aI,AV.closed,Bool.false_eq_true,if_false,hk,if_true,cg,hg,and_self,Nat.zero_add,Nat.le_refl,List.drop_zero,List.take_length,Option.bind_some]
 by_cases h:AV.closedss rs=true
 ·rw [dX h] at hc
  cases hc;simp [h]
 ·simp [h,hc]
end Go.Proofs.Ev
namespace Go.Proofs.Ev
open Go.Proofs
variable {C:bD}
def mO (c:aW):List SX:=if 2≤c.kind∧c.kind≤6 then [dI c.file] else []
def jH (c:aW):List SX:=if c.kind=1 then [fR c.type] else if c.kind=2 then [dI c.parent,bO c.name] else if c.kind=3 then [fR c.mode] else if c.kind=4 then [bO c.data] else if c.kind=5∨c.kind=6 then [dI c.after,dI c.before] else []
def nz (l:List (List UInt8)):SX:=fp (l.map bO) (gV l)
def yM (c:aW):List SX:=if c.kind=5 then [nz c.lines] else if c.kind≠1 then [nF c.over] else []
def kH (c:aW):List SX:=fR c.kind::(mO c++jH c++yM c)
def lq (c:aW):SX:=fp (kH c) .loose
def m8 (c:aW) (H:ae) (r:List SX) (s:Sl) (H':ae):Prop:=s 1=.ptr H.length 0 139 0 0∧s 2=.ptr (H.length+1) 0 3 0 0∧
 ∃J,H'=H++.rows 139 0 [c.cells]::.rows 3 0 [[.bool false,.str [],.nils]]::J∧aQ (H.length+2) 3 J (s 3) (r.map SX.cells)∧(r.length=1∨∃b g l,s 3=.sl b g 3 0 l)
theorem mZ {H J:ae} {X Y:bL} {v x:AV} {r ys:List SX} {k:SK} (hg:aQ (H.length+2) 3 J v (r.map SX.cells)) (hx:x=am k (ys.map SX.cells)) (hne:ys≠[]) (hb:r.length+ys.length≤2^20) :
 ∃v' J',bg Tryz.prog H.length (H++X::Y::J) #[261,261] v.denil x.denil=some (v',H++X::Y::J')∧aQ (H.length+2) 3 J' v' ((r++ys).map SX.cells)∧∃b g l,v'=.sl b g 3 0 l:=by
 subst hx
 obtain ⟨b,g,J',h1,h2,_⟩:=aQ.append (P:=Tryz.prog) (base:=H.length) (Z:=H++[X,Y]) (J:=J) (e:=263) (e':=263) (ts:=#[261,261]) (ys:=ys.map SX.cells) (x:=(am k (ys.map SX.cells)).denil) (v:=v) (rows:=r.map SX.cells) (by simp) (by simp) se tf (by simp) (by decide) (by simp) (by simpa using hg) (by simp) (lR k _) (by simp) (by simpa using hne) (by simp;omega)
 simp at h1 h2
 refine ⟨_,J',h1,.inr (.inr ⟨b,g,by simp,by simpa using h2⟩),_,_,_,rfl⟩
structure aW.Ok2 (c:aW):Prop where
 lines:c.lines.length≤2000
 over:c.over.length≤400
theorem OG (x:SX):AV.lst [x.cells] true=am .exact ([x].map SX.cells):=rfl
theorem Qw (x y:SX):AV.lst [x.cells,y.cells] true=am .exact ([x,y].map SX.cells):=rfl
set_option maxRecDepth 100000 in
set_option maxHeartbeats 2000000 in
theorem BX (S:db C) (c:aW) (hc:c.Ok2):b8 Tryz.prog C 181 [] [.agg c.cells] (.agg (lq c).cells):=by
 refine aw (S.pure5 _ (by decide)) fun H=>aj Tryz.func181 rfl (S.prim _ (by decide)) (by simp) (by kernel_rfl) ?_
 unfold Tryz.f181
 have g1:=fun x=>(oH S x).eq
 have g2:=fun n=>(py S n).eq
 have g3:=fun s=>(uC S s).eq
 have g4:=(Hl S c.over c.overK (by have:=hc.over;omega)).eq
 have g5:=fun v hv hc (H':ae) hb K=>qi (C:=C) S v hv hc (base:=H.length) (H:=H') hb K
 refine cut (fun s H'=>s 1=.ptr H.length 0 139 0 0∧s 2=.ptr (H.length+1) 0 3 0 0∧H'=H++.rows 139 0 [c.cells]::.rows 3 0 [[.bool false,.str [],.nils]]::[]) ?_ ?_
 ·simp [aE]
 rintro s H' ⟨e1,e2,rfl⟩
 refine cut (m8 c H [fR c.kind]) ?_ ?_
 ·simp [e1,e2,g2,ah,aq,m8]
  exact .lst _
 rintro s H' ⟨e1,e2,J,rfl,hg,hl⟩
 refine cut (m8 c H ([fR c.kind]++mO c)) ?_ ?_
 ·by_cases hk:2≤c.kind
  ·by_cases hk2:c.kind≤6
   ·obtain ⟨v',J',ha,hg',hl'⟩:=mZ (X:=.rows 139 0 [c.cells]) (Y:=.rows 3 0 [[.bool false,.str [],.nils]]) hg (OG (dI c.file)) (by simp) (by simp)
    simp at ha
    simp [e1,e2,g1,an,hk,hk2,ah,aq,ha,m8,mO]
    exact ⟨by simpa using hg',hl'⟩
   ·simp [e1,e2,an,hk,hk2,m8,mO]
    simpa using hg
  ·simp [e1,e2,an,hk,m8,mO]
   simpa using hg
 clear hg hl
 rintro s H' ⟨e1,e2,J,rfl,hg,hl⟩
 refine cut (m8 c H ([fR c.kind]++mO c++jH c)) ?_ ?_
 ·have hl1:(mO c).length≤1:=by unfold mO;split<;>simp
  by_cases k1:c.kind=1
  ·obtain ⟨v',J',ha,hg',hl'⟩:=mZ (X:=.rows 139 0 [c.cells]) (Y:=.rows 3 0 [[.bool false,.str [],.nils]]) hg (OG (fR c.type)) (by simp) (by simp;omega)
   simp at ha
   simp [e1,e2,g1,g2,g3,k1,ah,aq,ha,m8,jH]
   exact ⟨by simpa [k1] using hg',hl'⟩
  by_cases k2:c.kind=2
  ·obtain ⟨v',J',ha,hg',hl'⟩:=mZ (X:=.rows 139 0 [c.cells]) (Y:=.rows 3 0 [[.bool false,.str [],.nils]]) hg (Qw (dI c.parent) (bO c.name)) (by simp) (by simp;omega)
   simp at ha
   simp [e1,e2,g1,g2,g3,k2,ah,aq,ha,m8,jH]
   rw [aL (h:=by kernel_rfl)]
   simp [e1,e2,k2,m8,jH]
   exact ⟨by simpa [k2] using hg',hl'⟩
  by_cases k3:c.kind=3
  ·obtain ⟨v',J',ha,hg',hl'⟩:=mZ (X:=.rows 139 0 [c.cells]) (Y:=.rows 3 0 [[.bool false,.str [],.nils]]) hg (OG (fR c.mode)) (by simp) (by simp;omega)
   simp at ha
   simp [e1,e2,g1,g2,g3,k3,ah,aq,ha,m8,jH]
   exact ⟨by simpa [k3] using hg',hl'⟩
  by_cases k4:c.kind=4
  ·obtain ⟨v',J',ha,hg',hl'⟩:=mZ (X:=.rows 139 0 [c.cells]) (Y:=.rows 3 0 [[.bool false,.str [],.nils]]) hg (OG (bO c.data)) (by simp) (by simp;omega)
   simp at ha
   simp [e1,e2,g1,g2,g3,k4,ah,aq,ha,m8,jH]
   exact ⟨by simpa [k4] using hg',hl'⟩
  by_cases k5:c.kind=5
  ·obtain ⟨v',J',ha,hg',hl'⟩:=mZ (X:=.rows 139 0 [c.cells]) (Y:=.rows 3 0 [[.bool false,.str [],.nils]]) hg (Qw (dI c.after) (dI c.before)) (by simp) (by simp;omega)
   simp at ha
   simp [e1,e2,g1,g2,g3,k5,ah,aq,ha,m8,jH]
   rw [aL (h:=by kernel_rfl)]
   simp [e1,e2,k5,m8,jH]
   exact ⟨by simpa [k5] using hg',hl'⟩
  by_cases k6:c.kind=6
  ·obtain ⟨v',J',ha,hg',hl'⟩:=mZ (X:=.rows 139 0 [c.cells]) (Y:=.rows 3 0 [[.bool false,.str [],.nils]]) hg (Qw (dI c.after) (dI c.before)) (by simp) (by simp;omega)
   simp at ha
   simp [e1,e2,g1,g2,g3,k6,ah,aq,ha,m8,jH]
   rw [aL (h:=by kernel_rfl)]
   simp [e1,e2,k6,m8,jH]
   exact ⟨by simpa [k6] using hg',hl'⟩
  simp [e1,e2,k1,k2,k3,k4,k5,k6,m8,jH]
  exact ⟨by simpa using hg,by simpa using hl⟩
 clear hg hl
 rintro s H' ⟨e1,e2,J,rfl,hg,hl⟩
 have hl1:(mO c).length≤1:=by unfold mO;split<;>simp
 have hl2:(jH c).length≤2:=by unfold jH;repeat' split
                              all_goals simp
 refine cut (fun s H'=>s 1=.ptr H.length 0 139 0 0∧s 2=.ptr (H.length+1) 0 3 0 0∧∃b g J',H'=H++.rows 139 0 [c.cells]::.rows 3 0 [[.bool false,.str [],.nils]]::J'∧s 3=.sl (H.length+2+b) g 3 0 (kH c).length∧
  ∃rs,J'[b]?=some (.rows 3 g rs)∧rs.length=(kH c).length∧∀X Y L k,k≤H.length→rs.mapM (fun r:List AV=>r.mapM (aI (H++X::Y::(J'++L)) k 1))=some ((kH c).map SX.cells)) ?_ ?_
 ·by_cases k5:c.kind=5
  ·simp [e1,e2,k5,ah,aq]
   refine ay c.lines.length (fun i s' H'=>s' 1=.ptr H.length 0 139 0 0∧s' 2=.ptr (H.length+1) 0 3 0 0∧s' 3=s 3∧s' 5=.int .i64 i∧
    ∃J1,H'=H++.rows 139 0 [c.cells]::.rows 3 0 [[.bool false,.str [],.nils]]::(J++J1)∧aQ (H.length+2+J.length) 3 J1 (s' 4) ((c.lines.take i).map fun x=>(bO x).cells)∧(s' 4=.lst [] true∨∃b g l,s' 4=.sl b g 3 0 l) ∧(i=0→s' 4=.lst [] true)) ?_ ?_
   ·exact ⟨e1,e2,rfl,rfl,[],by simp,.lst _,.inl rfl,fun _=>rfl⟩
   rintro i s' H' ⟨e1',e2',e3',e5',J1,rfl,hg1,hk1,hz⟩ hi
   by_cases h:i<c.lines.length
   ·have hln:=hc.lines
    obtain ⟨b,g,J',ha,hJ',_⟩:=aQ.append (P:=Tryz.prog) (base:=H.length) (Z:=H++.rows 139 0 [c.cells]::.rows 3 0 [[.bool false,.str [],.nils]]::J) (J:=J1) (e:=263) (e':=263) (ts:=#[261,261]) (ys:=[(bO c.lines[i]).cells]) (x:=.lst [(bO c.lines[i]).cells] true) (v:=s' 4) (rows:=(c.lines.take i).map fun x=>(bO x).cells) (by simp) (by simp) se tf (by simp) (by decide) (by simp) (by simpa [Nat.add_assoc,Nat.add_comm,Nat.add_left_comm] using hg1) (by intro r hr;obtain ⟨x,_,rfl⟩:=List.mem_map.1 hr;simp) rfl (by simp) (by simp) (by simp;omega)
    have et:(c.lines.take (i+1)).map (fun x=>(bO x).cells)=(c.lines.take i).map (fun x=>(bO x).cells)++[(bO c.lines[i]).cells]:=by
     rw [List.take_add_one,List.getElem?_eq_getElem h,List.map_append];rfl
    have hlr:((c.lines.take i).map fun x=>(bO x).cells).length=i:=by simp;omega
    rw [hlr] at ha
    simp at ha
    simp [e1',e2',e3',e5',h,g3,fX,ah,aq,ha,au h (by omega)]
    refine .inr (.inr ⟨b,g,?_,?_⟩)
    ·rw [←List.map_take,et,List.length_append,hlr];simp;omega
    ·rw [←List.map_take,et];exact hJ'
   ·have h':i=c.lines.length:=by omega
    subst h'
    rw [List.take_length] at hg1
    have g5':=fun K=>g5 (s' 4) hg1.leafv hg1.cellv (H++.rows 139 0 [c.cells]::.rows 3 0 [[.bool false,.str [],.nils]]::(J++J1)) (by simp) K
    obtain ⟨b,g,J',ha,hJ',hold,hdis⟩:=aQ.append (P:=Tryz.prog) (base:=H.length) (Z:=H++[.rows 139 0 [c.cells],.rows 3 0 [[.bool false,.str [],.nils]]]) (J:=J++J1++[.rows 3 0 [[.bool true,.str [],s' 4]]]) (e:=263) (e':=263) (ts:=#[261,261]) (ys:=[[.bool true,.str [],s' 4]]) (x:=.lst [[.bool true,.str [],s' 4]] true) (v:=s 3) (rows:=([fR c.kind]++mO c++jH c).map SX.cells) (by simp) (by simp) se tf (by simp) (by decide) (by simp) (by simpa using (hg.app (J1++[.rows 3 0 [[.bool true,.str [],s' 4]]]))) (by intro r hr;obtain ⟨x,_,rfl⟩:=List.mem_map.1 hr;simp) rfl (by simp) (by simp) (by simp;omega)
    simp at ha
    simp [e1',e2',e3',e5',g5',hg1.leafv,hg1.cellv,ah,aq,ha]
    have hx:kH c=[fR c.kind]++mO c++jH c++[nz c.lines]:=by simp [kH,yM,k5]
    refine ⟨b,g,⟨rfl,rfl,by simp [hx];omega⟩,_,hJ',by simp [hx],fun X Y L k hk=>?_⟩
    have hv:aI (H++X::Y::(J'++L)) k 1 (s' 4)=some (am (gV c.lines) (c.lines.map fun x=>(bO x).cells)):=by
     rcases hg1 with ⟨_,h4⟩ | h4 | ⟨b4,g4,h4,hb4⟩
     ·rcases hk1 with h5 | ⟨_,_,_,h5⟩<;>rw [h4] at h5<;>cases h5
     ·rcases hk1 with h5 | ⟨_,_,_,h5⟩
      ·rw [h5]
       rw [h4] at h5
       have hl0:c.lines=[]:=by simpa using h5
       rw [hl0];rfl
      ·rw [h4] at h5;cases h5
     ·have hne:c.lines≠[]:=by
       intro h0
       have:=hz (by simp [h0])
       rw [h4] at this;cases this
      have hb4':b4<J1.length:=(List.getElem?_eq_some_iff.1 hb4).1
      have hbne:J.length+b4≠b:=by
       rcases hdis with ⟨g',l',hd⟩ | hd
       ·rcases hg with ⟨_,h6⟩ | h6 | ⟨b6,g6,h6,hb6⟩
        ·rw [hd] at h6;cases h6
        ·rw [hd] at h6;cases h6
        ·rw [hd] at h6
         simp at h6
         have:=(List.getElem?_eq_some_iff.1 hb6).1
         omega
       ·simp at hd;omega
      have hget:=hold (J.length+b4) hbne (by simp;omega)
      rw [List.append_assoc,List.getElem?_append_right (by omega),Nat.add_sub_cancel_left,List.getElem?_append_left hb4',hb4] at hget
      have hget2:(H++X::Y::(J'++L))[H.length+2+J.length+b4]?=some (.rows 3 g4 (c.lines.map fun x=>(bO x).cells)):=by
       rw [show H.length+2+J.length+b4=H.length+(J.length+b4+1+1) by omega,bq]
       simp only [List.getElem?_cons_succ]
       rw [List.getElem?_append_left (List.getElem?_eq_some_iff.1 hget).1];exact hget
      rw [h4,dW hget2 (by omega) (aH (fun x=>SX.closed (bO x)) _)]
      cases hq:c.lines with
      | nil=>exact absurd hq hne
      | cons a l=>rfl
    rw [hx,List.mapM_append,dX (aH SX.closed _)]
    simp [hv,nz,cS,Function.comp_def]
  ·by_cases k1:c.kind=1
   ·have hx:kH c=[fR c.kind]++mO c++jH c:=by simp [kH,yM,k1]
    have hne:jH c≠[]:=by simp [jH,k1]
    obtain ⟨b,g,hs3,hJ⟩:∃b g,s 3=.sl (H.length+2+b) g 3 0 ((kH c).map SX.cells).length∧J[b]?=some (.rows 3 g ((kH c).map SX.cells)):=by
     rw [hx]
     rcases hl with hl | ⟨b,g,l,hl⟩
     ·rw [List.length_append,List.length_append] at hl
      exact absurd (List.length_eq_zero_iff.1 (by simp at hl;omega)) hne
     ·rcases hg with ⟨_,h⟩ | h | h
      ·rw [hl] at h;cases h
      ·rw [hl] at h;cases h
      ·exact h
    simp [e1,e2,k1]
    exact ⟨b,g,by simpa using hs3,_,hJ,by simp,fun _ _ _ _ _=>dX (aH SX.closed _)⟩
   ·have hx:kH c=[fR c.kind]++mO c++jH c++[nF c.over]:=by simp [kH,yM,k1,k5]
    obtain ⟨v',J',ha,hg',hl'⟩:=mZ (X:=.rows 139 0 [c.cells]) (Y:=.rows 3 0 [[.bool false,.str [],.nils]]) hg (OG (nF c.over)) (by simp) (by simp;omega)
    simp at ha
    simp [e1,e2,g4,k1,k5,ah,aq,ha]
    rw [←hx] at hg'
    rcases hl' with ⟨b,g,l,rfl⟩
    rcases hg' with ⟨_,h⟩ | h | ⟨b,g,h,hJ⟩
    ·cases h
    ·cases h
    ·exact ⟨b,g,by simpa using h,_,hJ,by simp,fun _ _ _ _ _=>dX (aH SX.closed _)⟩
 rintro s H' ⟨e1,e2,b,g,J',rfl,e3,rs,hJ,hrl,hfz⟩
 have g5':=fun K=>g5 (.sl (H.length+2+b) g 3 0 (kH c).length) rfl rfl (H++.rows 139 0 [c.cells]::.rows 3 0 [[.bool false,.str [],.nils]]::J') (by simp) K
 simp [e1,e2,e3,g5',ao,aD]
 have hf:=hfz (.rows 139 0 [c.cells]) (.rows 3 0 [[.bool true,.str [],.sl (H.length+2+b) g 3 0 (kH c).length]]) [.rows 3 0 [[.bool true,.str [],.sl (H.length+2+b) g 3 0 (kH c).length]]] H.length (Nat.le_refl _)
 have hb:(H++.rows 139 0 [c.cells]::.rows 3 0 [[.bool true,.str [],.sl (H.length+2+b) g 3 0 (kH c).length]]::(J'++[.rows 3 0 [[.bool true,.str [],.sl (H.length+2+b) g 3 0 (kH c).length]]]))[H.length+2+b]?=some (.rows 3 g rs):=by
  rw [show H.length+2+b=H.length+(b+1+1) by omega,bq]
  simp only [List.getElem?_cons_succ]
  rw [List.getElem?_append_left (List.getElem?_eq_some_iff.1 hJ).1];exact hJ
 have hs:=pb hb (k:=H.length) (d:=1) (by omega) hf
 rw [hrl] at hs
 rw [lq,cS]
 exact je (by simp [hs,am])
end Go.Proofs.Ev
namespace Go.Proofs.Ev
open Go.Proofs
variable {C:bD}
theorem pQ {Z J:ae} {H0:ae} {n:Nat} (hn:n=Z.length) (hZ:H0.length≤Z.length) {v:AV} {r:List SX} {y:SX} (hg:aQ n 3 J v (r.map SX.cells)) (hb:r.length≤2^20) :
 ∃v' J',bg Tryz.prog H0.length (Z++J) #[261,261] v.denil (.lst [y.cells] true)=some (v',Z++J')∧aQ n 3 J' v' ((r++[y]).map SX.cells)∧∃b g l,v'=.sl b g 3 0 l:=by
 subst hn
 obtain ⟨b,g,J',h1,h2,_⟩:=aQ.append (P:=Tryz.prog) (base:=H0.length) (Z:=Z) (J:=J) (e:=263) (e':=263) (ts:=#[261,261]) (ys:=[y.cells]) (x:=.lst [y.cells] true) (v:=v) (rows:=r.map SX.cells) (by simp) (by simp) se tf (by simp) (by decide) hZ hg (by simp) rfl (by simp) (by simp) (by simp;omega)
 exact ⟨_,J',h1,.inr (.inr ⟨b,g,by simp,by simpa using h2⟩),_,_,_,rfl⟩
theorem aQ.freezeX {Z J L:ae} {n k d:Nat} {v:AV} {r:List SX} (hg:aQ n 3 J v (r.map SX.cells)) (hn:n=Z.length) (hk:k≤Z.length) (hz:r=[]→v=.lst [] true) (hz2:v=.lst [] true∨∃b g l,v=.sl b g 3 0 l) :
 aI (Z++(J++L)) k (d+1) v=some (am (gV r) (r.map SX.cells)):=by
 subst hn
 rcases hg with ⟨_,h4⟩ | h4 | ⟨b4,g4,h4,hb4⟩
 ·rcases hz2 with h5 | ⟨_,_,_,h5⟩<;>rw [h4] at h5<;>cases h5
 ·rcases hz2 with h5 | ⟨_,_,_,h5⟩
  ·rw [h5]
   rw [h4] at h5
   have hl0:r=[]:=by simpa using h5
   rw [hl0];rfl
  ·rw [h4] at h5;cases h5
 ·have hne:r≠[]:=by
   intro h0
   have:=hz h0
   rw [h4] at this;cases this
  have hget:(Z++(J++L))[Z.length+b4]?=some (.rows 3 g4 (r.map SX.cells)):=by
   rw [bq,List.getElem?_append_left (List.getElem?_eq_some_iff.1 hb4).1];exact hb4
  rw [h4,dW hget (by omega) (aH SX.closed _)]
  cases r with
  | nil=>exact absurd rfl hne
  | cons a l=>rfl
theorem ud {H:ae} {k d:Nat} {rs qs:List (List AV)} {e:Bool} (hc:rs.mapM (fun r:List AV=>r.mapM (aI H k d))=some qs):aI H k (d+1) (.lst rs e)=some (.lst qs e):=by
 simp only [aI,AV.closed]
 by_cases h:AV.closedss rs=true
 ·rw [dX h] at hc
  cases hc;simp [h]
 ·simp [h,hc]
def dC (p:aA):SX:=fp [bO [113,117,105,108,116,49],bO p.author,bO p.message,fR p.time,fp (p.deps.map fun d=>jB d.d) (gV p.deps),fp (p.changes.map lq) (gV p.changes)] .exact
structure aA.Ok2 (p:aA):Prop where
 deps:p.deps.length≤2^20
 changesN:p.changes.length≤2^20
 changes:∀c∈p.changes,c.Ok2
 nodes:(dC p).nodes≤2^40
def gU (p:aA):Int:=if vj (dC p)≠0∨65536<(dC p).enc.length then 4 else 0
def jK (p:aA):List UInt8:=if gU p=0 then (dC p).enc else []
set_option maxRecDepth 100000 in
set_option maxHeartbeats 2000000 in
theorem BY (S:db C) (p:aA) (hp:p.Ok2):b8 Tryz.prog C 123 [] [.agg p.cells] (.tup [.str (jK p),.int .i64 (gU p)]):=by
 refine aw (S.pure5 _ (by decide)) fun H=>aj Tryz.func123 rfl (S.prim _ (by decide)) (by simp) (by kernel_rfl) ?_
 unfold Tryz.f123
 have g2:=fun n=>(py S n).eq
 have g3:=fun s=>(uC S s).eq
 have g5:=fun v hv hc (H':ae) hb K=>qi (C:=C) S v hv hc (base:=H.length) (H:=H') hb K
 refine cut (fun s H'=>s 1=.ptr H.length 0 5 0 0∧H'=H++.rows 5 0 [p.cells]::[]) ?_ ?_
 ·simp [aE]
 rintro s H' ⟨e1,rfl⟩
 refine cut (fun s H'=>s 1=.ptr H.length 0 5 0 0∧s 4=.lst [] true∧s 5=.lst [] true∧H'=H++.rows 5 0 [p.cells]::[]) ?_ ?_
 ·simp [e1,ah,aq]
 rintro s H' ⟨e1,e4,e5,rfl⟩
 refine cut (fun s H'=>s 1=.ptr H.length 0 5 0 0∧s 5=.lst [] true∧∃J,H'=H++.rows 5 0 [p.cells]::J∧aQ (H.length+1) 3 J (s 4) ((p.deps.map fun d=>jB d.d).map SX.cells)∧(p.deps=[]→s 4=.lst [] true)∧(s 4=.lst [] true∨∃b g l,s 4=.sl b g 3 0 l)) ?_ ?_
 ·simp [e1,e4,e5]
  refine ay p.deps.length (fun i s H'=>s 1=.ptr H.length 0 5 0 0∧s 5=.lst [] true∧s 6=.int .i64 i∧∃J,H'=H++.rows 5 0 [p.cells]::J∧aQ (H.length+1) 3 J (s 4) (((p.deps.take i).map fun d=>jB d.d).map SX.cells)∧(i=0→s 4=.lst [] true)∧(s 4=.lst [] true∨∃b g l,s 4=.sl b g 3 0 l)) ?_ ?_
  ·exact ⟨e1,e5,rfl,[],rfl,by simp [e4];exact .lst [],fun _=>e4,.inl e4⟩
  rintro i s H' ⟨e1,e5,e6,J,rfl,hg,hz,hz2⟩ hi
  by_cases h:i<p.deps.length
  ·have hd:=hp.deps
   have c1:∀base H K,aF Tryz.prog C base (.fn 180 []) [.agg p.deps[i].cells] H K=K (.agg (jB p.deps[i].d).cells) H:=(uH S p.deps[i].d p.deps[i].h).eq
   obtain ⟨v',J',ha,hg',hl'⟩:=pQ (H0:=H) (Z:=H++[.rows 5 0 [p.cells]]) (by simp) (by simp) (y:=jB p.deps[i].d) hg (by simp;omega)
   simp at ha
   have et:(p.deps.take (i+1)).map (fun d=>jB d.d)=(p.deps.take i).map (fun d=>jB d.d)++[jB p.deps[i].d]:=by
    rw [List.take_add_one,List.getElem?_eq_getElem h,List.map_append];rfl
   simp [e1,e5,e6,h,c1,ah,aq,ha,au h (by omega)]
   refine ⟨?_,.inr hl'⟩
   rw [←et] at hg'
   simpa using hg'
  ·have h':i=p.deps.length:=by omega
   subst h'
   rw [List.take_length] at hg
   simp [e1,e5,e6]
   exact ⟨by simpa using hg,fun h0=>hz (by simp [h0]),hz2⟩
 rintro s H' ⟨e1,e5,J0,rfl,hg0,hz0,hk0⟩
 refine cut (fun s' H'=>s' 1=.ptr H.length 0 5 0 0∧s' 4=s 4∧∃J,H'=H++.rows 5 0 [p.cells]::(J0++J)∧aQ (H.length+1+J0.length) 3 J (s' 5) ((p.changes.map lq).map SX.cells)∧(p.changes=[]→s' 5=.lst [] true)∧(s' 5=.lst [] true∨∃b g l,s' 5=.sl b g 3 0 l)) ?_ ?_
 ·simp [e1,e5]
  refine ay p.changes.length (fun i s' H'=>s' 1=.ptr H.length 0 5 0 0∧s' 4=s 4∧s' 7=.int .i64 i∧∃J,H'=H++.rows 5 0 [p.cells]::(J0++J)∧aQ (H.length+1+J0.length) 3 J (s' 5) (((p.changes.take i).map lq).map SX.cells)∧(i=0→s' 5=.lst [] true)∧(s' 5=.lst [] true∨∃b g l,s' 5=.sl b g 3 0 l)) ?_ ?_
  ·exact ⟨e1,rfl,rfl,[],by simp,by simp [e5];exact .lst [],fun _=>e5,.inl e5⟩
  rintro i s' H' ⟨e1,e4',e6,J,rfl,hg,hz,hz2⟩ hi
  by_cases h:i<p.changes.length
  ·have hd:=hp.changesN
   have c1:=(BX S p.changes[i] (hp.changes _ (List.getElem_mem h))).eq
   obtain ⟨v',J',ha,hg',hl'⟩:=pQ (H0:=H) (Z:=H++.rows 5 0 [p.cells]::J0) (by simp;omega) (by simp) (y:=lq p.changes[i]) hg (by simp;omega)
   simp at ha
   have et:(p.changes.take (i+1)).map lq=(p.changes.take i).map lq++[lq p.changes[i]]:=by
    rw [List.take_add_one,List.getElem?_eq_getElem h,List.map_append];rfl
   simp [e1,e4',e6,h,c1,ah,aq,ha,au h (by omega)]
   refine ⟨?_,.inr hl'⟩
   rw [←et] at hg'
   simpa using hg'
  ·have h':i=p.changes.length:=by omega
   subst h'
   rw [List.take_length] at hg
   simp [e1,e4',e6]
   exact ⟨by simpa using hg,fun h0=>hz (by simp [h0]),hz2⟩
 rintro s' H' ⟨e1,e4,J,rfl,hg,hz,hk⟩
 have l1:=fun K=>g5 (s 4) hg0.leafv hg0.cellv (H++.rows 5 0 [p.cells]::(J0++J)) (by simp) K
 have l2:=fun K=>g5 (s' 5) hg.leafv hg.cellv (H++.rows 5 0 [p.cells]::(J0++(J++[.rows 3 0 [[.bool true,.str [],s 4]]]))) (by simp) K
 simp [e1,e4,g2,g3,l1,hg0.leafv,hg0.cellv,ah,aq]
 rw [aL (h:=by kernel_rfl)]
 simp [e1,e4,l2]
 rw [aL (h:=by kernel_rfl)]
 have l3:=fun v hv hc (H':ae) hb K=>qi (C:=C) S v hv hc (base:=H.length) (H:=H') hb K
 simp [hg.leafv,hg.cellv,hg0.leafv,hg0.cellv,ah,aq]
 rw [l3 _ (by simp) (by simp) _ (by simp),aL (h:=by kernel_rfl)]
 simp
 have f0:=fun L=>hg0.freezeX (L:=L) (Z:=H++[.rows 5 0 [p.cells]]) (k:=0) (d:=3) (by simp) (by simp) (by simpa using hz0) hk0
 have f1:=fun L=>hg.freezeX (L:=L) (Z:=H++.rows 5 0 [p.cells]::J0) (k:=0) (d:=3) (by simp;omega) (by simp) (by simpa using hz) hk
 rw [(zV S.todZ (dC p) hp.nodes).eq]
 ·by_cases h1:vj (dC p)=0
  ·by_cases h2:65536<(dC p).enc.length
   ·have hE:gU p=4:=by unfold gU;rw [if_pos (.inr h2)]
    have hS:jK p=[]:=by unfold jK;rw [if_neg (by rw [hE];decide)]
    rw [hE,hS]
    simp [an,h1,show (65536:Int)<(dC p).enc.length by omega]
    simp [ak,AV.closed,AV.closeds]
   ·have hE:gU p=0:=by unfold gU;rw [if_neg (by simp [h1];omega)]
    have hS:jK p=(dC p).enc:=by unfold jK;rw [if_pos hE]
    rw [hE,hS]
    simp [an,h1,show ¬(65536:Int)<(dC p).enc.length by omega]
    simp [ak,AV.closed,AV.closeds]
  ·have hE:gU p=4:=by unfold gU;rw [if_pos (.inl h1)]
   have hS:jK p=[]:=by unfold jK;rw [if_neg (by rw [hE];decide)]
   rw [hE,hS]
   have hb:(vj (dC p) != 0)=true:=by simpa using h1
   simp [an,h1,hb]
   simp [ak,AV.closed,AV.closeds]
 ·have f0':=f0 (J++[.rows 3 0 [[.bool true,.str [],s 4]],.rows 3 0 [[.bool true,.str [],s' 5]],.rows 3 0 [[.bool true,.str [],.lst [(bO [113,117,105,108,116,49]).cells,(bO p.author).cells,(bO p.message).cells,(fR p.time).cells,[.bool true,.str [],s 4],[.bool true,.str [],s' 5]] true]]])
  have f1':=f1 [.rows 3 0 [[.bool true,.str [],s 4]],.rows 3 0 [[.bool true,.str [],s' 5]],.rows 3 0 [[.bool true,.str [],.lst [(bO [113,117,105,108,116,49]).cells,(bO p.author).cells,(bO p.message).cells,(fR p.time).cells,[.bool true,.str [],s 4],[.bool true,.str [],s' 5]] true]]]
  simp only [List.append_assoc,List.cons_append,List.nil_append,List.singleton_append] at f0' f1' ⊢
  rw [List.mapM_cons,List.mapM_nil,je (ws:=(dC p).cells)]
  ·rfl
  rw [dC,cS]
  simp only [List.mapM_cons,List.mapM_nil,js,kc]
  rw [ud (qs:=[bO [113,117,105,108,116,49],bO p.author,bO p.message,fR p.time,fp (p.deps.map fun d=>jB d.d) (gV p.deps),fp (p.changes.map lq) (gV p.changes)].map SX.cells)]
  ·rfl
  have k1:gV (p.deps.map fun d=>jB d.d)=gV p.deps:=by unfold gV;simp
  have k2:gV (p.changes.map lq)=gV p.changes:=by unfold gV;simp
  rw [k1] at f0'
  rw [k2] at f1'
  simp only [List.mapM_cons,List.mapM_nil,List.map_cons,List.map_nil,dq (SX.closed _),cS,js,kc,f0',f1']
  rfl
def bt (p:aA):Int:=if j5 p≠0 then j5 p else gU p
def gz (p:aA):List UInt8:=if bt p=0 then (dC p).enc else []
theorem qt (S:db C) (p:aA) (hp:p.Ok) (hp2:p.Ok2):b8 Tryz.prog C 71 [] [.agg p.cells] (.tup [.str (gz p),.int .i64 (bt p)]):=by
 refine aw (S.pure5 _ (by decide)) fun H=>aj Tryz.func71 rfl (S.prim _ (by decide)) (by simp) (by kernel_rfl) ?_
 unfold Tryz.f71
 have e1:=(wD S.tofY p hp).eq
 have e2:=(BY S p hp2).eq
 by_cases h:j5 p=0
 ·have hE:bt p=gU p:=by unfold bt;rw [if_neg (by simpa using h)]
  have hS:gz p=jK p:=by unfold gz jK;rw [hE]
  rw [hE,hS]
  simp [aE,e1,e2,m7,h]
  simp [ak,AV.closed,AV.closeds]
 ·have hE:bt p=j5 p:=by unfold bt;rw [if_pos h]
  have hS:gz p=[]:=by unfold gz;rw [hE,if_neg h]
  rw [hE,hS]
  simp [aE,e1,m7,h]
  simp [ak,AV.closed,AV.closeds]
theorem zT (S:db C) (p:aA) (hp:p.Ok) (hp2:p.Ok2):b8 Tryz.prog C 73 [] [.agg p.cells] (.int .i64 (bt p)):=by
 refine aw (S.pure5 _ (by decide)) fun H=>aj Tryz.func73 rfl (S.prim _ (by decide)) (by simp) (by kernel_rfl) ?_
 unfold Tryz.f73
 have e1:=(qt S p hp hp2).eq
 simp [aE,e1]
end Go.Proofs.Ev
namespace Go.Proofs.Ev
open Go.Proofs
variable {C:bD}
structure d3 (C:bD):Prop extends db C where
 pure6:∀f,f∈[189,188,186,124,187,125,72,35,74,39]→C.pure f=true
@[simp] theorem Nq (x:ol):(bT x).cells=[bT x]:=rfl
@[simp] theorem ON (x:ol):(bT x).leaf=true:=rfl
@[simp] theorem Mv (x:ol):(bT x).closed=true:=rfl
@[simp] theorem Nr (x:ol):(bT x).denil=bT x:=rfl
@[simp] theorem NL (H:ae) (k d:Nat) (x:ol):aI H k d (bT x)=some (bT x):=ak rfl
theorem eW (S:d3 C) (x:ol) (n:Nat) (h:n≤32):b8 Tryz.prog C 189 [] [bT x,.int .u64 (n:Int)] (bT (eT x n)):=by
 refine aw (S.pure6 _ (by decide)) fun H=>aj Tryz.func189 rfl (S.prim _ (by decide)) (by simp) (by kernel_rfl) ?_
 unfold Tryz.f189
 have w1:IntKind.u64.wrap (32-(n:Int))=((32-n:Nat):Int):=by rw [IntWalk.u64_in _ (by omega)];omega
 have e1:=fun t=>sg (P:=Tryz.prog) (C:=C) t x .u64 n h
 have e2:=fun t=>wS (P:=Tryz.prog) (C:=C) t x .u64 (32-n) (by omega)
 simp [aE,w1,e1,e2,Kh,eT]
theorem vq (S:d3 C):b8 Tryz.prog C 188 [] [] (.agg (pB.map bT)):=by
 refine aw (S.pure6 _ (by decide)) fun H=>aj Tryz.func188 rfl (S.prim _ (by decide)) (by simp) (by kernel_rfl) ?_
 unfold Tryz.f188
 simp [aE,ao,aD]
 rw [ak (by simp [AV.closed,AV.closeds])]
 rfl
theorem EY (S:d3 C) (n:Nat) (h:n≤2^20):b8 Tryz.prog C 186 [] [.int .i64 (n:Int)] (.str (List.replicate n 0)):=by
 refine aw (S.pure6 _ (by decide)) fun H=>aj Tryz.func186 rfl (S.prim _ (by decide)) (by simp) (by kernel_rfl) ?_
 unfold Tryz.f186
 simp [aE]
 refine ay n (fun i s H'=>H'=H∧s 0=.int .i64 n∧s 4=.int .i64 i∧s 3=.str (List.replicate i 0)) ?_ ?_
 ·exact ⟨rfl,rfl,rfl,rfl⟩
 rintro i s H' ⟨rfl,e0,e4,e3⟩ hi
 by_cases h':i<n
 ·have a1:=gR (P:=Tryz.prog) (C:=C) (t:=9) (x:=List.replicate i 0) (y:=[0]) (by simp;omega)
  simp [e0,e4,e3,h',a1,au h' (by omega)]
  rw [List.replicate_succ',List.append_cancel_left_eq]
 ·have h':i=n:=by omega
  subst h'
  simp [e0,e4,e3]
theorem FR (n:Nat):UInt8.ofNat (n % 256)=UInt8.ofNat n:=by
 apply UInt8.toNat_inj.1;simp
theorem Cd (S:d3 C) (x:List UInt8) (h:x.length≤2^40):b8 Tryz.prog C 124 [] [.str x] (.str (c8 x)):=by
 refine aw (S.pure6 _ (by decide)) fun H=>aj Tryz.func124 rfl (S.prim _ (by decide)) (by simp) (by kernel_rfl) ?_
 unfold Tryz.f124
 obtain ⟨r,hr⟩:∃r:Nat,r=(x.length+1) % 64:=⟨_,rfl⟩
 obtain ⟨z,hz⟩:∃z:Nat,z=(120-r) % 64:=⟨_,rfl⟩
 have hpad:c8 x=x++[128]++List.replicate z 0++ct x.length:=by rw [c8,hz,hr];simp
 have cz:=(EY S z (by omega)).eq
 have r1:∀t,bP Tryz.prog C .rem t (.int .i64 ((x.length:Int)+1)) (.int .i64 64)=some (.int .i64 (r:Int)):=fun t=>by
  rw [pS (h:=by decide),Int.tmod_eq_emod_of_nonneg (by omega),hr];rfl
 have r2:∀t,bP Tryz.prog C .rem t (.int .i64 (IntKind.i64.wrap (120-(r:Int)))) (.int .i64 64)=some (.int .i64 (z:Int)):=fun t=>by
  rw [pS (h:=by decide),aO (by omega) (by omega),Int.tmod_eq_emod_of_nonneg (by omega),hz];congr 2;omega
 have q3:IntKind.u64.wrap ((x.length:Int))=x.length:=IntWalk.u64_in _ (by omega)
 have q4:IntKind.u64.wrap ((x.length:Int)*8)=(x.length:Int)*8:=IntWalk.u64_in _ (by omega)
 have a1:=gR (P:=Tryz.prog) (C:=C) (t:=9) (x:=x) (y:=[128]) (by simp;omega)
 have a2:=gR (P:=Tryz.prog) (C:=C) (t:=9) (x:=x++[128]) (y:=List.replicate z 0) (by simp;omega)
 simp at a2
 simp [aE,a1,r1,r2,cz,a2,q3,q4,bn]
 refine ay 8 (fun i s H'=>H'=H∧s 4=.int .u64 ((x.length:Int)*8)∧s 5=.int .i64 (7-(i:Int))∧s 3=.str (x++[128]++List.replicate z 0++(ct x.length).take i)) ?_ ?_
 ·exact ⟨rfl,rfl,rfl,by simp⟩
 rintro i s H' ⟨rfl,e4,e5,e3⟩ hi
 by_cases h':i<8
 ·have hi8:(0:Int)≤7-i:=by omega
  have w1:IntKind.i64.wrap (8*(7-(i:Int)))=((8*(7-i):Nat):Int):=by rw [aO (by omega) (by omega)];omega
  have w2:IntKind.u64.wrap ((8*(7-i):Nat):Int)=((8*(7-i):Nat):Int):=IntWalk.u64_in _ (by omega)
  have w3:IntKind.i64.wrap (7-(i:Int)-1)=7-((i:Int)+1):=by rw [aO (by omega) (by omega)];omega
  obtain ⟨q,hq⟩:∃q:Nat,q=x.length*8 / 2^(8*(7-i)):=⟨_,rfl⟩
  have s1:∀t,bP Tryz.prog C .shr t (.int .u64 ((x.length:Int)*8)) (.int .u64 ((8*(7-i):Nat):Int))=some (.int .u64 (q:Int)):=fun t=>by
   simp only [bP,IntKind.bits]
   rw [if_pos (by omega),hq]
   have e:min ((8*(7-i):Nat):Int).toNat 64=8*(7-i):=by omega
   have e2:(((x.length*8:Nat):Int)).fdiv ((2^(8*(7-i)):Nat):Int)=((x.length*8 / 2^(8*(7-i)):Nat):Int):=by
    rw [Int.fdiv_eq_ediv_of_nonneg _ (Int.natCast_nonneg _)];rfl
   rw [e,show ((2:Int)^(8*(7-i)))=((2^(8*(7-i)):Nat):Int) by simp,show (x.length:Int)*8=((x.length*8:Nat):Int) by omega,e2]
  have w4:IntKind.u8.wrap (q:Int)=((q % 256:Nat):Int):=by rw [IntKind.wrap_u8];omega
  have hget:(ct x.length)[i]?=some (UInt8.ofNat q):=by
   unfold ct
   rw [List.getElem?_map,List.getElem?_range h',hq,Nat.mod_eq_of_lt (by omega)];rfl
  have hlen:(ct x.length).length=8:=by simp [ct]
  have b1:gd [[.int .u8 ((q % 256:Nat):Int)]]=some [UInt8.ofNat q]:=by simp only [gd,Int.toNat_natCast,FR];rfl
  have a3:=gR (P:=Tryz.prog) (C:=C) (t:=9) (x:=x++[128]++List.replicate z 0++(ct x.length).take i) (y:=[UInt8.ofNat q]) (by simp;omega)
  have et:(ct x.length).take (i+1)=(ct x.length).take i++[UInt8.ofNat q]:=by rw [List.take_add_one,hget];rfl
  have hm:8*(7-i)=8*(7-i):=rfl
  generalize hM:8*(7-i)=M at w1 w2 s1
  generalize hc:q % 256=c at w4 b1
  have h7:(i:Int)≤7:=by omega
  simp only [List.append_assoc,List.cons_append,List.nil_append] at a3
  simp [e4,e5,e3,h7,w1,w2,s1,w3,w4,bn,ah,aq,cg,b1,a3,h',et]
 ·have h':i=8:=by omega
  subst h'
  have hlen:(ct x.length).length=8:=by simp [ct]
  simp [e4,e5,e3,hpad,List.take_of_length_le,hlen]
theorem FT {L:List ol} {m j:Nat} (hj:j<L.length):((L.map bT++List.replicate m (bT 0)).drop j).head?=some (bT (L.getD j 0)):=by
 rw [List.head?_drop,List.getElem?_append_left (by simpa using hj),List.getElem?_map,List.getElem?_eq_getElem hj,List.getD_eq_getElem?_getD,List.getElem?_eq_getElem hj];rfl
theorem Du {L:List ol} {m j:Nat} {x:ol} (hj:j=L.length):(L.map bT++List.replicate (m+1) (bT 0)).take j++bT x::(L.map bT++List.replicate (m+1) (bT 0)).drop (j+1)=(L++[x]).map bT++List.replicate m (bT 0):=by
 subst hj
 rw [List.take_append_of_le_length (by simp),List.take_of_length_le (by simp),List.drop_append,List.drop_of_length_le (by simp),List.replicate_succ]
 simp
theorem vT (b:UInt8):AV.int .u32 (IntKind.u32.wrap (b.toNat:Int))=bT (kO b):=by
 have h:=b.toNat_lt
 have:(kO b).toNat=b.toNat:=by simp [kO]
 rw [bT,this,IntWalk.u32_in _ (by omega)]
end Go.Proofs.Ev
namespace Go.Proofs.Ev
open Go.Proofs
variable {C:bD}
theorem yn {block:List UInt8} {j:Nat} (h:j<block.length):block[j]?=some (block.getD j 0):=by
 rw [List.getD_eq_getElem?_getD,List.getElem?_eq_getElem h];rfl
def iW (block:List UInt8) (t:Nat):List AV:=(bp block t).map bT++List.replicate (64-t) (bT 0)
@[simp] theorem kx {block:List UInt8} {t:Nat} (h:t≤64):(iW block t).length=64:=by simp [iW,c9];omega
theorem qR:∀l:List ol,AV.closeds (l.map bT)=true
 | []=>rfl
 | x::l=>by simp [AV.closeds,qR l]
theorem kS {block:List UInt8} {t j:Nat} (h:j<t):(iW block t)[j]?=some (bT ((bp block t).getD j 0)):=by
 rw [←List.head?_drop];exact FT (by rw [c9];exact h)
theorem qA {block:List UInt8} {t:Nat} {x:ol} (h:t<64) (hx:(if t<16 then rv block t else rT (bp block t))=x):(iW block t).take t++bT x::(iW block t).drop (t+1)=iW block (t+1):=by
 have e:64-t=(64-(t+1))+1:=by omega
 unfold iW
 rw [e,Du (by rw [c9]),bp]
 simp only [hx]
set_option maxHeartbeats 2000000 in
theorem yk (S:d3 C) (block:List UInt8) (hb:block.length=64):b8 Tryz.prog C 187 [] [.str block] (.agg ((bp block 64).map bT)):=by
 refine aw (S.pure6 _ (by decide)) fun H=>aj Tryz.func187 rfl (S.prim _ (by decide)) (by simp) (by kernel_rfl) ?_
 unfold Tryz.f187
 have sh24:∀t x,bP Tryz.prog C .shl t (bT x) (.int .u64 24)=some (bT (x <<< 24)):=fun t x=>wS t x .u64 24 (by decide)
 have sh16:∀t x,bP Tryz.prog C .shl t (bT x) (.int .u64 16)=some (bT (x <<< 16)):=fun t x=>wS t x .u64 16 (by decide)
 have sh8:∀t x,bP Tryz.prog C .shl t (bT x) (.int .u64 8)=some (bT (x <<< 8)):=fun t x=>wS t x .u64 8 (by decide)
 have sr10:∀t x,bP Tryz.prog C .shr t (bT x) (.int .u64 10)=some (bT (x >>> 10)):=fun t x=>sg t x .u64 10 (by decide)
 have sr3:∀t x,bP Tryz.prog C .shr t (bT x) (.int .u64 3)=some (bT (x >>> 3)):=fun t x=>sg t x .u64 3 (by decide)
 have r17:∀x base H K,aF Tryz.prog C base (.fn 189 []) [bT x,.int .u64 17] H K=K (bT (eT x 17)) H:=fun x=>(eW S x 17 (by decide)).eq
 have r19:∀x base H K,aF Tryz.prog C base (.fn 189 []) [bT x,.int .u64 19] H K=K (bT (eT x 19)) H:=fun x=>(eW S x 19 (by decide)).eq
 have r7:∀x base H K,aF Tryz.prog C base (.fn 189 []) [bT x,.int .u64 7] H K=K (bT (eT x 7)) H:=fun x=>(eW S x 7 (by decide)).eq
 have r18:∀x base H K,aF Tryz.prog C base (.fn 189 []) [bT x,.int .u64 18] H K=K (bT (eT x 18)) H:=fun x=>(eW S x 18 (by decide)).eq
 simp [aE,ao,aD]
 refine ay 16 (fun i s H'=>∃Z:List AV,Z.length=64∧s 0=.str block∧s 2=.ptr H.length 0 64 0 0∧s 3=.ptr (H.length+1) 0 64 0 0∧s 4=.int .i64 i∧H'=H++[.rows 64 0 [Z],.rows 64 0 [iW block i]]) ?_ ?_
 ·exact ⟨List.replicate 64 (.int .u32 0),rfl,rfl,rfl,rfl,rfl,rfl⟩
 rintro i s H' ⟨Z,hZ,e0,e2,e3,e4,rfl⟩ hi
 by_cases h:i<16
 ·have q0:=yn (block:=block) (j:=4*i) (by omega)
  have q1:=yn (block:=block) (j:=4*i+1) (by omega)
  have q2:=yn (block:=block) (j:=4*i+2) (by omega)
  have q3:=yn (block:=block) (j:=4*i+3) (by omega)
  have w0:IntKind.i64.wrap (4*(i:Int))=((4*i:Nat):Int):=by rw [aO (by omega) (by omega)];omega
  have w1:IntKind.i64.wrap (((4*i:Nat):Int)+1)=((4*i+1:Nat):Int):=by rw [aO (by omega) (by omega)];omega
  have w2:IntKind.i64.wrap (((4*i:Nat):Int)+2)=((4*i+2:Nat):Int):=by rw [aO (by omega) (by omega)];omega
  have w3:IntKind.i64.wrap (((4*i:Nat):Int)+3)=((4*i+3:Nat):Int):=by rw [aO (by omega) (by omega)];omega
  have hset:=qA (block:=block) (t:=i) (x:=rv block i) (by omega) (by rw [if_pos h])
  have hw:rv block i=kO (block.getD (4*i) 0) <<< 24 ||| kO (block.getD (4*i+1) 0) <<< 16 ||| kO (block.getD (4*i+2) 0) <<< 8 ||| kO (block.getD (4*i+3) 0):=rfl
  rw [hw] at hset
  generalize block.getD (4*i) 0=b0 at q0 hset
  generalize block.getD (4*i+1) 0=b1 at q1 hset
  generalize block.getD (4*i+2) 0=b2 at q2 hset
  generalize block.getD (4*i+3) 0=b3 at q3 hset
  generalize hj0:4*i=j0 at w0 w1 w2 w3 q0 q1 q2 q3
  generalize hj1:j0+1=j1 at w1 q1
  generalize hj2:j0+2=j2 at w2 q2
  generalize hj3:j0+3=j3 at w3 q3
  simp [-getElem?_pos,List.getElem?_cons_zero,e0,e2,e3,e4,w0,w1,w2,w3,q0,q1,q2,q3,show j0<block.length by omega,show j1<block.length by omega,show j2<block.length by omega,show j3<block.length by omega,bn,vT,sh24,sh16,sh8,Kh,ao,show (i:Int)<16 by omega,show (i:Int)<64 by omega,show i<64 by omega]
  rw [aL (h:=by kernel_rfl)]
  have hl:=kx (block:=block) (t:=i) (by omega)
  simp [h,e0,e2,e3,e4,au (show i<64 by omega) (by decide),hl,show i+1≤64 by omega]
  exact ⟨Z,hZ,rfl,hset⟩
 have h:i=16:=by omega
 subst h
 simp [e0,e2,e3,e4]
 refine ay 48 (fun i s H'=>∃T:Nat,T=16+i∧s 2=.ptr H.length 0 64 0 0∧s 3=.ptr (H.length+1) 0 64 0 0∧s 5=.int .i64 (T:Int)∧H'=H++[.rows 64 0 [Z],.rows 64 0 [iW block T]]) ?_ ?_
 ·exact ⟨16,rfl,e2,e3,rfl,rfl⟩
 clear e0 e2 e3 e4
 rintro i s H' ⟨T,hT,e2,e3,e5,rfl⟩ hi
 have hl:=kx (block:=block) (t:=T) (by omega)
 by_cases h:i<48
 ·obtain ⟨j15,hj15⟩:∃j,j=T-15:=⟨_,rfl⟩
  obtain ⟨j2,hj2⟩:∃j,j=T-2:=⟨_,rfl⟩
  obtain ⟨j7,hj7⟩:∃j,j=T-7:=⟨_,rfl⟩
  obtain ⟨j16,hj16⟩:∃j,j=T-16:=⟨_,rfl⟩
  have w15:IntKind.i64.wrap ((T:Int)-15)=(j15:Int):=by rw [aO (by omega) (by omega)];omega
  have w2:IntKind.i64.wrap ((T:Int)-2)=(j2:Int):=by rw [aO (by omega) (by omega)];omega
  have w7:IntKind.i64.wrap ((T:Int)-7)=(j7:Int):=by rw [aO (by omega) (by omega)];omega
  have w16:IntKind.i64.wrap ((T:Int)-16)=(j16:Int):=by rw [aO (by omega) (by omega)];omega
  have a15:=kS (block:=block) (t:=T) (j:=j15) (by omega)
  have a2:=kS (block:=block) (t:=T) (j:=j2) (by omega)
  have a7:=kS (block:=block) (t:=T) (j:=j7) (by omega)
  have a16:=kS (block:=block) (t:=T) (j:=j16) (by omega)
  have hset:=qA (block:=block) (t:=T) (x:=rT (bp block T)) (by omega) (by rw [if_neg (by omega)])
  have hn:rT (bp block T)=((eT ((bp block T).getD j2 0) 17 ^^^ eT ((bp block T).getD j2 0) 19 ^^^ (bp block T).getD j2 0 >>> 10)+(bp block T).getD j7 0+(eT ((bp block T).getD j15 0) 7 ^^^ eT ((bp block T).getD j15 0) 18 ^^^ (bp block T).getD j15 0 >>> 3))+(bp block T).getD j16 0:=by
   unfold rT
   simp only [c9]
   rw [←hj15,←hj2,←hj7,←hj16]
  rw [hn] at hset
  generalize (bp block T).getD j2 0=b0 at a2 hset
  generalize (bp block T).getD j7 0=b1 at a7 hset
  generalize (bp block T).getD j15 0=b2 at a15 hset
  generalize (bp block T).getD j16 0=b3 at a16 hset
  have k15:(j15:Int)<64∧j15<64:=by omega
  have k2:(j2:Int)<64∧j2<64:=by omega
  have k7:(j7:Int)<64∧j7<64:=by omega
  have k16:(j16:Int)<64∧j16<64:=by omega
  have kT:(T:Int)<64∧T<64∧T+1≤64:=by omega
  simp [-getElem?_pos,List.getElem?_cons_zero,e2,e3,e5,w15,w2,w7,w16,a15,a2,a7,a16,k15,k2,k7,k16,kT,r17,r19,r7,r18,sr10,sr3,wR,De,ao,hl]
  rw [aL (h:=by kernel_rfl)]
  simp [h,e2,e3,e5,au kT.2.1 (by decide),hl,kT]
  refine ⟨by omega,?_⟩
  rw [hset];congr 1;omega
 ·have h:i=48:=by omega
  subst h
  have hT:T=64:=by omega
  subst hT
  have e64:iW block 64=(bp block 64).map bT:=by simp [iW]
  have l64:=c9 block 64
  rw [e64] at hl ⊢
  generalize bp block 64=W at *
  simp [e2,e3,e5,ao,hZ,List.take_of_length_le,List.drop_of_length_le (Nat.le_of_eq hZ),l64]
  exact ak (v:=.agg (W.map bT)) (qR W)
def gX (s:vz):List AV:=[bT s.a,bT s.b,bT s.c,bT s.d,bT s.e,bT s.f,bT s.g,bT s.h]
set_option maxRecDepth 100000 in
set_option maxHeartbeats 2000000 in
theorem Ho (S:d3 C) (v0:vz) (block:List UInt8) (hb:block.length=64):b8 Tryz.prog C 125 [] [.agg (gX v0),.str block] (.agg (gX (nO v0 block))):=by
 refine aw (S.pure6 _ (by decide)) fun H=>aj Tryz.func125 rfl (S.prim _ (by decide)) (by simp) (by kernel_rfl) ?_
 unfold Tryz.f125
 have r6:∀x base H K,aF Tryz.prog C base (.fn 189 []) [bT x,.int .u64 6] H K=K (bT (eT x 6)) H:=fun x=>(eW S x 6 (by decide)).eq
 have r11:∀x base H K,aF Tryz.prog C base (.fn 189 []) [bT x,.int .u64 11] H K=K (bT (eT x 11)) H:=fun x=>(eW S x 11 (by decide)).eq
 have Me:∀x base H K,aF Tryz.prog C base (.fn 189 []) [bT x,.int .u64 25] H K=K (bT (eT x 25)) H:=fun x=>(eW S x 25 (by decide)).eq
 have r2:∀x base H K,aF Tryz.prog C base (.fn 189 []) [bT x,.int .u64 2] H K=K (bT (eT x 2)) H:=fun x=>(eW S x 2 (by decide)).eq
 have r13:∀x base H K,aF Tryz.prog C base (.fn 189 []) [bT x,.int .u64 13] H K=K (bT (eT x 13)) H:=fun x=>(eW S x 13 (by decide)).eq
 have r22:∀x base H K,aF Tryz.prog C base (.fn 189 []) [bT x,.int .u64 22] H K=K (bT (eT x 22)) H:=fun x=>(eW S x 22 (by decide)).eq
 have c1:=(yk S block hb).eq
 have c2:=(vq S).eq
 have l1:((bp block 64).map bT).length=64:=by rw [List.length_map,c9]
 have l2:(pB.map bT).length=64:=rfl
 obtain ⟨fW,hfW⟩:∃f:Nat→ol,f=fun t=>(bp block 64).getD t 0:=⟨_,rfl⟩
 obtain ⟨fK,hfK⟩:∃f:Nat→ol,f=fun t=>pB.getD t 0:=⟨_,rfl⟩
 have hround:∀t,cJ block v0 (t+1)=Cg (cJ block v0 t) (fK t) (fW t):=fun t=>by rw [hfK,hfW];rfl
 have hs:∀t,t<64→((bp block 64).map bT)[t]?=some (bT (fW t)):=fun t ht=>by
  rw [hfW,List.getElem?_map];simp only;rw [List.getD_eq_getElem?_getD,List.getElem?_eq_getElem (by rw [c9];exact ht)];rfl
 have hk:∀t,t<64→(pB.map bT)[t]?=some (bT (fK t)):=fun t ht=>by
  rw [hfK,List.getElem?_map];simp only;rw [List.getD_eq_getElem?_getD,List.getElem?_eq_getElem (show t<pB.length from ht)];rfl
 have hfin:nO v0 block=⟨v0.a+(cJ block v0 64).a,v0.b+(cJ block v0 64).b,v0.c+(cJ block v0 64).c,v0.d+(cJ block v0 64).d,v0.e+(cJ block v0 64).e,v0.f+(cJ block v0 64).f,v0.g+(cJ block v0 64).g,v0.h+(cJ block v0 64).h⟩:=rfl
 rw [hfin]
 have h0:cJ block v0 0=v0:=rfl
 have q1:∀x∈(bp block 64).map bT,x.leaf=true:=by intro x hx;obtain ⟨y,_,rfl⟩:=List.mem_map.1 hx;rfl
 have q2:∀x∈pB.map bT,x.leaf=true:=by intro x hx;obtain ⟨y,_,rfl⟩:=List.mem_map.1 hx;rfl
 clear hfW hfK
 generalize cJ block v0=R at *
 generalize (bp block 64).map bT=W at *
 generalize pB.map bT=Kc at *
 simp [aE,gX,ao,aD,c1,c2,l1,l2]
 refine ⟨q1,q2,?_⟩
 refine ay 64 (fun i s H'=>∃Z,Z.length=8∧s 2=.ptr H.length 0 8 0 0∧s 4=.ptr (H.length+1) 0 8 0 0∧s 5=.ptr (H.length+2) 0 64 0 0∧s 6=.ptr (H.length+3) 0 64 0 0∧s 7=.ptr (H.length+4) 0 8 0 0∧s 8=.int .i64 i∧
  H'=H++[.rows 8 0 [gX v0],.rows 8 0 [Z],.rows 64 0 [W],.rows 64 0 [Kc],.rows 8 0 [gX (R i)]]) ?_ ?_
 ·refine ⟨List.replicate 8 (.int .u32 0),rfl,rfl,rfl,rfl,rfl,rfl,rfl,?_⟩
  rw [h0];rfl
 rintro i s H' ⟨Z,hZ,e2,e4,e5,e6,e7,e8,rfl⟩ hi
 by_cases h:i<64
 ·have hs:=hs i h
  have hk:=hk i h
  have hr:=hround i
  have hi64:(i:Int)<64:=by omega
  simp [-getElem?_pos,List.getElem?_cons_zero,gX,e2,e4,e5,e6,e7,e8,hi64,h,hs,hk,r6,r11,Me,r2,r13,r22,wR,De,K6,K7,aD,ao,au h (by decide)]
  refine ⟨Z,hZ,rfl,?_⟩
  rw [hr]
  exact ⟨rfl,rfl,rfl,rfl,rfl,rfl,rfl,rfl⟩
 have h:i=64:=by omega
 subst h
 clear hround hs hk
 generalize R 64=v at *
 simp [e2,e4,e5,e6,e7,e8]
 refine ay 8 (fun i s H'=>s 2=.ptr H.length 0 8 0 0∧s 4=.ptr (H.length+1) 0 8 0 0∧s 7=.ptr (H.length+4) 0 8 0 0∧s 13=.int .i64 i∧
  H'=H++[.rows 8 0 [(gX ⟨v0.a+v.a,v0.b+v.b,v0.c+v.c,v0.d+v.d,v0.e+v.e,v0.f+v.f,v0.g+v.g,v0.h+v.h⟩).take i++(gX v0).drop i],.rows 8 0 [Z],.rows 64 0 [W],.rows 64 0 [Kc],.rows 8 0 [gX v]]) ?_ ?_
 ·exact ⟨e2,e4,e7,rfl,rfl⟩
 clear e2 e4 e5 e6 e7 e8
 rintro i s H' ⟨e2,e4,e7,e13,rfl⟩ hi
 by_cases h:i<8
 ·have hk:i=0∨i=1∨i=2∨i=3∨i=4∨i=5∨i=6∨i=7:=by omega
  rcases hk with rfl | rfl | rfl | rfl | rfl | rfl | rfl | rfl
  all_goals
   simp [gX,e2,e4,e7,e13,wR,ao]
   rw [aL (h:=by kernel_rfl)]
   simp [gX,e2,e4,e7,e13]
   try rfl
 have h:i=8:=by omega
 subst h
 simp [gX,e2,e4,e7,e13,ao,List.drop_of_length_le (Nat.le_of_eq hZ)]
 exact ⟨by omega,ak rfl⟩
end Go.Proofs.Ev
