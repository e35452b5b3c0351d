/- Part 10 of the proof that quiltlaw38.BlameTouching returns true: no statement of its own. -/
import Derived.Test.YtbpaeodbnleoaaaGreatDoorT9
set_option linter.all false
namespace Go.Proofs.Ev
open Go.Proofs
variable {C:bG}
structure dj (C:bG):Prop extends d6 C where
 pure5:∀f,f∈[200,201,196,263,264,197,129,72,74,262]→C.pure f=true
@[simp] theorem Nj (b g e i f:Nat):AV.denil (.ptr b g e i f)=.ptr b g e i f:=rfl
@[simp] theorem LV (c:List AV):AV.denil (.eptr c)=.eptr c:=rfl
@[simp] theorem N3 (f:FuncId) (c:List AV):AV.denil (.fn f c)=.fn f c:=rfl
@[simp] theorem LU (b:Bool):AV.denil (.bool b)=.bool b:=rfl
def bT (s:List UInt8):SX:=.mk false s [] .nil
def fp (l:List SX) (k:SK):SX:=.mk true [] l k
theorem rP (s:List UInt8):(bT s).cells=[.bool false,.str s,.nils]:=rfl
theorem cU (l:List SX) (k:SK):(fp l k).cells=[.bool true,.str [],aw k (l.map SX.cells)]:=by rw [fp,SX.cells,SX.rows_map]
def qU (d:List Nat):List UInt8:=d.map UInt8.ofNat
def jF (d:List Nat):SX:=if bC d then bT [] else bT (qU d)
def dN (x:aI):SX:=fp [jF x.d,fO x.n] .exact
def nX {α:Type} (l:List α):SK:=if l.isEmpty then .exact else .loose
def nA (l:List aI):SX:=fp (l.map dN) (nX l)
theorem uG (S:dj C) (s:List UInt8):cE Tryz.prog C 200 [] [.str s] (.agg (bT s).cells):=by
 refine aB (S.pure5 _ (by decide)) fun H=>am Tryz.func200 rfl (S.prim _ (by decide)) (by simp) (by kernel_rfl) ?_
 unfold Tryz.f200
 rw [rP]
 simp [aG,ao,aE]
 simp [aq,AV.closed,AV.closeds]
theorem py (S:dj C) (n:Int):cE Tryz.prog C 201 [] [.int .i64 n] (.agg (fO n).cells):=by
 refine aB (S.pure5 _ (by decide)) fun H=>am Tryz.func201 rfl (S.prim _ (by decide)) (by simp) (by kernel_rfl) ?_
 unfold Tryz.f201
 have e1:=(Kx S.tod6 n).eq
 simp [aG,ao,aE,e1,List.take_of_length_le]
 simp [aq,AV.closed,AV.closeds]
theorem qp (S:dj C) (v:AV) (hv:v.leaf=true) (hc:v.cells=[v]) {base:Nat} {H:ag} (hb:base≤H.length) (K:AV→ag→Prop) :
 aD Tryz.prog C base (.fn 199 []) [v] H K=K (.agg [.bool true,.str [],v]) (H++[.rows 3 0 [[.bool true,.str [],v]]]):=by
 refine aD.eq (bn (S.plain4 _ (by decide)).1 (S.plain4 _ (by decide)).2 (am Tryz.func199 rfl (S.prim _ (by decide)) (by simp) (by kernel_rfl) ?_)) K
 unfold Tryz.f199
 simp [aG,ao,aE,hv,hc,hb]
theorem Grow.leafv {n sz:Nat} {J:ag} {v:AV} {rows:List (List AV)} (hg:Grow n sz J v rows):v.leaf=true:=by
 rcases hg with ⟨_,rfl | rfl⟩ | ⟨b,g,rfl,_⟩<;>rfl
theorem Grow.cellv {n sz:Nat} {J:ag} {v:AV} {rows:List (List AV)} (hg:Grow n sz J v rows):v.cells=[v]:=by
 rcases hg with ⟨_,rfl | rfl⟩ | ⟨b,g,rfl,_⟩<;>rfl
theorem Grow.app {n sz:Nat} {J:ag} {v:AV} {rows:List (List AV)} (hg:Grow n sz J v rows) (L:ag):Grow n sz (J++L) v rows:=by
 rcases hg with ⟨h,hv⟩ | ⟨b,g,rfl,hb⟩
 ·exact .inl ⟨h,hv⟩
 ·exact .inr ⟨b,g,rfl,by rw [List.getElem?_append_left (List.getElem?_eq_some_iff.1 hb).1];exact hb⟩
theorem Grow.kind {n sz:Nat} {J:ag} {v:AV} {rows:List (List AV)} (hg:Grow n sz J v rows) (hv:rows=[]→v=.lst [] true):zs v=nX rows:=by
 rcases hg with ⟨h,_⟩ | ⟨b,g,rfl,hb⟩
 ·subst h;rw [hv rfl];rfl
 ·cases rows with
  | nil=>have:=hv rfl;cases this
  | cons a l=>rfl
theorem l7:∀d:List Nat,gi ((dig d).map fun c=>[c])=some (qU d)
 | []=>rfl
 | n::d=>by
  have:=l7 d
  simp only [dig,List.map_cons,gi,qU] at this ⊢
  rw [this];simp [qU]
theorem Fj (S:dj C) (d:List Nat) (hd:d.length=32):cE Tryz.prog C 262 [] [.agg (dig d)] (.str (qU d)):=by
 refine aB (S.pure5 _ (by decide)) fun H=>am Tryz.func262 rfl (S.prim _ (by decide)) (by simp) (by kernel_rfl) ?_
 unfold Tryz.f262
 have hb:=l7 d
 simp [aG,hd,cX,bJ,bi,cF,List.take_of_length_le,hb]
theorem uK (S:dj C) (d:List Nat) (hd:d.length=32):cE Tryz.prog C 196 [] [.agg (dig d)] (.agg (jF d).cells):=by
 refine aB (S.pure5 _ (by decide)) fun H=>am Tryz.func196 rfl (S.prim _ (by decide)) (by simp) (by kernel_rfl) ?_
 unfold Tryz.f196
 have e1:=(kD S.toaA d hd).eq
 have e2:=fun s=>(uG S s).eq
 have e3:=(Fj S d hd).eq
 cases hz:bC d with
 | true =>
  simp [aG,hd,e1,e2,e3,hz,jF,ao,List.take_of_length_le]
  simp [aq,AV.closed,AV.closeds]
 | false =>
  simp [aG,hd,e1,e2,e3,hz,jF,ao,List.take_of_length_le]
  simp [aq,AV.closed,AV.closeds]
theorem oK (S:dj C) (x:aI):cE Tryz.prog C 263 [] [.agg x.cells] (.agg (dN x).cells):=by
 refine aB (S.pure5 _ (by decide)) fun H=>am Tryz.func263 rfl (S.prim _ (by decide)) (by simp) (by kernel_rfl) ?_
 unfold Tryz.f263
 have e1:=(uK S x.d x.h).eq
 have e2:=(py S x.n).eq
 have e3:=fun v hv hc (H':ag) hb K=>qp (C:=C) S v hv hc (base:=H.length) (H:=H') hb K
 simp [aG,e1,e2,aj,au]
 rw [e3 _ (by simp) (by simp) _ (by simp),aN (h:=by kernel_rfl)]
 simp [ao,aE]
 rw [aN (h:=by kernel_rfl)]
 rw [dN,cU]
 simp [ao,aE]
 simp [aq,AV.closed,AV.closeds,AV.closedss,aw]
set_option maxHeartbeats 1000000 in
theorem HY (S:dj C) (l:List aI) (K:SK) (hl:l.length≤2^30):cE Tryz.prog C 264 [] [aw K (l.map aI.cells)] (.agg (nA l).cells):=by
 refine aB (S.pure5 _ (by decide)) fun H=>am Tryz.func264 rfl (S.prim _ (by decide)) (by simp) (by kernel_rfl) ?_
 unfold Tryz.f264
 simp [aG,aj,au]
 refine az l.length (fun i s H'=>∃J,H'=H++.rows 3 0 [[.bool false,.str [],.nils]]::J∧s 0=aw K (l.map aI.cells)∧s 2=.ptr H.length 0 3 0 0∧s 4=.int .i64 i∧
  Grow (H.length+1) 3 J (s 3) ((l.take i).map fun x=>(dN x).cells)∧(i=0→s 3=.lst [] true)) ?_ ?_
 ·exact ⟨[],rfl,rfl,rfl,rfl,.lst,fun _=>rfl⟩
 rintro i s H' ⟨J,rfl,e0,e2,e4,hg,hz⟩ hi
 by_cases h:i<l.length
 ·have c1:=(oK S l[i]).eq
  obtain ⟨v',J',ha,hg',_⟩:=Grow.append (P:=Tryz.prog) (base:=H.length) (Z:=H++[.rows 3 0 [[.bool false,.str [],.nils]]]) (e:=282) (e':=282) (ts:=#[280,280]) (ys:=[(dN l[i]).cells]) (x:=.lst [(dN l[i]).cells] true) (by simp) (by simp) ss tn (by simp) (by decide) (by simp) (by simpa using hg) rfl (by simp) (by simp;omega)
  simp at ha hg'
  simp [e0,e2,e4,h,c1,aj,au,ha,ay h (by omega)]
  rw [List.take_add_one,List.getElem?_map,List.getElem?_eq_getElem h]
  simpa using hg'
 ·have h':i=l.length:=by omega
  subst h'
  rw [List.take_length] at hg
  have e3:=fun v hv hc (H':ag) hb K=>qp (C:=C) S v hv hc (base:=H.length) (H:=H') hb K
  simp [e0,e2,e4]
  rw [e3 _ hg.leafv hg.cellv _ (by simp)]
  simp [ao,aE,e2,hg.leafv,hg.cellv]
  rw [ig (ws:=(nA l).cells)]
  have hk:=hg.kind fun h=>hz (by simpa using h)
  have hf:=(hg.app [.rows 3 0 [[.bool true,.str [],s 3]]]).freeze (Z:=H++[.rows 3 0 [[.bool true,.str [],s 3]]]) (k:=H.length) (d:=1) (by simp) (by omega) (aM (fun x=>SX.closed (dN x)) _)
  rw [hk] at hf
  simp at hf
  rw [nA,cU]
  simp [hf,Function.comp_def,nX]
end Go.Proofs.Ev
namespace Go.Proofs.Ev
variable {P:Program} {base:Nat}
def aT (n sz:Nat) (J:ag) (v:AV) (rows:List (List AV)):Prop:=(rows=[]∧v=.nils)∨v=.lst rows true∨∃b g,v=.sl (n+b) g sz 0 rows.length∧J[b]?=some (.rows sz g rows)
theorem aT.nils {n sz:Nat} {J:ag}:aT n sz J .nils []:=.inl ⟨rfl,rfl⟩
theorem aT.lst {n sz:Nat} {J:ag} (rows:List (List AV)):aT n sz J (.lst rows true) rows:=.inr (.inl rfl)
theorem aT.leafv {n sz:Nat} {J:ag} {v:AV} {rows:List (List AV)} (hg:aT n sz J v rows):v.leaf=true:=by
 rcases hg with ⟨_,rfl⟩ | rfl | ⟨b,g,rfl,_⟩<;>rfl
theorem aT.cellv {n sz:Nat} {J:ag} {v:AV} {rows:List (List AV)} (hg:aT n sz J v rows):v.cells=[v]:=by
 rcases hg with ⟨_,rfl⟩ | rfl | ⟨b,g,rfl,_⟩<;>rfl
theorem aT.app {n sz:Nat} {J:ag} {v:AV} {rows:List (List AV)} (hg:aT n sz J v rows) (L:ag):aT n sz (J++L) v rows:=by
 rcases hg with h | h | ⟨b,g,rfl,hb⟩
 ·exact .inl h
 ·exact .inr (.inl h)
 ·exact .inr (.inr ⟨b,g,rfl,by rw [List.getElem?_append_left (List.getElem?_eq_some_iff.1 hb).1];exact hb⟩)
theorem aT.len {t e:TypeId} (h:P.underlying t=some (.slice e)) {n sz:Nat} {J H:ag} {v:AV} {rows:List (List AV)} (hg:aT n sz J v rows):fc P H t v.denil=some (.int .i64 rows.length):=by
 rcases hg with ⟨rfl,rfl⟩ | rfl | ⟨b,g,rfl,_⟩
 ·exact fQ h H [] true
 ·exact fQ h H _ true
 ·exact mq h H _ _ _ _ _
theorem aT.append {ts:Array TypeId} {e e' sz by_:Nat} (h0:(ts[0]?).bind P.underlying=some (.slice e)) (h1:(ts[1]?).bind P.underlying=some (.slice e')) (hs:bF P e=some sz) (hb:bytesOf P e=some by_)
 (hz:(aQ P e).map (fun z=>z.cells.length)=some sz) (hp:0<sz) {Z J:ag} (hY:base≤Z.length) {v x:AV} {rows ys:List (List AV)} (hg:aT Z.length sz J v rows) (hr:∀r∈rows,r.length=sz)
 (hx:cQ (Z++J) (.slice e') x=some ys) (hy:∀r∈ys,r.length=sz) (hne:ys≠[]) (hbound:(rows.length+ys.length)*(by_+1)≤2^45) :
 ∃b g J',bA P base (Z++J) ts v.denil x=some (.sl (Z.length+b) g sz 0 (rows.length+ys.length),Z++J')∧J'[b]?=some (.rows sz g (rows++ys))∧(∀k,k≠b→k<J.length→J'[k]?=J[k]?)∧((∃g' l,v=.sl (Z.length+b) g' sz 0 l)∨J.length≤b):=by
 have hc:(ys.all fun r=>decide (r.length=sz))=true:=by simpa using hy
 have hd:(rows.all fun r=>decide (r.length=sz))=true:=by simpa using hr
 unfold bA
 simp only [h0,h1,hs,hb,hx,hc,hp,hz,and_self,if_true]
 have hlst:∀rows:List (List AV),(rows.length+ys.length)*(by_+1)≤2^45→(rows.all fun r=>decide (r.length=sz))=true→
  ∃b g J',(match (AV.lst rows true) with
   | .lst rows ex=>if ys.isEmpty then some (AV.lst rows true,Z++J) else if ex=true∧(rows.length+ys.length)*(by_+1)≤2^45∧rows.all (fun r=>decide (r.length=sz)) then some (AV.sl (Z++J).length (c8 P e sz) sz 0 (rows.length+ys.length),(Z++J)++[.rows sz (c8 P e sz) (rows++ys)]) else none
   | _=>none)=some (.sl (Z.length+b) g sz 0 (rows.length+ys.length),Z++J')∧J'[b]?=some (.rows sz g (rows++ys))∧(∀k,k≠b→k<J.length→J'[k]?=J[k]?)∧J.length≤b:=by
  intro rows hb hr
  refine ⟨J.length,c8 P e sz,J++[.rows sz (c8 P e sz) (rows++ys)],?_,by simp,fun k _ hk=>by rw [List.getElem?_append_left hk],Nat.le_refl _⟩
  simp only
  rw [if_neg (by simpa using hne),if_pos ⟨trivial,hb,hr⟩]
  simp
 rcases hg with ⟨rfl,rfl⟩ | rfl | ⟨b,g,rfl,hb⟩
 ·obtain ⟨b,g,J',h1,h2,h3,h4⟩:=hlst [] (by simpa using hbound) rfl
  exact ⟨b,g,J',h1,h2,h3,.inr h4⟩
 ·obtain ⟨b,g,J',h1,h2,h3,h4⟩:=hlst rows hbound hd
  exact ⟨b,g,J',h1,h2,h3,.inr h4⟩
 ·have hlt:b<J.length:=(List.getElem?_eq_some_iff.1 hb).1
  have hg:(Z++J)[Z.length+b]?=some (.rows sz g rows):=by rw [bt];exact hb
  simp only [AV.denil,hg]
  rw [if_pos ⟨by omega,trivial,trivial,trivial,trivial,hbound⟩]
  exact ⟨b,fm P e sz g,J.set b (.rows sz (fm P e sz g) (rows++ys)),by rw [pR],by simp [hlt],fun k hk _=>by rw [List.getElem?_set_ne (Ne.symm hk)],.inl ⟨_,_,rfl⟩⟩
theorem aT.appendG {ts:Array TypeId} {e e' sz by_:Nat} (h0:(ts[0]?).bind P.underlying=some (.slice e)) (h1:(ts[1]?).bind P.underlying=some (.slice e')) (hs:bF P e=some sz) (hb:bytesOf P e=some by_)
 (hz:(aQ P e).map (fun z=>z.cells.length)=some sz) (hp:0<sz) {n:Nat} {Z J:ag} (hn:n=Z.length) (hY:base≤Z.length) {v x:AV} {rows ys:List (List AV)} (hg:aT n sz J v rows) (hr:∀r∈rows,r.length=sz)
 (hx:cQ (Z++J) (.slice e') x=some ys) (hy:∀r∈ys,r.length=sz) (hbound:(rows.length+ys.length)*(by_+1)≤2^45) :
 ∃v' J',bA P base (Z++J) ts v.denil x=some (v',Z++J')∧aT n sz J' v' (rows++ys)∧((ys≠[]∨∃b g l,v=.sl b g sz 0 l)→∃b g l,v'=.sl b g sz 0 l):=by
 subst hn
 by_cases hne:ys=[]
 ·subst hne
  have hc:([].all fun r:List AV=>decide (r.length=sz))=true:=rfl
  unfold bA
  simp only [h0,h1,hs,hb,hx,hc,hp,hz,and_self,if_true]
  rcases hg with ⟨rfl,rfl⟩ | rfl | ⟨b,g,rfl,hb⟩
  ·exact ⟨.lst [] true,J,by simp [AV.denil],.lst [],by rintro (h | ⟨_,_,_,h⟩);exact absurd rfl h;cases h⟩
  ·exact ⟨.lst rows true,J,by simp [AV.denil],by rw [List.append_nil];exact .lst rows,by rintro (h | ⟨_,_,_,h⟩);exact absurd rfl h;cases h⟩
  ·have hlt:b<J.length:=(List.getElem?_eq_some_iff.1 hb).1
   have hg:(Z++J)[Z.length+b]?=some (.rows sz g rows):=by rw [bt];exact hb
   simp only [AV.denil,hg]
   rw [if_pos ⟨by omega,trivial,trivial,trivial,trivial,hbound⟩]
   exact ⟨_,J.set b (.rows sz (fm P e sz g) (rows++[])),by rw [pR],.inr (.inr ⟨b,fm P e sz g,by simp,by simp [hlt]⟩),fun _=>⟨_,_,_,rfl⟩⟩
 ·obtain ⟨b,g,J',h2,h3,_⟩:=aT.append (base:=base) h0 h1 hs hb hz hp hY hg hr hx hy hne hbound
  exact ⟨_,J',h2,.inr (.inr ⟨b,g,by simp,h3⟩),fun _=>⟨_,_,_,rfl⟩⟩
theorem aT.freezeS {Z J L:ag} {n k d sz:Nat} {v:AV} {rows:List (List AV)} (hg:aT n sz J v rows) (hn:n=Z.length) (hk:k≤Z.length) (hc:AV.closedss rows=true) (hv:∃b g l,v=.sl b g sz 0 l) :
 aJ (Z++(J++L)) k (d+1) v=some (aw .loose rows):=by
 subst hn
 obtain ⟨b,g,l,rfl⟩:=hv
 rcases hg with ⟨_,h4⟩ | h4 | ⟨b4,g4,h4,hb4⟩
 ·cases h4
 ·cases h4
 ·have hget:(Z++(J++L))[Z.length+b4]?=some (.rows sz g4 rows):=by
   rw [bt,List.getElem?_append_left (List.getElem?_eq_some_iff.1 hb4).1];exact hb4
  rw [h4,fF hget (by omega) hc]
  cases rows<;>rfl
theorem dZ {H:ag} {k d:Nat}:∀{l:List (List AV)},AV.closedss l=true→l.mapM (fun r:List AV=>r.mapM (aJ H k d))=some l
 | [],_=>rfl
 | r::l,h=>by
  simp only [AV.closedss,Bool.and_eq_true] at h
  rw [List.mapM_cons,c9 h.1,dZ h.2];rfl
theorem pj {H:ag} {k d b g sz:Nat} {rs qs:List (List AV)} (hg:H[b]?=some (.rows sz g rs)) (hk:k≤b) (hc:rs.mapM (fun r:List AV=>r.mapM (aJ H k d))=some qs):aJ H k (d+1) (.sl b g sz 0 rs.length)=some (.lst qs false):=by
 simp only [aJ,AV.closed,Bool.false_eq_true,if_false,hk,if_true,cF,hg,and_self,Nat.zero_add,Nat.le_refl,List.drop_zero,List.take_length,Option.bind_some]
 by_cases h:AV.closedss rs=true
 ·rw [dZ h] at hc
  cases hc;simp [h]
 ·simp [h,hc]
end Go.Proofs.Ev
namespace Go.Proofs.Ev
open Go.Proofs
variable {C:bG}
def mM (c:aW):List SX:=if 2≤c.kind∧c.kind≤6 then [dN c.file] else []
def jM (c:aW):List SX:=if c.kind=1 then [fO c.type] else if c.kind=2 then [dN c.parent,bT c.name] else if c.kind=3 then [fO c.mode] else if c.kind=4 then [bT c.data] else if c.kind=5∨c.kind=6 then [dN c.after,dN c.before] else []
def nt (l:List (List UInt8)):SX:=fp (l.map bT) (nX l)
def yL (c:aW):List SX:=if c.kind=5 then [nt c.lines] else if c.kind≠1 then [nA c.over] else []
def kP (c:aW):List SX:=fO c.kind::(mM c++jM c++yL c)
def lx (c:aW):SX:=fp (kP c) .loose
def m3 (c:aW) (H:ag) (r:List SX) (s:Sl) (H':ag):Prop:=s 1=.ptr H.length 0 139 0 0∧s 2=.ptr (H.length+1) 0 3 0 0∧
 ∃J,H'=H++.rows 139 0 [c.cells]::.rows 3 0 [[.bool false,.str [],.nils]]::J∧aT (H.length+2) 3 J (s 3) (r.map SX.cells)∧(r.length=1∨∃b g l,s 3=.sl b g 3 0 l)
theorem mY {H J:ag} {X Y:bQ} {v x:AV} {r ys:List SX} {k:SK} (hg:aT (H.length+2) 3 J v (r.map SX.cells)) (hx:x=aw k (ys.map SX.cells)) (hne:ys≠[]) (hb:r.length+ys.length≤2^20) :
 ∃v' J',bA Tryz.prog H.length (H++X::Y::J) #[280,280] v.denil x.denil=some (v',H++X::Y::J')∧aT (H.length+2) 3 J' v' ((r++ys).map SX.cells)∧∃b g l,v'=.sl b g 3 0 l:=by
 subst hx
 obtain ⟨b,g,J',h1,h2,_⟩:=aT.append (P:=Tryz.prog) (base:=H.length) (Z:=H++[X,Y]) (J:=J) (e:=282) (e':=282) (ts:=#[280,280]) (ys:=ys.map SX.cells) (x:=(aw k (ys.map SX.cells)).denil) (v:=v) (rows:=r.map SX.cells) (by simp) (by simp) ss tn (by simp) (by decide) (by simp) (by simpa using hg) (by simp) (oc k _) (by simp) (by simpa using hne) (by simp;omega)
 simp at h1 h2
 refine ⟨_,J',h1,.inr (.inr ⟨b,g,by simp,by simpa using h2⟩),_,_,_,rfl⟩
structure aW.Ok2 (c:aW):Prop where
 lines:c.lines.length≤2000
 over:c.over.length≤400
theorem OZ (x:SX):AV.lst [x.cells] true=aw .exact ([x].map SX.cells):=rfl
theorem QW (x y:SX):AV.lst [x.cells,y.cells] true=aw .exact ([x,y].map SX.cells):=rfl
set_option maxRecDepth 100000 in
set_option maxHeartbeats 2000000 in
theorem Cp (S:dj C) (c:aW) (hc:c.Ok2):cE Tryz.prog C 197 [] [.agg c.cells] (.agg (lx c).cells):=by
 refine aB (S.pure5 _ (by decide)) fun H=>am Tryz.func197 rfl (S.prim _ (by decide)) (by simp) (by kernel_rfl) ?_
 unfold Tryz.f197
 have g1:=fun x=>(oK S x).eq
 have g2:=fun n=>(py S n).eq
 have g3:=fun s=>(uG S s).eq
 have g4:=(HY S c.over c.overK (by have:=hc.over;omega)).eq
 have g5:=fun v hv hc (H':ag) hb K=>qp (C:=C) S v hv hc (base:=H.length) (H:=H') hb K
 refine cut (fun s H'=>s 1=.ptr H.length 0 139 0 0∧s 2=.ptr (H.length+1) 0 3 0 0∧H'=H++.rows 139 0 [c.cells]::.rows 3 0 [[.bool false,.str [],.nils]]::[]) ?_ ?_
 ·simp [aG]
 rintro s H' ⟨e1,e2,rfl⟩
 refine cut (m3 c H [fO c.kind]) ?_ ?_
 ·simp [e1,e2,g2,aj,au,m3]
  exact .lst _
 rintro s H' ⟨e1,e2,J,rfl,hg,hl⟩
 refine cut (m3 c H ([fO c.kind]++mM c)) ?_ ?_
 ·by_cases hk:2≤c.kind
  ·by_cases hk2:c.kind≤6
   ·obtain ⟨v',J',ha,hg',hl'⟩:=mY (X:=.rows 139 0 [c.cells]) (Y:=.rows 3 0 [[.bool false,.str [],.nils]]) hg (OZ (dN c.file)) (by simp) (by simp)
    simp at ha
    simp [e1,e2,g1,an,hk,hk2,aj,au,ha,m3,mM]
    exact ⟨by simpa using hg',hl'⟩
   ·simp [e1,e2,an,hk,hk2,m3,mM]
    simpa using hg
  ·simp [e1,e2,an,hk,m3,mM]
   simpa using hg
 clear hg hl
 rintro s H' ⟨e1,e2,J,rfl,hg,hl⟩
 refine cut (m3 c H ([fO c.kind]++mM c++jM c)) ?_ ?_
 ·have hl1:(mM c).length≤1:=by unfold mM;split<;>simp
  by_cases k1:c.kind=1
  ·obtain ⟨v',J',ha,hg',hl'⟩:=mY (X:=.rows 139 0 [c.cells]) (Y:=.rows 3 0 [[.bool false,.str [],.nils]]) hg (OZ (fO c.type)) (by simp) (by simp;omega)
   simp at ha
   simp [e1,e2,g1,g2,g3,k1,aj,au,ha,m3,jM]
   exact ⟨by simpa [k1] using hg',hl'⟩
  by_cases k2:c.kind=2
  ·obtain ⟨v',J',ha,hg',hl'⟩:=mY (X:=.rows 139 0 [c.cells]) (Y:=.rows 3 0 [[.bool false,.str [],.nils]]) hg (QW (dN c.parent) (bT c.name)) (by simp) (by simp;omega)
   simp at ha
   simp [e1,e2,g1,g2,g3,k2,aj,au,ha,m3,jM]
   rw [aN (h:=by kernel_rfl)]
   simp [e1,e2,k2,m3,jM]
   exact ⟨by simpa [k2] using hg',hl'⟩
  by_cases k3:c.kind=3
  ·obtain ⟨v',J',ha,hg',hl'⟩:=mY (X:=.rows 139 0 [c.cells]) (Y:=.rows 3 0 [[.bool false,.str [],.nils]]) hg (OZ (fO c.mode)) (by simp) (by simp;omega)
   simp at ha
   simp [e1,e2,g1,g2,g3,k3,aj,au,ha,m3,jM]
   exact ⟨by simpa [k3] using hg',hl'⟩
  by_cases k4:c.kind=4
  ·obtain ⟨v',J',ha,hg',hl'⟩:=mY (X:=.rows 139 0 [c.cells]) (Y:=.rows 3 0 [[.bool false,.str [],.nils]]) hg (OZ (bT c.data)) (by simp) (by simp;omega)
   simp at ha
   simp [e1,e2,g1,g2,g3,k4,aj,au,ha,m3,jM]
   exact ⟨by simpa [k4] using hg',hl'⟩
  by_cases k5:c.kind=5
  ·obtain ⟨v',J',ha,hg',hl'⟩:=mY (X:=.rows 139 0 [c.cells]) (Y:=.rows 3 0 [[.bool false,.str [],.nils]]) hg (QW (dN c.after) (dN c.before)) (by simp) (by simp;omega)
   simp at ha
   simp [e1,e2,g1,g2,g3,k5,aj,au,ha,m3,jM]
   rw [aN (h:=by kernel_rfl)]
   simp [e1,e2,k5,m3,jM]
   exact ⟨by simpa [k5] using hg',hl'⟩
  by_cases k6:c.kind=6
  ·obtain ⟨v',J',ha,hg',hl'⟩:=mY (X:=.rows 139 0 [c.cells]) (Y:=.rows 3 0 [[.bool false,.str [],.nils]]) hg (QW (dN c.after) (dN c.before)) (by simp) (by simp;omega)
   simp at ha
   simp [e1,e2,g1,g2,g3,k6,aj,au,ha,m3,jM]
   rw [aN (h:=by kernel_rfl)]
   simp [e1,e2,k6,m3,jM]
   exact ⟨by simpa [k6] using hg',hl'⟩
  simp [e1,e2,k1,k2,k3,k4,k5,k6,m3,jM]
  exact ⟨by simpa using hg,by simpa using hl⟩
 clear hg hl
 rintro s H' ⟨e1,e2,J,rfl,hg,hl⟩
 have hl1:(mM c).length≤1:=by unfold mM;split<;>simp
 have hl2:(jM c).length≤2:=by unfold jM;repeat' split
                              all_goals simp
 refine cut (fun s H'=>s 1=.ptr H.length 0 139 0 0∧s 2=.ptr (H.length+1) 0 3 0 0∧∃b g J',H'=H++.rows 139 0 [c.cells]::.rows 3 0 [[.bool false,.str [],.nils]]::J'∧s 3=.sl (H.length+2+b) g 3 0 (kP c).length∧
  ∃rs,J'[b]?=some (.rows 3 g rs)∧rs.length=(kP c).length∧∀X Y L k,k≤H.length→rs.mapM (fun r:List AV=>r.mapM (aJ (H++X::Y::(J'++L)) k 1))=some ((kP c).map SX.cells)) ?_ ?_
 ·by_cases k5:c.kind=5
  ·simp [e1,e2,k5,aj,au]
   refine az c.lines.length (fun i s' H'=>s' 1=.ptr H.length 0 139 0 0∧s' 2=.ptr (H.length+1) 0 3 0 0∧s' 3=s 3∧s' 5=.int .i64 i∧
    ∃J1,H'=H++.rows 139 0 [c.cells]::.rows 3 0 [[.bool false,.str [],.nils]]::(J++J1)∧aT (H.length+2+J.length) 3 J1 (s' 4) ((c.lines.take i).map fun x=>(bT x).cells)∧(s' 4=.lst [] true∨∃b g l,s' 4=.sl b g 3 0 l) ∧(i=0→s' 4=.lst [] true)) ?_ ?_
   ·exact ⟨e1,e2,rfl,rfl,[],by simp,.lst _,.inl rfl,fun _=>rfl⟩
   rintro i s' H' ⟨e1',e2',e3',e5',J1,rfl,hg1,hk1,hz⟩ hi
   by_cases h:i<c.lines.length
   ·have hln:=hc.lines
    obtain ⟨b,g,J',ha,hJ',_⟩:=aT.append (P:=Tryz.prog) (base:=H.length) (Z:=H++.rows 139 0 [c.cells]::.rows 3 0 [[.bool false,.str [],.nils]]::J) (J:=J1) (e:=282) (e':=282) (ts:=#[280,280]) (ys:=[(bT c.lines[i]).cells]) (x:=.lst [(bT c.lines[i]).cells] true) (v:=s' 4) (rows:=(c.lines.take i).map fun x=>(bT x).cells) (by simp) (by simp) ss tn (by simp) (by decide) (by simp) (by simpa [Nat.add_assoc,Nat.add_comm,Nat.add_left_comm] using hg1) (by intro r hr;obtain ⟨x,_,rfl⟩:=List.mem_map.1 hr;simp) rfl (by simp) (by simp) (by simp;omega)
    have et:(c.lines.take (i+1)).map (fun x=>(bT x).cells)=(c.lines.take i).map (fun x=>(bT x).cells)++[(bT c.lines[i]).cells]:=by
     rw [List.take_add_one,List.getElem?_eq_getElem h,List.map_append];rfl
    have hlr:((c.lines.take i).map fun x=>(bT x).cells).length=i:=by simp;omega
    rw [hlr] at ha
    simp at ha
    simp [e1',e2',e3',e5',h,g3,fU,aj,au,ha,ay h (by omega)]
    refine .inr (.inr ⟨b,g,?_,?_⟩)
    ·rw [←List.map_take,et,List.length_append,hlr];simp;omega
    ·rw [←List.map_take,et];exact hJ'
   ·have h':i=c.lines.length:=by omega
    subst h'
    rw [List.take_length] at hg1
    have g5':=fun K=>g5 (s' 4) hg1.leafv hg1.cellv (H++.rows 139 0 [c.cells]::.rows 3 0 [[.bool false,.str [],.nils]]::(J++J1)) (by simp) K
    obtain ⟨b,g,J',ha,hJ',hold,hdis⟩:=aT.append (P:=Tryz.prog) (base:=H.length) (Z:=H++[.rows 139 0 [c.cells],.rows 3 0 [[.bool false,.str [],.nils]]]) (J:=J++J1++[.rows 3 0 [[.bool true,.str [],s' 4]]]) (e:=282) (e':=282) (ts:=#[280,280]) (ys:=[[.bool true,.str [],s' 4]]) (x:=.lst [[.bool true,.str [],s' 4]] true) (v:=s 3) (rows:=([fO c.kind]++mM c++jM c).map SX.cells) (by simp) (by simp) ss tn (by simp) (by decide) (by simp) (by simpa using (hg.app (J1++[.rows 3 0 [[.bool true,.str [],s' 4]]]))) (by intro r hr;obtain ⟨x,_,rfl⟩:=List.mem_map.1 hr;simp) rfl (by simp) (by simp) (by simp;omega)
    simp at ha
    simp [e1',e2',e3',e5',g5',hg1.leafv,hg1.cellv,aj,au,ha]
    have hx:kP c=[fO c.kind]++mM c++jM c++[nt c.lines]:=by simp [kP,yL,k5]
    refine ⟨b,g,⟨rfl,rfl,by simp [hx];omega⟩,_,hJ',by simp [hx],fun X Y L k hk=>?_⟩
    have hv:aJ (H++X::Y::(J'++L)) k 1 (s' 4)=some (aw (nX c.lines) (c.lines.map fun x=>(bT x).cells)):=by
     rcases hg1 with ⟨_,h4⟩ | h4 | ⟨b4,g4,h4,hb4⟩
     ·rcases hk1 with h5 | ⟨_,_,_,h5⟩<;>rw [h4] at h5<;>cases h5
     ·rcases hk1 with h5 | ⟨_,_,_,h5⟩
      ·rw [h5]
       rw [h4] at h5
       have hl0:c.lines=[]:=by simpa using h5
       rw [hl0];rfl
      ·rw [h4] at h5;cases h5
     ·have hne:c.lines≠[]:=by
       intro h0
       have:=hz (by simp [h0])
       rw [h4] at this;cases this
      have hb4':b4<J1.length:=(List.getElem?_eq_some_iff.1 hb4).1
      have hbne:J.length+b4≠b:=by
       rcases hdis with ⟨g',l',hd⟩ | hd
       ·rcases hg with ⟨_,h6⟩ | h6 | ⟨b6,g6,h6,hb6⟩
        ·rw [hd] at h6;cases h6
        ·rw [hd] at h6;cases h6
        ·rw [hd] at h6
         simp at h6
         have:=(List.getElem?_eq_some_iff.1 hb6).1
         omega
       ·simp at hd;omega
      have hget:=hold (J.length+b4) hbne (by simp;omega)
      rw [List.append_assoc,List.getElem?_append_right (by omega),Nat.add_sub_cancel_left,List.getElem?_append_left hb4',hb4] at hget
      have hget2:(H++X::Y::(J'++L))[H.length+2+J.length+b4]?=some (.rows 3 g4 (c.lines.map fun x=>(bT x).cells)):=by
       rw [show H.length+2+J.length+b4=H.length+(J.length+b4+1+1) by omega,bt]
       simp only [List.getElem?_cons_succ]
       rw [List.getElem?_append_left (List.getElem?_eq_some_iff.1 hget).1];exact hget
      rw [h4,fF hget2 (by omega) (aM (fun x=>SX.closed (bT x)) _)]
      cases hq:c.lines with
      | nil=>exact absurd hq hne
      | cons a l=>rfl
    rw [hx,List.mapM_append,dZ (aM SX.closed _)]
    simp [hv,nt,cU,Function.comp_def]
  ·by_cases k1:c.kind=1
   ·have hx:kP c=[fO c.kind]++mM c++jM c:=by simp [kP,yL,k1]
    have hne:jM c≠[]:=by simp [jM,k1]
    obtain ⟨b,g,hs3,hJ⟩:∃b g,s 3=.sl (H.length+2+b) g 3 0 ((kP c).map SX.cells).length∧J[b]?=some (.rows 3 g ((kP c).map SX.cells)):=by
     rw [hx]
     rcases hl with hl | ⟨b,g,l,hl⟩
     ·rw [List.length_append,List.length_append] at hl
      exact absurd (List.length_eq_zero_iff.1 (by simp at hl;omega)) hne
     ·rcases hg with ⟨_,h⟩ | h | h
      ·rw [hl] at h;cases h
      ·rw [hl] at h;cases h
      ·exact h
    simp [e1,e2,k1]
    exact ⟨b,g,by simpa using hs3,_,hJ,by simp,fun _ _ _ _ _=>dZ (aM SX.closed _)⟩
   ·have hx:kP c=[fO c.kind]++mM c++jM c++[nA c.over]:=by simp [kP,yL,k1,k5]
    obtain ⟨v',J',ha,hg',hl'⟩:=mY (X:=.rows 139 0 [c.cells]) (Y:=.rows 3 0 [[.bool false,.str [],.nils]]) hg (OZ (nA c.over)) (by simp) (by simp;omega)
    simp at ha
    simp [e1,e2,g4,k1,k5,aj,au,ha]
    rw [←hx] at hg'
    rcases hl' with ⟨b,g,l,rfl⟩
    rcases hg' with ⟨_,h⟩ | h | ⟨b,g,h,hJ⟩
    ·cases h
    ·cases h
    ·exact ⟨b,g,by simpa using h,_,hJ,by simp,fun _ _ _ _ _=>dZ (aM SX.closed _)⟩
 rintro s H' ⟨e1,e2,b,g,J',rfl,e3,rs,hJ,hrl,hfz⟩
 have g5':=fun K=>g5 (.sl (H.length+2+b) g 3 0 (kP c).length) rfl rfl (H++.rows 139 0 [c.cells]::.rows 3 0 [[.bool false,.str [],.nils]]::J') (by simp) K
 simp [e1,e2,e3,g5',ao,aE]
 have hf:=hfz (.rows 139 0 [c.cells]) (.rows 3 0 [[.bool true,.str [],.sl (H.length+2+b) g 3 0 (kP c).length]]) [.rows 3 0 [[.bool true,.str [],.sl (H.length+2+b) g 3 0 (kP c).length]]] H.length (Nat.le_refl _)
 have hb:(H++.rows 139 0 [c.cells]::.rows 3 0 [[.bool true,.str [],.sl (H.length+2+b) g 3 0 (kP c).length]]::(J'++[.rows 3 0 [[.bool true,.str [],.sl (H.length+2+b) g 3 0 (kP c).length]]]))[H.length+2+b]?=some (.rows 3 g rs):=by
  rw [show H.length+2+b=H.length+(b+1+1) by omega,bt]
  simp only [List.getElem?_cons_succ]
  rw [List.getElem?_append_left (List.getElem?_eq_some_iff.1 hJ).1];exact hJ
 have hs:=pj hb (k:=H.length) (d:=1) (by omega) hf
 rw [hrl] at hs
 rw [lx,cU]
 exact ig (by simp [hs,aw])
end Go.Proofs.Ev
namespace Go.Proofs.Ev
open Go.Proofs
variable {C:bG}
theorem pS {Z J:ag} {H0:ag} {n:Nat} (hn:n=Z.length) (hZ:H0.length≤Z.length) {v:AV} {r:List SX} {y:SX} (hg:aT n 3 J v (r.map SX.cells)) (hb:r.length≤2^20) :
 ∃v' J',bA Tryz.prog H0.length (Z++J) #[280,280] v.denil (.lst [y.cells] true)=some (v',Z++J')∧aT n 3 J' v' ((r++[y]).map SX.cells)∧∃b g l,v'=.sl b g 3 0 l:=by
 subst hn
 obtain ⟨b,g,J',h1,h2,_⟩:=aT.append (P:=Tryz.prog) (base:=H0.length) (Z:=Z) (J:=J) (e:=282) (e':=282) (ts:=#[280,280]) (ys:=[y.cells]) (x:=.lst [y.cells] true) (v:=v) (rows:=r.map SX.cells) (by simp) (by simp) ss tn (by simp) (by decide) hZ hg (by simp) rfl (by simp) (by simp) (by simp;omega)
 exact ⟨_,J',h1,.inr (.inr ⟨b,g,by simp,by simpa using h2⟩),_,_,_,rfl⟩
theorem aT.freezeX {Z J L:ag} {n k d:Nat} {v:AV} {r:List SX} (hg:aT n 3 J v (r.map SX.cells)) (hn:n=Z.length) (hk:k≤Z.length) (hz:r=[]→v=.lst [] true) (hz2:v=.lst [] true∨∃b g l,v=.sl b g 3 0 l) :
 aJ (Z++(J++L)) k (d+1) v=some (aw (nX r) (r.map SX.cells)):=by
 subst hn
 rcases hg with ⟨_,h4⟩ | h4 | ⟨b4,g4,h4,hb4⟩
 ·rcases hz2 with h5 | ⟨_,_,_,h5⟩<;>rw [h4] at h5<;>cases h5
 ·rcases hz2 with h5 | ⟨_,_,_,h5⟩
  ·rw [h5]
   rw [h4] at h5
   have hl0:r=[]:=by simpa using h5
   rw [hl0];rfl
  ·rw [h4] at h5;cases h5
 ·have hne:r≠[]:=by
   intro h0
   have:=hz h0
   rw [h4] at this;cases this
  have hget:(Z++(J++L))[Z.length+b4]?=some (.rows 3 g4 (r.map SX.cells)):=by
   rw [bt,List.getElem?_append_left (List.getElem?_eq_some_iff.1 hb4).1];exact hb4
  rw [h4,fF hget (by omega) (aM SX.closed _)]
  cases r with
  | nil=>exact absurd rfl hne
  | cons a l=>rfl
theorem ue {H:ag} {k d:Nat} {rs qs:List (List AV)} {e:Bool} (hc:rs.mapM (fun r:List AV=>r.mapM (aJ H k d))=some qs):aJ H k (d+1) (.lst rs e)=some (.lst qs e):=by
 simp only [aJ,AV.closed]
 by_cases h:AV.closedss rs=true
 ·rw [dZ h] at hc
  cases hc;simp [h]
 ·simp [h,hc]
def dK (p:aC):SX:=fp [bT [113,117,105,108,116,49],bT p.author,bT p.message,fO p.time,fp (p.deps.map fun d=>jF d.d) (nX p.deps),fp (p.changes.map lx) (nX p.changes)] .exact
structure aC.Ok2 (p:aC):Prop where
 deps:p.deps.length≤2^20
 changesN:p.changes.length≤2^20
 changes:∀c∈p.changes,c.Ok2
 nodes:(dK p).nodes≤2^40
def gV (p:aC):Int:=if vg (dK p)≠0∨65536<(dK p).enc.length then 4 else 0
def jP (p:aC):List UInt8:=if gV p=0 then (dK p).enc else []
set_option maxRecDepth 100000 in
set_option maxHeartbeats 2000000 in
theorem Cq (S:dj C) (p:aC) (hp:p.Ok2):cE Tryz.prog C 129 [] [.agg p.cells] (.tup [.str (jP p),.int .i64 (gV p)]):=by
 refine aB (S.pure5 _ (by decide)) fun H=>am Tryz.func129 rfl (S.prim _ (by decide)) (by simp) (by kernel_rfl) ?_
 unfold Tryz.f129
 have g2:=fun n=>(py S n).eq
 have g3:=fun s=>(uG S s).eq
 have g5:=fun v hv hc (H':ag) hb K=>qp (C:=C) S v hv hc (base:=H.length) (H:=H') hb K
 refine cut (fun s H'=>s 1=.ptr H.length 0 5 0 0∧H'=H++.rows 5 0 [p.cells]::[]) ?_ ?_
 ·simp [aG]
 rintro s H' ⟨e1,rfl⟩
 refine cut (fun s H'=>s 1=.ptr H.length 0 5 0 0∧s 4=.lst [] true∧s 5=.lst [] true∧H'=H++.rows 5 0 [p.cells]::[]) ?_ ?_
 ·simp [e1,aj,au]
 rintro s H' ⟨e1,e4,e5,rfl⟩
 refine cut (fun s H'=>s 1=.ptr H.length 0 5 0 0∧s 5=.lst [] true∧∃J,H'=H++.rows 5 0 [p.cells]::J∧aT (H.length+1) 3 J (s 4) ((p.deps.map fun d=>jF d.d).map SX.cells)∧(p.deps=[]→s 4=.lst [] true)∧(s 4=.lst [] true∨∃b g l,s 4=.sl b g 3 0 l)) ?_ ?_
 ·simp [e1,e4,e5]
  refine az p.deps.length (fun i s H'=>s 1=.ptr H.length 0 5 0 0∧s 5=.lst [] true∧s 6=.int .i64 i∧∃J,H'=H++.rows 5 0 [p.cells]::J∧aT (H.length+1) 3 J (s 4) (((p.deps.take i).map fun d=>jF d.d).map SX.cells)∧(i=0→s 4=.lst [] true)∧(s 4=.lst [] true∨∃b g l,s 4=.sl b g 3 0 l)) ?_ ?_
  ·exact ⟨e1,e5,rfl,[],rfl,by simp [e4];exact .lst [],fun _=>e4,.inl e4⟩
  rintro i s H' ⟨e1,e5,e6,J,rfl,hg,hz,hz2⟩ hi
  by_cases h:i<p.deps.length
  ·have hd:=hp.deps
   have c1:∀base H K,aD Tryz.prog C base (.fn 196 []) [.agg p.deps[i].cells] H K=K (.agg (jF p.deps[i].d).cells) H:=(uK S p.deps[i].d p.deps[i].h).eq
   obtain ⟨v',J',ha,hg',hl'⟩:=pS (H0:=H) (Z:=H++[.rows 5 0 [p.cells]]) (by simp) (by simp) (y:=jF p.deps[i].d) hg (by simp;omega)
   simp at ha
   have et:(p.deps.take (i+1)).map (fun d=>jF d.d)=(p.deps.take i).map (fun d=>jF d.d)++[jF p.deps[i].d]:=by
    rw [List.take_add_one,List.getElem?_eq_getElem h,List.map_append];rfl
   simp [e1,e5,e6,h,c1,aj,au,ha,ay h (by omega)]
   refine ⟨?_,.inr hl'⟩
   rw [←et] at hg'
   simpa using hg'
  ·have h':i=p.deps.length:=by omega
   subst h'
   rw [List.take_length] at hg
   simp [e1,e5,e6]
   exact ⟨by simpa using hg,fun h0=>hz (by simp [h0]),hz2⟩
 rintro s H' ⟨e1,e5,J0,rfl,hg0,hz0,hk0⟩
 refine cut (fun s' H'=>s' 1=.ptr H.length 0 5 0 0∧s' 4=s 4∧∃J,H'=H++.rows 5 0 [p.cells]::(J0++J)∧aT (H.length+1+J0.length) 3 J (s' 5) ((p.changes.map lx).map SX.cells)∧(p.changes=[]→s' 5=.lst [] true)∧(s' 5=.lst [] true∨∃b g l,s' 5=.sl b g 3 0 l)) ?_ ?_
 ·simp [e1,e5]
  refine az p.changes.length (fun i s' H'=>s' 1=.ptr H.length 0 5 0 0∧s' 4=s 4∧s' 7=.int .i64 i∧∃J,H'=H++.rows 5 0 [p.cells]::(J0++J)∧aT (H.length+1+J0.length) 3 J (s' 5) (((p.changes.take i).map lx).map SX.cells)∧(i=0→s' 5=.lst [] true)∧(s' 5=.lst [] true∨∃b g l,s' 5=.sl b g 3 0 l)) ?_ ?_
  ·exact ⟨e1,rfl,rfl,[],by simp,by simp [e5];exact .lst [],fun _=>e5,.inl e5⟩
  rintro i s' H' ⟨e1,e4',e6,J,rfl,hg,hz,hz2⟩ hi
  by_cases h:i<p.changes.length
  ·have hd:=hp.changesN
   have c1:=(Cp S p.changes[i] (hp.changes _ (List.getElem_mem h))).eq
   obtain ⟨v',J',ha,hg',hl'⟩:=pS (H0:=H) (Z:=H++.rows 5 0 [p.cells]::J0) (by simp;omega) (by simp) (y:=lx p.changes[i]) hg (by simp;omega)
   simp at ha
   have et:(p.changes.take (i+1)).map lx=(p.changes.take i).map lx++[lx p.changes[i]]:=by
    rw [List.take_add_one,List.getElem?_eq_getElem h,List.map_append];rfl
   simp [e1,e4',e6,h,c1,aj,au,ha,ay h (by omega)]
   refine ⟨?_,.inr hl'⟩
   rw [←et] at hg'
   simpa using hg'
  ·have h':i=p.changes.length:=by omega
   subst h'
   rw [List.take_length] at hg
   simp [e1,e4',e6]
   exact ⟨by simpa using hg,fun h0=>hz (by simp [h0]),hz2⟩
 rintro s' H' ⟨e1,e4,J,rfl,hg,hz,hk⟩
 have l1:=fun K=>g5 (s 4) hg0.leafv hg0.cellv (H++.rows 5 0 [p.cells]::(J0++J)) (by simp) K
 have l2:=fun K=>g5 (s' 5) hg.leafv hg.cellv (H++.rows 5 0 [p.cells]::(J0++(J++[.rows 3 0 [[.bool true,.str [],s 4]]]))) (by simp) K
 simp [e1,e4,g2,g3,l1,hg0.leafv,hg0.cellv,aj,au]
 rw [aN (h:=by kernel_rfl)]
 simp [e1,e4,l2]
 rw [aN (h:=by kernel_rfl)]
 have l3:=fun v hv hc (H':ag) hb K=>qp (C:=C) S v hv hc (base:=H.length) (H:=H') hb K
 simp [hg.leafv,hg.cellv,hg0.leafv,hg0.cellv,aj,au]
 rw [l3 _ (by simp) (by simp) _ (by simp),aN (h:=by kernel_rfl)]
 simp
 have f0:=fun L=>hg0.freezeX (L:=L) (Z:=H++[.rows 5 0 [p.cells]]) (k:=0) (d:=3) (by simp) (by simp) (by simpa using hz0) hk0
 have f1:=fun L=>hg.freezeX (L:=L) (Z:=H++.rows 5 0 [p.cells]::J0) (k:=0) (d:=3) (by simp;omega) (by simp) (by simpa using hz) hk
 rw [(Ag S.tod6 (dK p) hp.nodes).eq]
 ·by_cases h1:vg (dK p)=0
  ·by_cases h2:65536<(dK p).enc.length
   ·have hE:gV p=4:=by unfold gV;rw [if_pos (.inr h2)]
    have hS:jP p=[]:=by unfold jP;rw [if_neg (by rw [hE];decide)]
    rw [hE,hS]
    simp [an,h1,show (65536:Int)<(dK p).enc.length by omega]
    simp [aq,AV.closed,AV.closeds]
   ·have hE:gV p=0:=by unfold gV;rw [if_neg (by simp [h1];omega)]
    have hS:jP p=(dK p).enc:=by unfold jP;rw [if_pos hE]
    rw [hE,hS]
    simp [an,h1,show ¬(65536:Int)<(dK p).enc.length by omega]
    simp [aq,AV.closed,AV.closeds]
  ·have hE:gV p=4:=by unfold gV;rw [if_pos (.inl h1)]
   have hS:jP p=[]:=by unfold jP;rw [if_neg (by rw [hE];decide)]
   rw [hE,hS]
   have hb:(vg (dK p) != 0)=true:=by simpa using h1
   simp [an,h1,hb]
   simp [aq,AV.closed,AV.closeds]
 ·have f0':=f0 (J++[.rows 3 0 [[.bool true,.str [],s 4]],.rows 3 0 [[.bool true,.str [],s' 5]],.rows 3 0 [[.bool true,.str [],.lst [(bT [113,117,105,108,116,49]).cells,(bT p.author).cells,(bT p.message).cells,(fO p.time).cells,[.bool true,.str [],s 4],[.bool true,.str [],s' 5]] true]]])
  have f1':=f1 [.rows 3 0 [[.bool true,.str [],s 4]],.rows 3 0 [[.bool true,.str [],s' 5]],.rows 3 0 [[.bool true,.str [],.lst [(bT [113,117,105,108,116,49]).cells,(bT p.author).cells,(bT p.message).cells,(fO p.time).cells,[.bool true,.str [],s 4],[.bool true,.str [],s' 5]] true]]]
  simp only [List.append_assoc,List.cons_append,List.nil_append,List.singleton_append] at f0' f1' ⊢
  rw [List.mapM_cons,List.mapM_nil,ig (ws:=(dK p).cells)]
  ·rfl
  rw [dK,cU]
  simp only [List.mapM_cons,List.mapM_nil,jz,kl]
  rw [ue (qs:=[bT [113,117,105,108,116,49],bT p.author,bT p.message,fO p.time,fp (p.deps.map fun d=>jF d.d) (nX p.deps),fp (p.changes.map lx) (nX p.changes)].map SX.cells)]
  ·rfl
  have k1:nX (p.deps.map fun d=>jF d.d)=nX p.deps:=by unfold nX;simp
  have k2:nX (p.changes.map lx)=nX p.changes:=by unfold nX;simp
  rw [k1] at f0'
  rw [k2] at f1'
  simp only [List.mapM_cons,List.mapM_nil,List.map_cons,List.map_nil,c9 (SX.closed _),cU,jz,kl,f0',f1']
  rfl
def bz (p:aC):Int:=if kf p≠0 then kf p else gV p
def gz (p:aC):List UInt8:=if bz p=0 then (dK p).enc else []
theorem qx (S:dj C) (p:aC) (hp:p.Ok) (hp2:p.Ok2):cE Tryz.prog C 72 [] [.agg p.cells] (.tup [.str (gz p),.int .i64 (bz p)]):=by
 refine aB (S.pure5 _ (by decide)) fun H=>am Tryz.func72 rfl (S.prim _ (by decide)) (by simp) (by kernel_rfl) ?_
 unfold Tryz.f72
 have e1:=(wy S.toga p hp).eq
 have e2:=(Cq S p hp2).eq
 by_cases h:kf p=0
 ·have hE:bz p=gV p:=by unfold bz;rw [if_neg (by simpa using h)]
  have hS:gz p=jP p:=by unfold gz jP;rw [hE]
  rw [hE,hS]
  simp [aG,e1,e2,m0,h]
  simp [aq,AV.closed,AV.closeds]
 ·have hE:bz p=kf p:=by unfold bz;rw [if_pos h]
  have hS:gz p=[]:=by unfold gz;rw [hE,if_neg h]
  rw [hE,hS]
  simp [aG,e1,m0,h]
  simp [aq,AV.closed,AV.closeds]
theorem Ae (S:dj C) (p:aC) (hp:p.Ok) (hp2:p.Ok2):cE Tryz.prog C 74 [] [.agg p.cells] (.int .i64 (bz p)):=by
 refine aB (S.pure5 _ (by decide)) fun H=>am Tryz.func74 rfl (S.prim _ (by decide)) (by simp) (by kernel_rfl) ?_
 unfold Tryz.f74
 have e1:=(qx S p hp hp2).eq
 simp [aG,e1]
end Go.Proofs.Ev
namespace Go.Proofs.Ev
open Go.Proofs
variable {C:bG}
structure d7 (C:bG):Prop extends dj C where
 pure6:∀f,f∈[205,204,202,130,203,131,73,33,75,37]→C.pure f=true
@[simp] theorem NO (x:oo):(bW x).cells=[bW x]:=rfl
@[simp] theorem O9 (x:oo):(bW x).leaf=true:=rfl
@[simp] theorem MS (x:oo):(bW x).closed=true:=rfl
@[simp] theorem NP (x:oo):(bW x).denil=bW x:=rfl
@[simp] theorem N6 (H:ag) (k d:Nat) (x:oo):aJ H k d (bW x)=some (bW x):=aq rfl
theorem fg (S:d7 C) (x:oo) (n:Nat) (h:n≤32):cE Tryz.prog C 205 [] [bW x,.int .u64 (n:Int)] (bW (fa x n)):=by
 refine aB (S.pure6 _ (by decide)) fun H=>am Tryz.func205 rfl (S.prim _ (by decide)) (by simp) (by kernel_rfl) ?_
 unfold Tryz.f205
 have w1:IntKind.u64.wrap (32-(n:Int))=((32-n:Nat):Int):=by rw [IntWalk.u64_in _ (by omega)];omega
 have e1:=fun t=>sw (P:=Tryz.prog) (C:=C) t x .u64 n h
 have e2:=fun t=>wN (P:=Tryz.prog) (C:=C) t x .u64 (32-n) (by omega)
 simp [aG,w1,e1,e2,KM,fa]
theorem vq (S:d7 C):cE Tryz.prog C 204 [] [] (.agg (pB.map bW)):=by
 refine aB (S.pure6 _ (by decide)) fun H=>am Tryz.func204 rfl (S.prim _ (by decide)) (by simp) (by kernel_rfl) ?_
 unfold Tryz.f204
 simp [aG,ao,aE]
 rw [aq (by simp [AV.closed,AV.closeds])]
 rfl
theorem Fz (S:d7 C) (n:Nat) (h:n≤2^20):cE Tryz.prog C 202 [] [.int .i64 (n:Int)] (.str (List.replicate n 0)):=by
 refine aB (S.pure6 _ (by decide)) fun H=>am Tryz.func202 rfl (S.prim _ (by decide)) (by simp) (by kernel_rfl) ?_
 unfold Tryz.f202
 simp [aG]
 refine az n (fun i s H'=>H'=H∧s 0=.int .i64 n∧s 4=.int .i64 i∧s 3=.str (List.replicate i 0)) ?_ ?_
 ·exact ⟨rfl,rfl,rfl,rfl⟩
 rintro i s H' ⟨rfl,e0,e4,e3⟩ hi
 by_cases h':i<n
 ·have a1:=gS (P:=Tryz.prog) (C:=C) (t:=9) (x:=List.replicate i 0) (y:=[0]) (by simp;omega)
  simp [e0,e4,e3,h',a1,ay h' (by omega)]
  rw [List.replicate_succ',List.append_cancel_left_eq]
 ·have h':i=n:=by omega
  subst h'
  simp [e0,e4,e3]
theorem Gq (n:Nat):UInt8.ofNat (n % 256)=UInt8.ofNat n:=by
 apply UInt8.toNat_inj.1;simp
theorem CD (S:d7 C) (x:List UInt8) (h:x.length≤2^40):cE Tryz.prog C 130 [] [.str x] (.str (de x)):=by
 refine aB (S.pure6 _ (by decide)) fun H=>am Tryz.func130 rfl (S.prim _ (by decide)) (by simp) (by kernel_rfl) ?_
 unfold Tryz.f130
 obtain ⟨r,hr⟩:∃r:Nat,r=(x.length+1) % 64:=⟨_,rfl⟩
 obtain ⟨z,hz⟩:∃z:Nat,z=(120-r) % 64:=⟨_,rfl⟩
 have hpad:de x=x++[128]++List.replicate z 0++cx x.length:=by rw [de,hz,hr];simp
 have cz:=(Fz S z (by omega)).eq
 have r1:∀t,bU Tryz.prog C .rem t (.int .i64 ((x.length:Int)+1)) (.int .i64 64)=some (.int .i64 (r:Int)):=fun t=>by
  rw [pX (h:=by decide),Int.tmod_eq_emod_of_nonneg (by omega),hr];rfl
 have r2:∀t,bU Tryz.prog C .rem t (.int .i64 (IntKind.i64.wrap (120-(r:Int)))) (.int .i64 64)=some (.int .i64 (z:Int)):=fun t=>by
  rw [pX (h:=by decide),aK (by omega) (by omega),Int.tmod_eq_emod_of_nonneg (by omega),hz];congr 2;omega
 have q3:IntKind.u64.wrap ((x.length:Int))=x.length:=IntWalk.u64_in _ (by omega)
 have q4:IntKind.u64.wrap ((x.length:Int)*8)=(x.length:Int)*8:=IntWalk.u64_in _ (by omega)
 have a1:=gS (P:=Tryz.prog) (C:=C) (t:=9) (x:=x) (y:=[128]) (by simp;omega)
 have a2:=gS (P:=Tryz.prog) (C:=C) (t:=9) (x:=x++[128]) (y:=List.replicate z 0) (by simp;omega)
 simp at a2
 simp [aG,a1,r1,r2,cz,a2,q3,q4,bi]
 refine az 8 (fun i s H'=>H'=H∧s 4=.int .u64 ((x.length:Int)*8)∧s 5=.int .i64 (7-(i:Int))∧s 3=.str (x++[128]++List.replicate z 0++(cx x.length).take i)) ?_ ?_
 ·exact ⟨rfl,rfl,rfl,by simp⟩
 rintro i s H' ⟨rfl,e4,e5,e3⟩ hi
 by_cases h':i<8
 ·have hi8:(0:Int)≤7-i:=by omega
  have w1:IntKind.i64.wrap (8*(7-(i:Int)))=((8*(7-i):Nat):Int):=by rw [aK (by omega) (by omega)];omega
  have w2:IntKind.u64.wrap ((8*(7-i):Nat):Int)=((8*(7-i):Nat):Int):=IntWalk.u64_in _ (by omega)
  have w3:IntKind.i64.wrap (7-(i:Int)-1)=7-((i:Int)+1):=by rw [aK (by omega) (by omega)];omega
  obtain ⟨q,hq⟩:∃q:Nat,q=x.length*8 / 2^(8*(7-i)):=⟨_,rfl⟩
  have s1:∀t,bU Tryz.prog C .shr t (.int .u64 ((x.length:Int)*8)) (.int .u64 ((8*(7-i):Nat):Int))=some (.int .u64 (q:Int)):=fun t=>by
   simp only [bU,IntKind.bits]
   rw [if_pos (by omega),hq]
   have e:min ((8*(7-i):Nat):Int).toNat 64=8*(7-i):=by omega
   have e2:(((x.length*8:Nat):Int)).fdiv ((2^(8*(7-i)):Nat):Int)=((x.length*8 / 2^(8*(7-i)):Nat):Int):=by
    rw [Int.fdiv_eq_ediv_of_nonneg _ (Int.natCast_nonneg _)];rfl
   rw [e,show ((2:Int)^(8*(7-i)))=((2^(8*(7-i)):Nat):Int) by simp,show (x.length:Int)*8=((x.length*8:Nat):Int) by omega,e2]
  have w4:IntKind.u8.wrap (q:Int)=((q % 256:Nat):Int):=by rw [IntKind.wrap_u8];omega
  have hget:(cx x.length)[i]?=some (UInt8.ofNat q):=by
   unfold cx
   rw [List.getElem?_map,List.getElem?_range h',hq,Nat.mod_eq_of_lt (by omega)];rfl
  have hlen:(cx x.length).length=8:=by simp [cx]
  have b1:gi [[.int .u8 ((q % 256:Nat):Int)]]=some [UInt8.ofNat q]:=by simp only [gi,Int.toNat_natCast,Gq];rfl
  have a3:=gS (P:=Tryz.prog) (C:=C) (t:=9) (x:=x++[128]++List.replicate z 0++(cx x.length).take i) (y:=[UInt8.ofNat q]) (by simp;omega)
  have et:(cx x.length).take (i+1)=(cx x.length).take i++[UInt8.ofNat q]:=by rw [List.take_add_one,hget];rfl
  have hm:8*(7-i)=8*(7-i):=rfl
  generalize hM:8*(7-i)=M at w1 w2 s1
  generalize hc:q % 256=c at w4 b1
  have h7:(i:Int)≤7:=by omega
  simp only [List.append_assoc,List.cons_append,List.nil_append] at a3
  simp [e4,e5,e3,h7,w1,w2,s1,w3,w4,bi,aj,au,cF,b1,a3,h',et]
 ·have h':i=8:=by omega
  subst h'
  have hlen:(cx x.length).length=8:=by simp [cx]
  simp [e4,e5,e3,hpad,List.take_of_length_le,hlen]
theorem Gt {L:List oo} {m j:Nat} (hj:j<L.length):((L.map bW++List.replicate m (bW 0)).drop j).head?=some (bW (L.getD j 0)):=by
 rw [List.head?_drop,List.getElem?_append_left (by simpa using hj),List.getElem?_map,List.getElem?_eq_getElem hj,List.getD_eq_getElem?_getD,List.getElem?_eq_getElem hj];rfl
theorem D5 {L:List oo} {m j:Nat} {x:oo} (hj:j=L.length):(L.map bW++List.replicate (m+1) (bW 0)).take j++bW x::(L.map bW++List.replicate (m+1) (bW 0)).drop (j+1)=(L++[x]).map bW++List.replicate m (bW 0):=by
 subst hj
 rw [List.take_append_of_le_length (by simp),List.take_of_length_le (by simp),List.drop_append,List.drop_of_length_le (by simp),List.replicate_succ]
 simp
theorem vO (b:UInt8):AV.int .u32 (IntKind.u32.wrap (b.toNat:Int))=bW (kW b):=by
 have h:=b.toNat_lt
 have:(kW b).toNat=b.toNat:=by simp [kW]
 rw [bW,this,IntWalk.u32_in _ (by omega)]
end Go.Proofs.Ev
namespace Go.Proofs.Ev
open Go.Proofs
variable {C:bG}
theorem ye {block:List UInt8} {j:Nat} (h:j<block.length):block[j]?=some (block.getD j 0):=by
 rw [List.getD_eq_getElem?_getD,List.getElem?_eq_getElem h];rfl
def iZ (block:List UInt8) (t:Nat):List AV:=(bu block t).map bW++List.replicate (64-t) (bW 0)
@[simp] theorem kG {block:List UInt8} {t:Nat} (h:t≤64):(iZ block t).length=64:=by simp [iZ,df];omega
theorem qX:∀l:List oo,AV.closeds (l.map bW)=true
 | []=>rfl
 | x::l=>by simp [AV.closeds,qX l]
theorem kZ {block:List UInt8} {t j:Nat} (h:j<t):(iZ block t)[j]?=some (bW ((bu block t).getD j 0)):=by
 rw [←List.head?_drop];exact Gt (by rw [df];exact h)
theorem qD {block:List UInt8} {t:Nat} {x:oo} (h:t<64) (hx:(if t<16 then rL block t else sg (bu block t))=x):(iZ block t).take t++bW x::(iZ block t).drop (t+1)=iZ block (t+1):=by
 have e:64-t=(64-(t+1))+1:=by omega
 unfold iZ
 rw [e,D5 (by rw [df]),bu]
 simp only [hx]
set_option maxHeartbeats 2000000 in
theorem ya (S:d7 C) (block:List UInt8) (hb:block.length=64):cE Tryz.prog C 203 [] [.str block] (.agg ((bu block 64).map bW)):=by
 refine aB (S.pure6 _ (by decide)) fun H=>am Tryz.func203 rfl (S.prim _ (by decide)) (by simp) (by kernel_rfl) ?_
 unfold Tryz.f203
 have sh24:∀t x,bU Tryz.prog C .shl t (bW x) (.int .u64 24)=some (bW (x <<< 24)):=fun t x=>wN t x .u64 24 (by decide)
 have sh16:∀t x,bU Tryz.prog C .shl t (bW x) (.int .u64 16)=some (bW (x <<< 16)):=fun t x=>wN t x .u64 16 (by decide)
 have sh8:∀t x,bU Tryz.prog C .shl t (bW x) (.int .u64 8)=some (bW (x <<< 8)):=fun t x=>wN t x .u64 8 (by decide)
 have sr10:∀t x,bU Tryz.prog C .shr t (bW x) (.int .u64 10)=some (bW (x >>> 10)):=fun t x=>sw t x .u64 10 (by decide)
 have sr3:∀t x,bU Tryz.prog C .shr t (bW x) (.int .u64 3)=some (bW (x >>> 3)):=fun t x=>sw t x .u64 3 (by decide)
 have r17:∀x base H K,aD Tryz.prog C base (.fn 205 []) [bW x,.int .u64 17] H K=K (bW (fa x 17)) H:=fun x=>(fg S x 17 (by decide)).eq
 have r19:∀x base H K,aD Tryz.prog C base (.fn 205 []) [bW x,.int .u64 19] H K=K (bW (fa x 19)) H:=fun x=>(fg S x 19 (by decide)).eq
 have r7:∀x base H K,aD Tryz.prog C base (.fn 205 []) [bW x,.int .u64 7] H K=K (bW (fa x 7)) H:=fun x=>(fg S x 7 (by decide)).eq
 have r18:∀x base H K,aD Tryz.prog C base (.fn 205 []) [bW x,.int .u64 18] H K=K (bW (fa x 18)) H:=fun x=>(fg S x 18 (by decide)).eq
 simp [aG,ao,aE]
 refine az 16 (fun i s H'=>∃Z:List AV,Z.length=64∧s 0=.str block∧s 2=.ptr H.length 0 64 0 0∧s 3=.ptr (H.length+1) 0 64 0 0∧s 4=.int .i64 i∧H'=H++[.rows 64 0 [Z],.rows 64 0 [iZ block i]]) ?_ ?_
 ·exact ⟨List.replicate 64 (.int .u32 0),rfl,rfl,rfl,rfl,rfl,rfl⟩
 rintro i s H' ⟨Z,hZ,e0,e2,e3,e4,rfl⟩ hi
 by_cases h:i<16
 ·have q0:=ye (block:=block) (j:=4*i) (by omega)
  have q1:=ye (block:=block) (j:=4*i+1) (by omega)
  have q2:=ye (block:=block) (j:=4*i+2) (by omega)
  have q3:=ye (block:=block) (j:=4*i+3) (by omega)
  have w0:IntKind.i64.wrap (4*(i:Int))=((4*i:Nat):Int):=by rw [aK (by omega) (by omega)];omega
  have w1:IntKind.i64.wrap (((4*i:Nat):Int)+1)=((4*i+1:Nat):Int):=by rw [aK (by omega) (by omega)];omega
  have w2:IntKind.i64.wrap (((4*i:Nat):Int)+2)=((4*i+2:Nat):Int):=by rw [aK (by omega) (by omega)];omega
  have w3:IntKind.i64.wrap (((4*i:Nat):Int)+3)=((4*i+3:Nat):Int):=by rw [aK (by omega) (by omega)];omega
  have hset:=qD (block:=block) (t:=i) (x:=rL block i) (by omega) (by rw [if_pos h])
  have hw:rL block i=kW (block.getD (4*i) 0) <<< 24 ||| kW (block.getD (4*i+1) 0) <<< 16 ||| kW (block.getD (4*i+2) 0) <<< 8 ||| kW (block.getD (4*i+3) 0):=rfl
  rw [hw] at hset
  generalize block.getD (4*i) 0=b0 at q0 hset
  generalize block.getD (4*i+1) 0=b1 at q1 hset
  generalize block.getD (4*i+2) 0=b2 at q2 hset
  generalize block.getD (4*i+3) 0=b3 at q3 hset
  generalize hj0:4*i=j0 at w0 w1 w2 w3 q0 q1 q2 q3
  generalize hj1:j0+1=j1 at w1 q1
  generalize hj2:j0+2=j2 at w2 q2
  generalize hj3:j0+3=j3 at w3 q3
  simp [-getElem?_pos,List.getElem?_cons_zero,e0,e2,e3,e4,w0,w1,w2,w3,q0,q1,q2,q3,show j0<block.length by omega,show j1<block.length by omega,show j2<block.length by omega,show j3<block.length by omega,bi,vO,sh24,sh16,sh8,KM,ao,show (i:Int)<16 by omega,show (i:Int)<64 by omega,show i<64 by omega]
  rw [aN (h:=by kernel_rfl)]
  have hl:=kG (block:=block) (t:=i) (by omega)
  simp [h,e0,e2,e3,e4,ay (show i<64 by omega) (by decide),hl,show i+1≤64 by omega]
  exact ⟨Z,hZ,rfl,hset⟩
 have h:i=16:=by omega
 subst h
 simp [e0,e2,e3,e4]
 refine az 48 (fun i s H'=>∃T:Nat,T=16+i∧s 2=.ptr H.length 0 64 0 0∧s 3=.ptr (H.length+1) 0 64 0 0∧s 5=.int .i64 (T:Int)∧H'=H++[.rows 64 0 [Z],.rows 64 0 [iZ block T]]) ?_ ?_
 ·exact ⟨16,rfl,e2,e3,rfl,rfl⟩
 clear e0 e2 e3 e4
 rintro i s H' ⟨T,hT,e2,e3,e5,rfl⟩ hi
 have hl:=kG (block:=block) (t:=T) (by omega)
 by_cases h:i<48
 ·obtain ⟨j15,hj15⟩:∃j,j=T-15:=⟨_,rfl⟩
  obtain ⟨j2,hj2⟩:∃j,j=T-2:=⟨_,rfl⟩
  obtain ⟨j7,hj7⟩:∃j,j=T-7:=⟨_,rfl⟩
  obtain ⟨j16,hj16⟩:∃j,j=T-16:=⟨_,rfl⟩
  have w15:IntKind.i64.wrap ((T:Int)-15)=(j15:Int):=by rw [aK (by omega) (by omega)];omega
  have w2:IntKind.i64.wrap ((T:Int)-2)=(j2:Int):=by rw [aK (by omega) (by omega)];omega
  have w7:IntKind.i64.wrap ((T:Int)-7)=(j7:Int):=by rw [aK (by omega) (by omega)];omega
  have w16:IntKind.i64.wrap ((T:Int)-16)=(j16:Int):=by rw [aK (by omega) (by omega)];omega
  have a15:=kZ (block:=block) (t:=T) (j:=j15) (by omega)
  have a2:=kZ (block:=block) (t:=T) (j:=j2) (by omega)
  have a7:=kZ (block:=block) (t:=T) (j:=j7) (by omega)
  have a16:=kZ (block:=block) (t:=T) (j:=j16) (by omega)
  have hset:=qD (block:=block) (t:=T) (x:=sg (bu block T)) (by omega) (by rw [if_neg (by omega)])
  have hn:sg (bu block T)=((fa ((bu block T).getD j2 0) 17 ^^^ fa ((bu block T).getD j2 0) 19 ^^^ (bu block T).getD j2 0 >>> 10)+(bu block T).getD j7 0+(fa ((bu block T).getD j15 0) 7 ^^^ fa ((bu block T).getD j15 0) 18 ^^^ (bu block T).getD j15 0 >>> 3))+(bu block T).getD j16 0:=by
   unfold sg
   simp only [df]
   rw [←hj15,←hj2,←hj7,←hj16]
  rw [hn] at hset
  generalize (bu block T).getD j2 0=b0 at a2 hset
  generalize (bu block T).getD j7 0=b1 at a7 hset
  generalize (bu block T).getD j15 0=b2 at a15 hset
  generalize (bu block T).getD j16 0=b3 at a16 hset
  have k15:(j15:Int)<64∧j15<64:=by omega
  have k2:(j2:Int)<64∧j2<64:=by omega
  have k7:(j7:Int)<64∧j7<64:=by omega
  have k16:(j16:Int)<64∧j16<64:=by omega
  have kT:(T:Int)<64∧T<64∧T+1≤64:=by omega
  simp [-getElem?_pos,List.getElem?_cons_zero,e2,e3,e5,w15,w2,w7,w16,a15,a2,a7,a16,k15,k2,k7,k16,kT,r17,r19,r7,r18,sr10,sr3,wM,DN,ao,hl]
  rw [aN (h:=by kernel_rfl)]
  simp [h,e2,e3,e5,ay kT.2.1 (by decide),hl,kT]
  refine ⟨by omega,?_⟩
  rw [hset];congr 1;omega
 ·have h:i=48:=by omega
  subst h
  have hT:T=64:=by omega
  subst hT
  have e64:iZ block 64=(bu block 64).map bW:=by simp [iZ]
  have l64:=df block 64
  rw [e64] at hl ⊢
  generalize bu block 64=W at *
  simp [e2,e3,e5,ao,hZ,List.take_of_length_le,List.drop_of_length_le (Nat.le_of_eq hZ),l64]
  exact aq (v:=.agg (W.map bW)) (qX W)
def gY (s:vz):List AV:=[bW s.a,bW s.b,bW s.c,bW s.d,bW s.e,bW s.f,bW s.g,bW s.h]
set_option maxRecDepth 100000 in
set_option maxHeartbeats 2000000 in
theorem H5 (S:d7 C) (v0:vz) (block:List UInt8) (hb:block.length=64):cE Tryz.prog C 131 [] [.agg (gY v0),.str block] (.agg (gY (nM v0 block))):=by
 refine aB (S.pure6 _ (by decide)) fun H=>am Tryz.func131 rfl (S.prim _ (by decide)) (by simp) (by kernel_rfl) ?_
 unfold Tryz.f131
 have r6:∀x base H K,aD Tryz.prog C base (.fn 205 []) [bW x,.int .u64 6] H K=K (bW (fa x 6)) H:=fun x=>(fg S x 6 (by decide)).eq
 have r11:∀x base H K,aD Tryz.prog C base (.fn 205 []) [bW x,.int .u64 11] H K=K (bW (fa x 11)) H:=fun x=>(fg S x 11 (by decide)).eq
 have MB:∀x base H K,aD Tryz.prog C base (.fn 205 []) [bW x,.int .u64 25] H K=K (bW (fa x 25)) H:=fun x=>(fg S x 25 (by decide)).eq
 have r2:∀x base H K,aD Tryz.prog C base (.fn 205 []) [bW x,.int .u64 2] H K=K (bW (fa x 2)) H:=fun x=>(fg S x 2 (by decide)).eq
 have r13:∀x base H K,aD Tryz.prog C base (.fn 205 []) [bW x,.int .u64 13] H K=K (bW (fa x 13)) H:=fun x=>(fg S x 13 (by decide)).eq
 have r22:∀x base H K,aD Tryz.prog C base (.fn 205 []) [bW x,.int .u64 22] H K=K (bW (fa x 22)) H:=fun x=>(fg S x 22 (by decide)).eq
 have c1:=(ya S block hb).eq
 have c2:=(vq S).eq
 have l1:((bu block 64).map bW).length=64:=by rw [List.length_map,df]
 have l2:(pB.map bW).length=64:=rfl
 obtain ⟨fW,hfW⟩:∃f:Nat→oo,f=fun t=>(bu block 64).getD t 0:=⟨_,rfl⟩
 obtain ⟨fK,hfK⟩:∃f:Nat→oo,f=fun t=>pB.getD t 0:=⟨_,rfl⟩
 have hround:∀t,cO block v0 (t+1)=CG (cO block v0 t) (fK t) (fW t):=fun t=>by rw [hfK,hfW];rfl
 have hs:∀t,t<64→((bu block 64).map bW)[t]?=some (bW (fW t)):=fun t ht=>by
  rw [hfW,List.getElem?_map];simp only;rw [List.getD_eq_getElem?_getD,List.getElem?_eq_getElem (by rw [df];exact ht)];rfl
 have hk:∀t,t<64→(pB.map bW)[t]?=some (bW (fK t)):=fun t ht=>by
  rw [hfK,List.getElem?_map];simp only;rw [List.getD_eq_getElem?_getD,List.getElem?_eq_getElem (show t<pB.length from ht)];rfl
 have hfin:nM v0 block=⟨v0.a+(cO block v0 64).a,v0.b+(cO block v0 64).b,v0.c+(cO block v0 64).c,v0.d+(cO block v0 64).d,v0.e+(cO block v0 64).e,v0.f+(cO block v0 64).f,v0.g+(cO block v0 64).g,v0.h+(cO block v0 64).h⟩:=rfl
 rw [hfin]
 have h0:cO block v0 0=v0:=rfl
 have q1:∀x∈(bu block 64).map bW,x.leaf=true:=by intro x hx;obtain ⟨y,_,rfl⟩:=List.mem_map.1 hx;rfl
 have q2:∀x∈pB.map bW,x.leaf=true:=by intro x hx;obtain ⟨y,_,rfl⟩:=List.mem_map.1 hx;rfl
 clear hfW hfK
 generalize cO block v0=R at *
 generalize (bu block 64).map bW=W at *
 generalize pB.map bW=Kc at *
 simp [aG,gY,ao,aE,c1,c2,l1,l2]
 refine ⟨q1,q2,?_⟩
 refine az 64 (fun i s H'=>∃Z,Z.length=8∧s 2=.ptr H.length 0 8 0 0∧s 4=.ptr (H.length+1) 0 8 0 0∧s 5=.ptr (H.length+2) 0 64 0 0∧s 6=.ptr (H.length+3) 0 64 0 0∧s 7=.ptr (H.length+4) 0 8 0 0∧s 8=.int .i64 i∧
  H'=H++[.rows 8 0 [gY v0],.rows 8 0 [Z],.rows 64 0 [W],.rows 64 0 [Kc],.rows 8 0 [gY (R i)]]) ?_ ?_
 ·refine ⟨List.replicate 8 (.int .u32 0),rfl,rfl,rfl,rfl,rfl,rfl,rfl,?_⟩
  rw [h0];rfl
 rintro i s H' ⟨Z,hZ,e2,e4,e5,e6,e7,e8,rfl⟩ hi
 by_cases h:i<64
 ·have hs:=hs i h
  have hk:=hk i h
  have hr:=hround i
  have hi64:(i:Int)<64:=by omega
  simp [-getElem?_pos,List.getElem?_cons_zero,gY,e2,e4,e5,e6,e7,e8,hi64,h,hs,hk,r6,r11,MB,r2,r13,r22,wM,DN,Lw,Lx,aE,ao,ay h (by decide)]
  refine ⟨Z,hZ,rfl,?_⟩
  rw [hr]
  exact ⟨rfl,rfl,rfl,rfl,rfl,rfl,rfl,rfl⟩
 have h:i=64:=by omega
 subst h
 clear hround hs hk
 generalize R 64=v at *
 simp [e2,e4,e5,e6,e7,e8]
 refine az 8 (fun i s H'=>s 2=.ptr H.length 0 8 0 0∧s 4=.ptr (H.length+1) 0 8 0 0∧s 7=.ptr (H.length+4) 0 8 0 0∧s 13=.int .i64 i∧
  H'=H++[.rows 8 0 [(gY ⟨v0.a+v.a,v0.b+v.b,v0.c+v.c,v0.d+v.d,v0.e+v.e,v0.f+v.f,v0.g+v.g,v0.h+v.h⟩).take i++(gY v0).drop i],.rows 8 0 [Z],.rows 64 0 [W],.rows 64 0 [Kc],.rows 8 0 [gY v]]) ?_ ?_
 ·exact ⟨e2,e4,e7,rfl,rfl⟩
 clear e2 e4 e5 e6 e7 e8
 rintro i s H' ⟨e2,e4,e7,e13,rfl⟩ hi
 by_cases h:i<8
 ·have hk:i=0∨i=1∨i=2∨i=3∨i=4∨i=5∨i=6∨i=7:=by omega
  rcases hk with rfl | rfl | rfl | rfl | rfl | rfl | rfl | rfl
  all_goals
   simp [gY,e2,e4,e7,e13,wM,ao]
   rw [aN (h:=by kernel_rfl)]
   simp [gY,e2,e4,e7,e13]
   try rfl
 have h:i=8:=by omega
 subst h
 simp [gY,e2,e4,e7,e13,ao,List.drop_of_length_le (Nat.le_of_eq hZ)]
 exact ⟨by omega,aq rfl⟩
end Go.Proofs.Ev
