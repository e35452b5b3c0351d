/- Part 17 of the proof that quiltlaw38.BlameHistory returns true: no statement of its own. -/
import Derived.Test.YtkicailcmamaiaaGreatDoorH16
import Derived.Test.YtkicailcmamaiaaGreatDoorH14
set_option linter.all false
namespace Go.Proofs.Ev
open Go.Proofs
variable {C:bD}
structure de (C:bD):Prop extends iF C where
 pureL:∀f,f∈[204,205,206,207,208,209]→C.pure f=true
 plainL:∀f,f∈[141,203]→C.pure f=false∧C.frz f=false
theorem kG {a b:Int} (h:¬a=b):(a==b)=false:=by simpa using h
def oy (k:Int):Int:=if k=2∨k=3∨k=4∨k=6 then k else 0
theorem yj (S:iF C) (k:Int):b8 Tryz.prog C 210 [] [.int .i64 k] (.int .i64 (oy k)):=by
 refine aw (S.pureK _ (by decide)) fun H=>aj Tryz.func210 rfl (S.prim _ (by decide)) (by simp) (by kernel_rfl) ?_
 unfold Tryz.f210
 by_cases h2:k=2
 ·subst h2;simp [aE,dS,cU,iZ,d6,iY,fP,oy]
 by_cases h3:k=3
 ·subst h3;simp [aE,dS,cU,iZ,d6,iY,fP,oy]
 by_cases h4:k=4
 ·subst h4;simp [aE,dS,cU,iZ,d6,iY,fP,oy]
 by_cases h6:k=6
 ·subst h6;simp [aE,dS,cU,iZ,d6,iY,fP,oy]
 have a2:(2:Int)≠k:=fun h=>h2 h.symm
 have a3:(3:Int)≠k:=fun h=>h3 h.symm
 have a4:(4:Int)≠k:=fun h=>h4 h.symm
 have a6:(6:Int)≠k:=fun h=>h6 h.symm
 simp [aE,dS,cU,iZ,d6,iY,fP,oy,h2,h3,h4,h6,a2,a3,a4,a6,kG h2,kG h3,kG h4,kG h6,kG a2,kG a3,kG a4,kG a6]
theorem EN (S:de C) (x:aG):b8 Tryz.prog C 204 [] [.agg x.cells] (.bool (x.kind==1)):=by
 refine aw (S.pureL _ (by decide)) fun H=>aj Tryz.func204 rfl (S.prim _ (by decide)) (by simp) (by kernel_rfl) ?_
 unfold Tryz.f204
 simp [aE]
theorem EO (S:de C) (x:aG):b8 Tryz.prog C 205 [] [.agg x.cells] (.bool (x.kind==1&&(x.type==2||x.type==3))):=by
 refine aw (S.pureL _ (by decide)) fun H=>aj Tryz.func205 rfl (S.prim _ (by decide)) (by simp) (by kernel_rfl) ?_
 unfold Tryz.f205
 by_cases h1:x.kind=1
 ·by_cases h2:x.type=2
  ·simp [aE,an,h1,h2]
  ·simp [aE,an,h1,h2,kG h2]
 ·simp [aE,an,h1,kG h1]
theorem EP (S:de C) (x:aG):b8 Tryz.prog C 206 [] [.agg x.cells] (.bool (x.kind==1&&x.type==1)):=by
 refine aw (S.pureL _ (by decide)) fun H=>aj Tryz.func206 rfl (S.prim _ (by decide)) (by simp) (by kernel_rfl) ?_
 unfold Tryz.f206
 by_cases h1:x.kind=1
 ·simp [aE,an,h1]
 ·simp [aE,an,h1,kG h1]
theorem EQ (S:de C) (x:aG):b8 Tryz.prog C 207 [] [.agg x.cells] (.bool (x.kind==1&&x.type==4)):=by
 refine aw (S.pureL _ (by decide)) fun H=>aj Tryz.func207 rfl (S.prim _ (by decide)) (by simp) (by kernel_rfl) ?_
 unfold Tryz.f207
 by_cases h1:x.kind=1
 ·simp [aE,an,h1]
 ·simp [aE,an,h1,kG h1]
theorem Gm (S:de C) {base b:Nat} {H:ae} {c:aW} (hg:ax H b 0 139 0=some c.cells) (x:aG) (K:AV→ae→Prop) :
 aF Tryz.prog C base (.fn 208 [.ptr b 0 139 0 0]) [.agg x.cells] H K=K (.bool (aB x.id c.file||(x.kind==5&&aB x.file c.file))) H:=by
 have hb:b<H.length:=by
  rcases Nat.lt_or_ge b H.length with h | h
  ·exact h
  ·simp [ax,List.getElem?_eq_none h] at hg
 have hg2:∀L,ax (H++L) b 0 139 0=some c.cells:=fun L=>by
  simp only [ax] at hg ⊢;rw [List.getElem?_append_left hb];exact hg
 refine aF.eq (eH (S.pureL _ (by decide)) (aj Tryz.func208 rfl (S.prim _ (by decide)) (by simp) (by kernel_rfl) ?_)) K
 unfold Tryz.f208
 have ei:=fun a b=>gZ S.toaz a b
 cases h1:aB x.id c.file with
 | true=>simp [aE,an,hg2,ei,h1]
 | false =>
  by_cases h2:x.kind=5
  ·simp [aE,an,hg2,ei,h1,h2]
  ·simp [aE,an,hg2,ei,h1,h2,kG h2]
theorem Gn (S:de C) {base b:Nat} {H:ae} {c:aW} (hg:ax H b 0 139 0=some c.cells) (x:aG) (K:AV→ae→Prop) :
 aF Tryz.prog C base (.fn 209 [.ptr b 0 139 0 0]) [.agg x.cells] H K=K (.bool (c.kind==7||(x.kind==oy c.kind&&aB x.file c.file))) H:=by
 have hb:b<H.length:=by
  rcases Nat.lt_or_ge b H.length with h | h
  ·exact h
  ·simp [ax,List.getElem?_eq_none h] at hg
 have hg2:∀L,ax (H++L) b 0 139 0=some c.cells:=fun L=>by
  simp only [ax] at hg ⊢;rw [List.getElem?_append_left hb];exact hg
 refine aF.eq (eH (S.pureL _ (by decide)) (aj Tryz.func209 rfl (S.prim _ (by decide)) (by simp) (by kernel_rfl) ?_)) K
 unfold Tryz.f209
 have ei:=fun a b=>gZ S.toaz a b
 have eo:=(yj S.toiF c.kind).eq
 by_cases h0:c.kind=7
 ·simp [aE,an,hg2,ei,h0]
 ·by_cases h2:x.kind=oy c.kind
  ·simp [aE,an,hg2,ei,h0,kG h0,eo,h2]
  ·simp [aE,an,hg2,ei,h0,kG h0,eo,h2,kG h2]
def tQ (k:Int):FuncId:=if k=2∨k=3 then 204 else if k=4 then 205 else 206
def fH (c:aW):List (aC×AV):=if 2≤c.kind∧c.kind≤6 then [(c.file,.fn (tQ c.kind) [])] else []
def gK (c:aW):List (aC×AV):=if c.kind=2∧aB c.parent nL=false then [(c.parent,.fn 207 [])] else []
def iz (c:aW) (b:Nat):List (aC×AV):=if c.kind=5∨c.kind=6 then [(c.after,.fn 208 [.ptr b 0 139 0 0]),(c.before,.fn 208 [.ptr b 0 139 0 0])] else []
def i8 (c:aW) (b i:Nat):List (aC×AV):=(c.over.take i).map fun x=>(x,AV.fn 209 [.ptr b 0 139 0 0])
def jF (c:aW) (b:Nat):List (aC×AV):=fH c++(gK c++(iz c b++i8 c b c.over.length))
@[simp] theorem aC.dropB (x:aC) (f:AV):(x.cells++[f]).drop 34=[]:=List.drop_of_length_le (by simp)
@[simp] theorem aC.takeB (x:aC) (f:AV):(x.cells++[f]).take 34=x.cells++[f]:=List.take_of_length_le (by simp)
def ii (x:aC×AV):List AV:=x.1.cells++[x.2]
@[simp] theorem Mf (x:aC×AV):(ii x).length=34:=by simp [ii]
theorem Ix (S:de C) {Z J:ae} {base:Nat} (hZ:base≤Z.length) {v:AV} {l:List (aC×AV)} (hg:aQ (Z.length+1) 34 J v (l.map ii)) (hn:l.length≤2^20) (x:aC) (f:FuncId) (cs:List AV) :
 ∃v' J',aQ (Z.length+1) 34 J' v' ((l++[(x,AV.fn f cs)]).map ii)∧fh 34 J J'∧
  ∀K:AV→ae→Prop,aF Tryz.prog C base (.fn 203 [.ptr Z.length 0 1 0 0]) [.agg x.cells,.fn f cs] (Z++.rows 1 0 [[v]]::J) K=K (.tup []) (Z++.rows 1 0 [[v']]::J'):=by
 obtain ⟨v',J',h1,h2,h3⟩:=aQ.appendP (P:=Tryz.prog) (base:=base) (Z:=Z++[.rows 1 0 [[v]]]) (J:=J++[.rows 33 0 [x.cells]]) (n:=Z.length+1) (ts:=#[224,224]) (e:=227) (xd:=.slice 227) (rows:=l.map ii) (x:=.lst [ii (x,.fn f cs)] true) (ys:=[ii (x,.fn f cs)]) (by simp) (by simp) HU NB (by simp) (by decide) (by simp) (by simp;omega) (hg.app _) (fun r hr=>by obtain ⟨y,_,rfl⟩:=List.mem_map.1 hr;simp) rfl (by simp) (by simp;omega)
 refine ⟨v',J',by simpa using h2,fun k blk hk hb=>h3 k blk (by rw [List.getElem?_append_left (List.getElem?_eq_some_iff.1 hk).1];exact hk) hb,fun K=>aF.eq (bW (S.plainL _ (by decide)).1 (S.plainL _ (by decide)).2 (aj Tryz.func203 rfl (S.prim _ (by decide)) (by simp) (by kernel_rfl) ?_)) K⟩
 unfold Tryz.f203
 simp only [List.append_assoc,List.cons_append,List.nil_append,ii] at h1
 simp [aE,ah,aq,aD,h1,ao]
 exact ⟨⟨hZ,by rw [h2.cellv];rfl,by rw [h2.cellv];simpa using h2.leafv⟩,h2.cellv⟩
def gS (c:aW) (H:ae) (l:List (aC×AV)) (s:Sl) (H':ae):Prop:=s 1=.ptr H.length 0 139 0 0∧s 3=.ptr (H.length+1) 0 1 0 0∧s 4=.fn 203 [.ptr (H.length+1) 0 1 0 0]∧∃v J,aQ (H.length+2) 34 J v (l.map ii)∧H'=H++.rows 139 0 [c.cells]::.rows 1 0 [[v]]::J
set_option maxRecDepth 100000 in
set_option maxHeartbeats 4000000 in
theorem oD (S:de C) (c:aW) (hn:c.over.length≤400) {base:Nat} {H:ae} (hb:base≤H.length) :
 ∃v J,aQ (H.length+2) 34 J v ((jF c H.length).map ii)∧∀K:AV→ae→Prop,aF Tryz.prog C base (.fn 141 []) [.agg c.cells] H K=K v (H++.rows 139 0 [c.cells]::.rows 1 0 [[v]]::J):=by
 suffices h:aF Tryz.prog C base (.fn 141 []) [.agg c.cells] H (fun v' H'=>∃v J,aQ (H.length+2) 34 J v ((jF c H.length).map ii)∧v'=v∧H'=H++.rows 139 0 [c.cells]::.rows 1 0 [[v]]::J) by
  obtain ⟨n,v1,H1,h1,v,J,hg,rfl,rfl⟩:=h
  exact ⟨_,J,hg,fun K=>aF.eq ⟨n,_,_,h1,rfl,rfl⟩ K⟩
 refine bW (S.plainL _ (by decide)).1 (S.plainL _ (by decide)).2 (aj Tryz.func141 rfl (S.prim _ (by decide)) (by simp) (by kernel_rfl) ?_)
 unfold Tryz.f141
 have ad:=fun (v:AV) (J:ae) (l:List (aC×AV)) (hg:aQ (H.length+2) 34 J v (l.map ii)) (hn:l.length≤2^20) (x:aC) (f:FuncId) (cs:List AV)=>Ix S (Z:=H++[.rows 139 0 [c.cells]]) (base:=base) (J:=J) (v:=v) (by simp;omega) (l:=l) (by simpa using hg) hn x f cs
 simp only [List.append_assoc,List.cons_append,List.nil_append,List.length_append,List.length_cons,List.length_nil,Nat.zero_add] at ad
 refine cut (fun s H'=>s 1=.ptr H.length 0 139 0 0∧H'=H++[.rows 139 0 [c.cells]]) ?_ ?_
 ·simp [aE]
 rintro s H' ⟨q1,rfl⟩
 refine cut (fun s H'=>s 1=.ptr H.length 0 139 0 0∧s 3=.ptr (H.length+1) 0 1 0 0∧H'=H++[.rows 139 0 [c.cells],.rows 1 0 [[.nils]]]) ?_ ?_
 ·simp [q1]
 rintro s H' ⟨q1,q3,rfl⟩
 refine cut (gS c H []) ?_ ?_
 ·simp [q1,q3,gS]
  exact .nils
 rintro s H' ⟨q1,q3,q4,v,J,hg,rfl⟩
 refine cut (gS c H (fH c)) ?_ ?_
 ·by_cases k2:c.kind=2
  ·obtain ⟨v',J',hg',_,ea⟩:=ad v J [] hg (by simp) c.file 204 []
   simp [q1,q3,q4,k2,ea,gS,fH,tQ]
   simpa using hg'
  by_cases k3:c.kind=3
  ·obtain ⟨v',J',hg',_,ea⟩:=ad v J [] hg (by simp) c.file 204 []
   simp [q1,q3,q4,k3,ea,gS,fH,tQ]
   simpa using hg'
  by_cases k4:c.kind=4
  ·obtain ⟨v',J',hg',_,ea⟩:=ad v J [] hg (by simp) c.file 205 []
   simp [q1,q3,q4,k4,ea,gS,fH,tQ]
   simpa using hg'
  by_cases k5:c.kind=5
  ·obtain ⟨v',J',hg',_,ea⟩:=ad v J [] hg (by simp) c.file 206 []
   simp [q1,q3,q4,k5,ea,gS,fH,tQ]
   simpa using hg'
  by_cases k6:c.kind=6
  ·obtain ⟨v',J',hg',_,ea⟩:=ad v J [] hg (by simp) c.file 206 []
   simp [q1,q3,q4,k6,ea,gS,fH,tQ]
   simpa using hg'
  ·have h0:fH c=[]:=by rw [fH,if_neg (by omega)]
   simp [q1,q3,q4,k2,k3,k4,k5,k6,gS,h0]
   exact hg
 clear hg q1 q3 q4
 have n1:(fH c).length≤1:=by unfold fH;split<;>simp
 have n2:(gK c).length≤1:=by unfold gK;split<;>simp
 have n3:(iz c H.length).length≤2:=by unfold iz;split<;>simp
 rintro s H' ⟨q1,q3,q4,v,J,hg,rfl⟩
 refine cut (gS c H (fH c++gK c)) ?_ ?_
 ·have er:=(Aj S.toaz).eq
  have ei:=jv (gZ S.toaz c.parent nL)
  by_cases k2:c.kind=2
  ·cases hp:aB c.parent nL with
   | true =>
    have h0:gK c=[]:=by rw [gK,if_neg (by simp [hp])]
    simp [q1,q3,q4,an,k2,er,ei,hp,gS,h0]
    simpa using hg
   | false =>
    obtain ⟨v',J',hg',_,ea⟩:=ad v J (fH c) hg (by omega) c.parent 207 []
    have h0:gK c=[(c.parent,.fn 207 [])]:=by rw [gK,if_pos ⟨k2,hp⟩]
    simp [q1,q3,q4,an,k2,er,ei,hp,ea,gS,h0]
    simpa using hg'
  ·have h0:gK c=[]:=by rw [gK,if_neg (by simp [k2])]
   simp [q1,q3,q4,an,k2,kG k2,gS,h0]
   simpa using hg
 clear hg q1 q3 q4
 rintro s H' ⟨q1,q3,q4,v,J,hg,rfl⟩
 refine cut (gS c H (fH c++gK c++iz c H.length)) ?_ ?_
 ·by_cases k5:c.kind=5∨c.kind=6
  ·obtain ⟨v',J',hg',_,ea⟩:=ad v J (fH c++gK c) hg (by simp;omega) c.after 208 [.ptr H.length 0 139 0 0]
   obtain ⟨v2,J2,hg2,_,ea2⟩:=ad v' J' _ hg' (by simp;omega) c.before 208 [.ptr H.length 0 139 0 0]
   have h0:iz c H.length=[(c.after,.fn 208 [.ptr H.length 0 139 0 0]),(c.before,.fn 208 [.ptr H.length 0 139 0 0])]:=by rw [iz,if_pos k5]
   rcases k5 with k5 | k5
   ·simp [q1,q3,q4,an,k5,ea,ea2,gS,h0]
    simpa using hg2
   ·simp [q1,q3,q4,an,k5,ea,ea2,gS,h0]
    simpa using hg2
  ·have h0:iz c H.length=[]:=by rw [iz,if_neg k5]
   have k5':c.kind≠5∧c.kind≠6:=by omega
   simp [q1,q3,q4,an,k5'.1,k5'.2,kG k5'.1,kG k5'.2,gS,h0]
   simpa using hg
 clear hg q1 q3 q4
 rintro s H' ⟨q1,q3,q4,v,J,hg,rfl⟩
 refine cut (gS c H (fH c++gK c++iz c H.length++i8 c H.length c.over.length)) ?_ ?_
 ·simp [q1]
  refine ay c.over.length (fun i s H'=>s 64=am c.overK (c.over.map aC.cells)∧s 65=.int .i64 c.over.length∧s 66=.int .i64 i∧gS c H (fH c++gK c++iz c H.length++i8 c H.length i) s H') ?_ ?_
  ·exact ⟨rfl,rfl,rfl,q1,q3,q4,v,J,by simpa [i8] using hg,rfl⟩
  clear hg q1 q3 q4
  rintro i s H' ⟨q64,q65,q66,q1,q3,q4,v,J,hg,rfl⟩ hi
  by_cases h:i<c.over.length
  ·have n4:(i8 c H.length i).length≤400:=by simp [i8];omega
   obtain ⟨v',J',hg',_,ea⟩:=ad v (J++[.rows 33 0 [c.over[i].cells]]) _ (hg.app _) (by simp;omega) c.over[i] 209 [.ptr H.length 0 139 0 0]
   have er:i8 c H.length (i+1)=i8 c H.length i++[(c.over[i],AV.fn 209 [.ptr H.length 0 139 0 0])]:=by
    unfold i8;rw [List.take_add_one,List.getElem?_eq_getElem h,List.map_append];rfl
   simp [q1,q3,q4,q64,q65,q66,h,ao,aD,ea,au h (by omega),gS,er]
   exact ⟨by omega,by simpa using hg'⟩
  ·have h':i=c.over.length:=by omega
   subst h'
   simp [q1,q3,q4,q64,q65,q66,gS]
   simpa using hg
 clear hg q1 q3 q4
 rintro s H' ⟨q1,q3,q4,v,J,hg,rfl⟩
 simp [q3]
 simpa [jF] using hg
end Go.Proofs.Ev
namespace Go.Proofs.Ev
open Go.Proofs
variable {C:bD}
@[simp] theorem PI:be Tryz.prog 133=some false:=dz Tryz.underlying133 rfl
theorem aQ.at {P:Program} {t e:TypeId} {sz n:Nat} (h:P.underlying t=some (.slice e)) (hs:br P e=some sz) {Z J:ae} (hn:n=Z.length) {v:AV} {rows:List (List AV)} (hg:aQ n sz J v rows) {i:Nat} (hi:i<rows.length) (hr:rows[i].length=sz) (k:IntKind) :
 ∃a,aX P t v (.int k (i:Int))=some a∧∀t',i6 P (Z++J) t' a=fC P t' rows[i]:=by
 subst hn
 rcases hg with ⟨rfl,rfl⟩ | rfl | ⟨b,g,rfl,hb⟩
 ·simp at hi
 ·refine ⟨.eptr rows[i],?_,fun t'=>by simp⟩
  rw [ph h hs];simp [hi,hr]
 ·refine ⟨.ptr (Z.length+b) g sz i 0,?_,fun t'=>?_⟩
  ·rw [rQ h hs];simp [hi]
  ·rw [nB,td,gC hb];simp [hi]
structure lg (C:bD):Prop extends de C where
 frzM:∀f,f∈[195]→C.pure f=false∧C.frz f=true
theorem xK {x:aC} {n:Int} {b:Bool} (h:sC x n b=0):0≤x.n∧(bz x.d=true→x.n<n∧b=true)∧(bz x.d=false→x.n<100000):=by
 unfold sC at h
 split at h
 ·rename_i ha
  unfold pN at ha
  cases hz:bz x.d with
  | true =>
   rw [hz] at h ha
   simp at h ha
   exact ⟨ha.1,fun _=>⟨ha.2,h⟩,fun h=>by cases h⟩
  | false =>
   rw [hz] at h ha
   simp at ha
   exact ⟨ha.1,fun h=>(by cases h),fun _=>ha.2⟩
 ·omega
def Fv (C:bD) (base:Nat) (c:aW) (b:Nat) (own:List aG) (x:aC×AV):Prop :=
 0≤x.1.n∧x.1.n<100000∧(bz x.1.d=true→x.1.n<own.length∧∀y,own[x.1.n.toNat]?=some y→∀(H:ae) (K:AV→ae→Prop),ax H b 0 139 0=some c.cells→aF Tryz.prog C base x.2 [.agg y.cells] H K=K (.bool true) H)
theorem qp {base:Nat} {c:aW} {b:Nat} {own:List aG} {x:aC} {f:AV} {fits:Bool} (h:sC x own.length fits=0) (hn:own.length≤100000)
 (hf:bz x.d=true→fits=true→∀y,own[x.n.toNat]?=some y→mJ own x=y→∀(H:ae) (K:AV→ae→Prop),ax H b 0 139 0=some c.cells→aF Tryz.prog C base f [.agg y.cells] H K=K (.bool true) H):Fv C base c b own (x,f):=by
 obtain ⟨h1,h2,h3⟩:=xK h
 cases hz:bz x.d with
 | true =>
  have h4:=h2 hz
  refine ⟨h1,by simp only;omega,fun _=>⟨h4.1,fun y hy=>hf hz h4.2 y hy ?_⟩⟩
  unfold mJ
  rw [hz]
  simp only [List.getD_eq_getElem?_getD,hy]
  simp [h1,h4.1]
 | false=>exact ⟨h1,h3 hz,fun h=>(by rw [hz] at h;cases h)⟩
theorem il {a b:aC}:aB a b=true↔a.d=b.d∧a.n=b.n:=by simp [aB]
theorem JI (S:de C) {base:Nat} {c:aW} (hc:c.Good) {own:List aG} (h:lJ c own=0) (hid:∀(i:Nat) (y:aG),own[i]?=some y→y.id=bj i) (hn:own.length≤100000) (b:Nat):∀x∈jF c b,Fv C base c b own x:=by
 unfold lJ at h
 split at h
 ·omega
 rename_i h1
 split at h
 ·omega
 rename_i h2
 split at h
 ·omega
 rename_i h3
 split at h
 ·omega
 rename_i h4
 have h1:EC c own=0:=by omega
 have h2:ED c own=0:=by omega
 have h3:xZ c own=0:=by omega
 have h4:fT c own c.over=0:=by omega
 intro x hx
 simp only [jF,List.mem_append] at hx
 rcases hx with hx | hx | hx | hx
 ·unfold fH at hx
  split at hx
  ·rename_i hk
   rw [EC,if_pos hk] at h1
   simp only [List.mem_singleton] at hx
   subst hx
   refine qp h1 hn fun hz hf y hy hg H K hb=>?_
   rw [hg] at hf
   unfold jQ at hf
   split at hf
   ·rename_i hy1
    unfold tQ
    split
    ·rw [(EN S y).eq];simp [hy1]
    ·split
     ·rename_i hk4
      rw [(EO S y).eq]
      simp [lT,hk4] at hf
      rcases hf with hf | hf<;>simp [hy1,hf]
     ·rename_i hk23 hk4
      have hk56:c.kind=5∨c.kind=6:=by omega
      have ht:lT c.kind=true:=by simp [lT];exact hk56
      rw [if_pos ht] at hf
      rw [(EP S y).eq]
      simp at hf
      simp [hy1,hf]
   ·cases hf
  ·cases hx
 ·unfold gK at hx
  split at hx
  ·rename_i hk
   rw [ED,if_pos hk] at h2
   simp only [List.mem_singleton] at hx
   subst hx
   refine qp h2 hn fun hz hf y hy hg H K hb=>?_
   rw [hg] at hf
   rw [(EQ S y).eq,hf]
  ·cases hx
 ·unfold iz at hx
  split at hx
  ·rename_i hk
   have ht:lT c.kind=true:=by simp [lT];exact hk
   rw [xZ,if_pos ht] at h3
   have ha:ko c own c.after=0:=by split at h3<;>omega
   rw [if_pos ha] at h3
   have key:∀z,ko c own z=0→Fv C base c b own (z,.fn 208 [.ptr b 0 139 0 0]):=by
    intro z hz0
    unfold ko at hz0
    refine qp hz0 hn fun hz hf y hy hg H K hb=>?_
    rw [hg] at hf
    rw [Gm S hb y K]
    congr 2
    rw [Bool.or_eq_true] at hf ⊢
    rcases hf with hf | hf
    ·left
     rw [il] at hf ⊢
     have hyid:=hid _ _ hy
     have h0:=(xK hz0).1
     have hzd:z.d=aJ:=by simpa [bz] using hz
     rw [hyid]
     exact ⟨by show aJ=_;rw [←hzd];exact hf.1,by rw [←hf.2];simp [bj];omega⟩
    ·right;exact hf
   simp only [List.mem_cons,List.not_mem_nil,or_false] at hx
   rcases hx with rfl | rfl
   ·exact key _ ha
   ·exact key _ h3
  ·cases hx
 ·simp only [i8,List.mem_map] at hx
  obtain ⟨z,hz,rfl⟩:=hx
  have hz:=List.mem_of_mem_take hz
  have ho:∀(l:List aC),fT c own l=0→∀z∈l,sC z own.length (gD c.kind c.file (mJ own z))=0:=by
   intro l
   induction l with
   | nil=>intro _ z hz;cases hz
   | cons a l ih =>
    intro hl z hz
    simp only [fT] at hl
    split at hl
    ·rename_i h0
     rcases List.mem_cons.1 hz with rfl | hz
     ·exact h0
     ·exact ih hl z hz
    ·omega
  refine qp (ho _ h4 z hz) hn fun hz0 hf y hy hg H K hb=>?_
  rw [hg] at hf
  rw [Gn S hb y K]
  have hk:c.kind≠1∧c.kind≠5:=by
   have ht:=hc.tidy
   simp only [sf,Bool.and_eq_true,Bool.or_eq_true,decide_eq_true_eq,beq_iff_eq] at ht
   obtain ⟨_,t8⟩:=ht
   have hne:c.over.length≠0:=fun h0=>by rw [List.length_eq_zero_iff.1 h0] at hz;cases hz
   rcases t8 with t8 | t8
   ·simp at t8;omega
   ·omega
  have k1:=hc.k1
  have k7:=hc.k7
  congr 2
  by_cases h7:c.kind=7
  ·simp [h7]
  ·have hw:uY c.kind=c.kind:=by simp [uY,h7]
   have ho:oy c.kind=c.kind:=by rw [oy,if_pos (by omega)]
   simp only [gD,hw] at hf
   rw [ho]
   simpa [h7,show c.kind≠0 by omega] using hf
theorem zN {c:aW} {b:Nat}:∀x∈jF c b,∃f cs,x.2=AV.fn f cs:=by
 intro x hx
 simp only [jF,List.mem_append] at hx
 rcases hx with hx | hx | hx | hx
 ·unfold fH at hx
  split at hx
  ·simp only [List.mem_singleton] at hx;subst hx;exact ⟨_,_,rfl⟩
  ·cases hx
 ·unfold gK at hx
  split at hx
  ·simp only [List.mem_singleton] at hx;subst hx;exact ⟨_,_,rfl⟩
  ·cases hx
 ·unfold iz at hx
  split at hx
  ·simp only [List.mem_cons,List.not_mem_nil,or_false] at hx
   rcases hx with rfl | rfl<;>exact ⟨_,_,rfl⟩
  ·cases hx
 ·simp only [i8,List.mem_map] at hx
  obtain ⟨z,_,rfl⟩:=hx
  exact ⟨_,_,rfl⟩
theorem JF {c:aW} {own:List aG} (h:lJ c own=0):JE c=0:=by
 unfold lJ at h
 repeat' split at h
 all_goals first | omega | exact h
set_option maxHeartbeats 4000000 in
theorem oh (S:lg C) (c:aW) (own:List aG) (k:SK) (hc:c.Good) (hr:lJ c own=0) (hid:∀(i:Nat) (y:aG),own[i]?=some y→y.id=bj i) (hn:own.length≤100000) :
 sq Tryz.prog C 195 [.agg c.cells,am k (own.map aG.cells)] (.int .i64 0):=by
 refine lN (S.frzM _ (by decide)).1 (S.frzM _ (by decide)).2 rfl fun H=>aj Tryz.func195 rfl (S.prim _ (by decide)) (by simp) (by kernel_rfl) ?_
 unfold Tryz.f195
 have hok:=JI S.tode (base:=H.length) hc hr hid hn (H.length+1)
 have h5:=JF hr
 obtain ⟨v,J,hg,er⟩:=oD S.tode c hc.on (base:=H.length) (H:=H++[.rows 139 0 [c.cells]]) (by simp)
 simp only [List.append_assoc,List.cons_append,List.nil_append,List.length_append,List.length_cons,List.length_nil,Nat.zero_add] at hg er
 obtain ⟨R,hR⟩:∃R,R=jF c (H.length+1):=⟨_,rfl⟩
 rw [←hR] at hok hg
 have hov:=hc.on
 have hRl:R.length≤404:=by
  have n1:(fH c).length≤1:=by unfold fH;split<;>simp
  have n2:(gK c).length≤1:=by unfold gK;split<;>simp
  have n3:(iz c (H.length+1)).length≤2:=by unfold iz;split<;>simp
  have n4:(i8 c (H.length+1) c.over.length).length≤400:=by simp [i8];omega
  rw [hR];simp [jF];omega
 have hlen:=fun HH=>hg.len (P:=Tryz.prog) (t:=224) (e:=227) (H:=HH) (by simp)
 rw [List.length_map] at hlen
 refine cut (fun s H'=>s 1=am k (own.map aG.cells)∧s 2=.ptr H.length 0 139 0 0∧H'=H++[.rows 139 0 [c.cells]]) ?_ ?_
 ·simp [aE]
 rintro s H' ⟨q1,q2,rfl⟩
 refine cut (fun s H'=>s 2=.ptr H.length 0 139 0 0∧∃L,H'=H++.rows 139 0 [c.cells]::L) ?_ ?_
 ·simp [q1,q2,er,hlen]
  refine ay R.length (fun i s H'=>s 1=am k (own.map aG.cells)∧s 2=.ptr H.length 0 139 0 0∧s 8=v∧s 9=.int .i64 R.length∧s 10=.int .i64 i∧∃L,H'=H++.rows 139 0 [c.cells]::.rows 139 0 [c.cells]::.rows 1 0 [[v]]::(J++L)) ?_ ?_
  ·exact ⟨q1,q2,rfl,rfl,rfl,[],by simp⟩
  clear q1 q2
  rintro i s H' ⟨q1,q2,q8,q9,q10,L,rfl⟩ hi
  by_cases h:i<R.length
  ·obtain ⟨x,hx⟩:∃x,x=R[i]:=⟨_,rfl⟩
   have hxm:x∈R:=hx▸List.getElem_mem h
   obtain ⟨o1,o2,o3⟩:=hok x hxm
   obtain ⟨a,ha,hl⟩:=(hg.app L).at (P:=Tryz.prog) (t:=224) (e:=227) (Z:=H++[.rows 139 0 [c.cells],.rows 139 0 [c.cells],.rows 1 0 [[v]]]) (by simp) HU (by simp) (i:=i) (by simpa using h) (by simp) .i64
   simp only [List.append_assoc,List.cons_append,List.nil_append,List.getElem_map,←hx] at hl
   obtain ⟨f,cs,hfn⟩:=zN x (hR▸hxm)
   have r4:∀y∈x.1.cells++[x.2],y.leaf=true:=by
    intro y hy
    rcases List.mem_append.1 hy with hy | hy
    ·exact List.all_eq_true.1 x.1.leafs y hy
    ·rw [List.mem_singleton.1 hy,hfn];rfl
   have eo:=(sM S.tobN x.1).eq
   have p1:¬x.1.n<0:=by omega
   have p2:¬100000≤x.1.n:=by omega
   unfold ii at hl
   cases hz:bz x.1.d with
   | false =>
    simp [q1,q2,q8,q9,q10,h,ha,hl,ao,aD,r4,eo,hz,p1,p2,an,au h (by omega)]
    done
   | true =>
    obtain ⟨o4,o5⟩:=o3 hz
    have o6:x.1.n.toNat<own.length:=by omega
    have p3:¬(own.length:Int)≤x.1.n:=by omega
    have ec:=fun L K=>o5 own[x.1.n.toNat] (by simp [o6]) (H++.rows 139 0 [c.cells]::.rows 139 0 [c.cells]::.rows 1 0 [[v]]::L) K (by rw [show H.length+1=H.length+1 from rfl];simp)
    simp only [hfn] at ec
    simp [q1,q2,q8,q9,q10,h,ha,hl,ao,aD,r4,eo,hz,p1,p2,p3,o1,o4,o6,hfn,ec,an,au h (by omega)]
    done
  ·have h':i=R.length:=by omega
   subst h'
   simp [q1,q2,q8,q9,q10]
 rintro s H' ⟨q2,L,rfl⟩
 have ei:=fun a b=>gZ S.toaz a b
 have ein:=fun a b=>jv (gZ S.toaz a b)
 unfold JE at h5
 by_cases k2:c.kind=2
 ·have f1:aB c.parent c.file=false:=by
   cases hh:aB c.parent c.file with
   | false=>rfl
   | true=>rw [if_pos ⟨k2,hh⟩] at h5;omega
  simp [q2,an,k2,ei,f1]
  done
 by_cases k6:c.kind=6
 ·have f1:aB c.after c.before=false:=by
   cases hh:aB c.after c.before with
   | false=>rfl
   | true=>rw [if_neg (by simp [k2]),if_pos ⟨by simp [lT,k6],hh,.inl k6⟩] at h5;omega
  simp [q2,an,k2,k6,ei,f1]
  done
 by_cases k5:c.kind=5
 ·cases hh:aB c.after c.before with
  | false =>
   simp [q2,an,k2,k6,k5,ei,hh]
   done
  | true =>
   have f1:aB c.after c.file=true:=by
    cases h3:aB c.after c.file with
    | true=>rfl
    | false=>rw [if_neg (by simp [k2]),if_pos ⟨by simp [lT,k5],hh,.inr h3⟩] at h5;omega
   simp [q2,an,k2,k6,k5,ei,ein,hh,f1]
   done
 ·simp [q2,an,k2,k6,k5,kG k2,kG k5,kG k6]
  done
end Go.Proofs.Ev
namespace Go.Proofs.Ev
open Go.Proofs
variable {C:bD}
structure ga (C:bD):Prop extends lg C where
 pureN:∀f,f∈[281]→C.pure f=true
 plainN:∀f,f∈[196]→C.pure f=false∧C.frz f=false
theorem Jd (S:ga C) (c:aW) (first:Nat) {base:Nat} {H:ae} (K:AV→ae→Prop) :
 aF Tryz.prog C base (.fn 196 []) [.agg c.cells,.int .i64 (first:Int)] H K=K (.fn 280 [.ptr (H.length+1) 0 1 0 0,.ptr H.length 0 139 0 0]) (H++[.rows 139 0 [c.cells],.rows 1 0 [[.int .i64 (first:Int)]]]):=by
 refine aF.eq (bW (S.plainN _ (by decide)).1 (S.plainN _ (by decide)).2 (aj Tryz.func196 rfl (S.prim _ (by decide)) (by simp) (by kernel_rfl) ?_)) K
 unfold Tryz.f196
 simp [aE]
theorem Jp (S:ga C) {base b first n:Nat} {H:ae} (hg:H[b]?=some (.rows 1 0 [[.int .i64 (first:Int)]])) (h1:first≤2^40) (h2:n≤2^40) (K:AV→ae→Prop) :
 aF Tryz.prog C base (.fn 281 [.ptr b 0 1 0 0]) [.int .i64 (n:Int)] H K=K (.agg (bj ((first+n:Nat):Int)).cells) H:=by
 have hb:b<H.length:=(List.getElem?_eq_some_iff.1 hg).1
 have hg2:∀L,ax (H++L) b 0 1 0=some [.int .i64 (first:Int)]:=fun L=>by
  simp only [ax];rw [List.getElem?_append_left hb,hg];simp
 refine aF.eq (eH (S.pureN _ (by decide)) (aj Tryz.func281 rfl (S.prim _ (by decide)) (by simp) (by kernel_rfl) ?_)) K
 unfold Tryz.f281
 have w:IntKind.i64.wrap ((first:Int)+n)=((first+n:Nat):Int):=by rw [aO (by omega) (by omega)];omega
 simp [aE,hg2,w,aD,ao]
 simp [ak,AV.closed,bj]
structure Fy (C:bD) (base bl bc bf start N:Nat) (c:aW) (first:Nat) (I:List aG→ae→Prop):Prop where
 app:∀{l:List aG} {X:ae} (L:ae),I l X→I l (X++L)
 set:∀{l:List aG} {X:ae} {b g:Nat} {rs:List (List AV)} (rs':List (List AV)),I l X→start≤b→X[b]?=some (.rows 33 g rs)→I l (X.set b (.rows 33 g rs'))
 low:∀{l:List aG} {X:ae},I l X→base≤X.length∧start≤X.length
 c:∀{l:List aG} {X:ae},I l X→X[bc]?=some (.rows 139 0 [c.cells])
 f:∀{l:List aG} {X:ae},I l X→X[bf]?=some (.rows 1 0 [[.int .i64 (first:Int)]])
 yld:∀{l:List aG} {X:ae} (y:aG),I l X→l.length≤N→∃X',I (l++[y]) X'∧(∀b g rs,start≤b→X[b]?=some (.rows 33 g rs)→X'[b]?=some (.rows 33 g rs))∧
  ∀K:AV→ae→Prop,aF Tryz.prog C base (.yld bl) [.agg y.cells] X K=K (.bool true) X'
set_option maxHeartbeats 8000000 in
theorem Ec (S:ga C) (c:aW) (first:Nat) (h1:1≤c.kind) (h7:c.kind≤7) (hf:first≤2^30) (hl:c.lines.length≤2000) {base bl bc bf start N:Nat} {I:List aG→ae→Prop} (Y:Fy C base bl bc bf start N c first I)
 {own:List aG} (hown:own.length+4001≤N) {X0:ae} (hI:I own X0) (K:AV→ae→Prop) (hK:∀X,I (own++cH c first) X→K (.tup []) X) :
 dU Tryz.prog C base 280 [.yld bl,.ptr bf 0 1 0 0,.ptr bc 0 139 0 0] X0 K:=by
 refine aj Tryz.func280 rfl (S.prim _ (by decide)) (by simp) (by kernel_rfl) ?_
 unfold Tryz.f280
 have hc0:∀{l X},I l X→ax X bc 0 139 0=some c.cells:=fun h=>by simp [ax,Y.c h]
 have on0:∀{l X} (n:Nat),n≤2^40→I l X→∀K:AV→ae→Prop,aF Tryz.prog C base (.fn 281 [.ptr bf 0 1 0 0]) [.int .i64 (n:Int)] X K=K (.agg (bj ((first+n:Nat):Int)).cells) X:=fun n hn h K=>Jp S (Y.f h) (by omega) hn K
 refine cut (fun s H'=>s 0=.yld bl∧s 2=.ptr bc 0 139 0 0∧s 4=.fn 281 [.ptr bf 0 1 0 0]∧H'=X0) ?_ ?_
 ·simp [aE]
 rintro s X ⟨q0,q2,q4,rfl⟩
 refine cut (fun s H'=>s 0=.yld bl∧s 2=.ptr bc 0 139 0 0∧s 4=.fn 281 [.ptr bf 0 1 0 0]∧s 13=.int .i64 c.kind∧H'=X) ?_ ?_
 ·simp [q0,q2,q4,hc0 hI]
 rintro s X ⟨q0,q2,q4,q13,rfl⟩
 have hc1:=hc0 hI
 have n0:∀K:AV→ae→Prop,aF Tryz.prog C base (.fn 281 [.ptr bf 0 1 0 0]) [.int .i64 0] X K=K (.agg (bj (first:Int)).cells) X:=on0 0 (by omega) hI
 have hk:c.kind=1∨c.kind=2∨c.kind=3∨c.kind=4∨c.kind=5∨c.kind=6∨c.kind=7:=by omega
 rcases hk with hk | hk | hk | hk | hk | hk | hk
 ·obtain ⟨X',hI',_,ey⟩:=Y.yld { bV with id:=bj first,kind:=1,file:=bj first,type:=c.type } hI (by omega)
  have hm:cH c first=[{ bV with id:=bj first,kind:=1,file:=bj first,type:=c.type }]:=by simp [cH,hk]
  rw [hm] at hK
  simp [q0,q2,q4,q13,hk,n0,hc1,aD,ey]
  rw [aL (h:=by kernel_rfl)]
  simp
  exact hK _ hI'
 ·obtain ⟨X',hI',_,ey⟩:=Y.yld { bV with id:=bj first,kind:=2,file:=c.file,parent:=c.parent,name:=c.name,over:=c.over,overK:=c.overK } hI (by omega)
  have hm:cH c first=[{ bV with id:=bj first,kind:=2,file:=c.file,parent:=c.parent,name:=c.name,over:=c.over,overK:=c.overK }]:=by simp [cH,hk]
  rw [hm] at hK
  simp [q0,q2,q4,q13,hk,n0,hc1,aD,ey]
  rw [aL (h:=by kernel_rfl)]
  simp
  exact hK _ hI'
 ·obtain ⟨X',hI',_,ey⟩:=Y.yld { bV with id:=bj first,kind:=3,file:=c.file,mode:=c.mode,over:=c.over,overK:=c.overK } hI (by omega)
  have hm:cH c first=[{ bV with id:=bj first,kind:=3,file:=c.file,mode:=c.mode,over:=c.over,overK:=c.overK }]:=by simp [cH,hk]
  rw [hm] at hK
  simp [q0,q2,q4,q13,hk,n0,hc1,aD,ey]
  rw [aL (h:=by kernel_rfl)]
  simp
  exact hK _ hI'
 ·obtain ⟨X',hI',_,ey⟩:=Y.yld { bV with id:=bj first,kind:=4,file:=c.file,data:=c.data,over:=c.over,overK:=c.overK } hI (by omega)
  have hm:cH c first=[{ bV with id:=bj first,kind:=4,file:=c.file,data:=c.data,over:=c.over,overK:=c.overK }]:=by simp [cH,hk]
  rw [hm] at hK
  simp [q0,q2,q4,q13,hk,n0,hc1,aD,ey]
  rw [aL (h:=by kernel_rfl)]
  simp
  exact hK _ hI'
 ·have hm:cH c first=(List.range c.lines.length).map (gr c first)++(List.range (c.lines.length+1)).map (gj c first):=by simp [cH,hk]
  rw [hm] at hK
  obtain ⟨n,hn⟩:∃n,n=c.lines.length:=⟨_,rfl⟩
  rw [←hn] at hK hl
  simp [q0,q2,q4,q13,hk,hc1,←hn]
  refine ay n (fun i s X=>s 0=.yld bl∧s 2=.ptr bc 0 139 0 0∧s 4=.fn 281 [.ptr bf 0 1 0 0]∧s 93=am c.linesK (c.lines.map fX)∧s 94=.int .i64 n∧s 95=.int .i64 i∧I (own++(List.range i).map (gr c first)) X) ?_ ?_
  ·exact ⟨q0,q2,q4,rfl,rfl,rfl,by simpa using hI⟩
  clear q0 q2 q4 q13 hI hc1 n0
  rintro i s X ⟨q0,q2,q4,q93,q94,q95,hI⟩ hi
  have hc1:=hc0 hI
  by_cases h:i<n
  ·obtain ⟨m,hm0⟩:∃m,m=first+i:=⟨_,rfl⟩
   have ni:=fun K=>on0 i (by omega) hI K
   rw [←hm0] at ni
   have hin:i<c.lines.length:=by omega
   obtain ⟨X',hI',_,ey⟩:=Y.yld { bV with id:=bj (m:Int),kind:=5,file:=c.file,text:=c.lines[i] } hI (by simp;omega)
   have er:own++(List.range i).map (gr c first)++[{ bV with id:=bj (m:Int),kind:=5,file:=c.file,text:=c.lines[i] }]=own++(List.range (i+1)).map (gr c first):=by
    rw [hm0];simp [List.range_succ,gr,hin]
   rw [er] at hI'
   simp [q0,q2,q4,q93,q94,q95,h,hin,fX,ni,hc1,aD,ey]
   rw [aL (h:=by kernel_rfl)]
   simp [q0,q2,q4,q93,q94,q95,h,au h (by omega)]
   exact hI'
  have h':i=n:=by omega
  subst h'
  have ai:=Y.app [.rows 33 0 [c.after.cells]] hI
  have hlow:=Y.low hI
  simp [q0,q2,q4,q93,q94,q95,hc1,←hn,ao,aD,au (show i<i+1 by omega) (by omega)]
  refine ⟨hlow.1,?_⟩
  refine ay (i+1) (fun j s X'=>s 0=.yld bl∧s 2=.ptr bc 0 139 0 0∧s 4=.fn 281 [.ptr bf 0 1 0 0]∧s 7=.int .i64 i∧s 8=.ptr X.length 0 33 0 0∧s 117=.int .i64 ((i+1:Nat):Int)∧s 118=.int .i64 j∧
   (j<i+1→X'[X.length]?=some (.rows 33 0 [(if 0<j then bj ((first+j-1:Nat):Int) else c.after).cells]))∧I (own++((List.range i).map (gr c first)++(List.range j).map (gj c first))) X') ?_ ?_
  ·exact ⟨q0,q2,q4,rfl,rfl,rfl,rfl,fun _=>by simp,by simpa using ai⟩
  clear q0 q2 q4 q93 q94 q95 hc1 ai hI
  rintro j s W ⟨q0,q2,q4,q7,q8,q117,q118,hb8,hI⟩ hj
  have hc1:=hc0 hI
  have hlow2:=Y.low hI
  by_cases h:j<i+1
  ·have hb8:=hb8 h
   have hWX:X.length<W.length:=(List.getElem?_eq_some_iff.1 hb8).1
   obtain ⟨F,hF⟩:∃F,F=(if 0<j then bj ((first+j-1:Nat):Int) else c.after):=⟨_,rfl⟩
   rw [←hF] at hb8
   have w1:IntKind.i64.wrap ((i:Int)+j)=((i+j:Nat):Int):=by rw [aO (by omega) (by omega)];omega
   obtain ⟨m,hm0⟩:∃m,m=first+(i+j):=⟨_,rfl⟩
   have key:∀T:aC,T=(if j<i then bj ((first+j:Nat):Int) else c.before)→∃X',I (own++((List.range i).map (gr c first)++(List.range (j+1)).map (gj c first))) X'∧X'[X.length]?=some (.rows 33 0 [F.cells])∧X'[W.length]?=some (.rows 33 0 [T.cells])∧
    ∀K:AV→ae→Prop,aF Tryz.prog C base (.yld bl) [.agg (aG.cells { bV with id:=bj (m:Int),kind:=6,file:=c.file,frm:=F,to:=T })] (W++[.rows 33 0 [T.cells]]) K=K (.bool true) X':=by
    intro T hT
    obtain ⟨X',hI',hst,ey⟩:=Y.yld { bV with id:=bj (m:Int),kind:=6,file:=c.file,frm:=F,to:=T } (Y.app [.rows 33 0 [T.cells]] hI) (by simp;omega)
    refine ⟨X',?_,hst _ _ _ (by omega) (by rw [List.getElem?_append_left hWX];exact hb8),hst _ _ _ (by omega) (by simp),ey⟩
    have er:own++((List.range i).map (gr c first)++(List.range j).map (gj c first))++[{ bV with id:=bj (m:Int),kind:=6,file:=c.file,frm:=F,to:=T }]=own++((List.range i).map (gr c first)++(List.range (j+1)).map (gj c first)):=by
     rw [hF,hT,hm0]
     simp [List.range_succ,gj,←hn,Nat.add_assoc]
    rw [er] at hI'
    exact hI'
   obtain ⟨ij,hij⟩:∃ij,ij=i+j:=⟨_,rfl⟩
   rw [←hij] at w1
   have nm:∀(L:ae) (K:AV→ae→Prop),aF Tryz.prog C base (.fn 281 [.ptr bf 0 1 0 0]) [.int .i64 (ij:Int)] (W++L) K=K (.agg (bj (m:Int)).cells) (W++L):=fun L K=>by rw [hm0,←hij];exact on0 ij (by omega) (Y.app L hI) K
   have hcA:∀L,ax (W++L) bc 0 139 0=some c.cells:=fun L=>hc0 (Y.app L hI)
   have hb8A:∀L,ax (W++L) X.length 0 33 0=some F.cells:=fun L=>by simp [ax,List.getElem?_append_left hWX,hb8]
   have jlt:(j:Int)<i+1:=by omega
   by_cases hji:j<i
   ·obtain ⟨q,hq⟩:∃q,q=first+j:=⟨_,rfl⟩
    have nj:∀(L:ae) (K:AV→ae→Prop),aF Tryz.prog C base (.fn 281 [.ptr bf 0 1 0 0]) [.int .i64 (j:Int)] (W++L) K=K (.agg (bj (q:Int)).cells) (W++L):=fun L K=>by rw [hq];exact on0 j (by omega) (Y.app L hI) K
    obtain ⟨X',hI',hx1,hx2,ey⟩:=key (bj (q:Int)) (by rw [if_pos hji,hq])
    have hr2:ax X' W.length 0 33 0=some (bj (q:Int)).cells:=by simp [ax,hx2]
    have hlX:base≤X.length:=hlow.1
    have hlW:base≤W.length:=hlow2.1
    have w2:IntKind.i64.wrap ((j:Int)+1)=((j+1:Nat):Int):=by rw [aO (by omega) (by omega)];omega
    simp [q0,q2,q4,q7,q8,q117,q118,jlt,hji,hc1,hcA,hb8A,nj,nm,w1,ao,aD,ey,hlW]
    rw [aL (h:=by kernel_rfl)]
    simp [q0,q2,q4,q7,q8,q117,q118,hr2,ao,aD,hx1,hlX,w2]
    have hlt:X.length<X'.length:=(List.getElem?_eq_some_iff.1 hx1).1
    refine ⟨h,fun _=>?_,Y.set _ hI' hlow.2 hx1⟩
    rw [List.getElem?_set_self hlt,hq];simp
   ·obtain ⟨X',hI',hx1,hx2,ey⟩:=key c.before (by rw [if_neg hji])
    have hr2:ax X' W.length 0 33 0=some c.before.cells:=by simp [ax,hx2]
    have hlX:base≤X.length:=hlow.1
    have hlW:base≤W.length:=hlow2.1
    have w2:IntKind.i64.wrap ((j:Int)+1)=((j+1:Nat):Int):=by rw [aO (by omega) (by omega)];omega
    simp [q0,q2,q4,q7,q8,q117,q118,jlt,hji,hc1,hcA,hb8A,nm,w1,ao,aD,ey,hlW]
    rw [aL (h:=by kernel_rfl)]
    simp [q0,q2,q4,q7,q8,q117,q118,hr2,ao,aD,hx1,hlX,w2]
    exact ⟨h,fun h'=>absurd h' hji,Y.set _ hI' hlow.2 hx1⟩
  have h':j=i+1:=by omega
  subst h'
  simp [q0,q2,q4,q7,q8,q117,q118]
  exact hK _ hI
 ·obtain ⟨X',hI',_,ey⟩:=Y.yld { bV with id:=bj first,kind:=6,file:=c.file,frm:=c.after,to:=c.before,over:=c.over,overK:=c.overK } hI (by omega)
  have hm:cH c first=[{ bV with id:=bj first,kind:=6,file:=c.file,frm:=c.after,to:=c.before,over:=c.over,overK:=c.overK }]:=by simp [cH,hk]
  rw [hm] at hK
  simp [q0,q2,q4,q13,hk,n0,hc1,aD,ey]
  rw [aL (h:=by kernel_rfl)]
  simp
  exact hK _ hI'
 ·obtain ⟨X',hI',_,ey⟩:=Y.yld { bV with id:=bj first,kind:=7,over:=c.over,overK:=c.overK } hI (by omega)
  have hm:cH c first=[{ bV with id:=bj first,kind:=7,over:=c.over,overK:=c.overK }]:=by simp [cH,hk]
  rw [hm] at hK
  simp [q0,q2,q4,q13,hk,n0,hc1,aD,ey]
  rw [aL (h:=by kernel_rfl)]
  simp
  exact hK _ hI'
end Go.Proofs.Ev
namespace Go.Proofs.Ev
open Go.Proofs
variable {C:bD}
mutual
def SX.strip:SX→SX
 | .mk b a l _=>.mk b a (SX.strips l) .nil
def SX.strips:List SX→List SX
 | []=>[]
 | x::l=>SX.strip x::SX.strips l
end
theorem SX.strips_map:∀l:List SX,SX.strips l=l.map SX.strip
 | []=>rfl
 | x::l=>by rw [SX.strips,SX.strips_map l];rfl
mutual
theorem SX.nodes_strip:∀x:SX,x.strip.nodes=x.nodes
 | .mk b a l k=>by rw [SX.strip,SX.nodes,SX.nodes,SX.nodess_strip l]
theorem SX.nodess_strip:∀l:List SX,SX.nodess (SX.strips l)=SX.nodess l
 | []=>rfl
 | x::l=>by rw [SX.strips,SX.nodess,SX.nodess,SX.nodes_strip x,SX.nodess_strip l]
end
mutual
theorem SX.chk_strip:∀x:SX,x.strip.chk=x.chk
 | .mk false a l k=>by
  rw [SX.strip,SX.chk,SX.chk,SX.strips_map,List.length_map]
 | .mk true a l k=>by rw [SX.strip,SX.chk,SX.chk,SX.chks_strip l]
theorem SX.chks_strip:∀l:List SX,SX.chks (SX.strips l)=SX.chks l
 | []=>rfl
 | x::l=>by rw [SX.strips,SX.chks,SX.chks,SX.chk_strip x,SX.chks_strip l]
end
theorem fB (l:List SX) (k:SK):(fp l k).strip=fp (l.map SX.strip) .nil:=by rw [fp,SX.strip,SX.strips_map];rfl
theorem HQ (c:aW) (h1:1≤c.kind) (h2:c.kind≤7):(Fk c).strip=(lq c).strip:=by
 have h:(fR c.kind::gn c).map SX.strip=(kH c).map SX.strip:=by
  have e1:(jE c.over).strip=(nF c.over).strip:=by rw [jE,nF,fB,fB]
  have e2:(ny c.lines).strip=(nz c.lines).strip:=by rw [ny,nz,fB,fB]
  have hk:c.kind=1∨c.kind=2∨c.kind=3∨c.kind=4∨c.kind=5∨c.kind=6∨c.kind=7:=by omega
  rcases hk with hk | hk | hk | hk | hk | hk | hk<;>simp [gn,kH,mO,jH,yM,hk,e1,e2]
 rw [Fk,lq,fB,fB,h]
theorem Co (p:aA) (hd:∀d∈p.deps,bz d.d=false) (hc:∀c∈p.changes,1≤c.kind∧c.kind≤7):(gx p).strip=(dC p).strip:=by
 have e1:(p.deps.map fun d=>p6 d.d)=(p.deps.map fun d=>jB d.d):=List.map_congr_left fun d h=>by rw [p6,jB,hd d h];rfl
 have e2:(p.changes.map Fk).map SX.strip=(p.changes.map lq).map SX.strip:=by
  rw [List.map_map,List.map_map];exact List.map_congr_left fun c h=>HQ c (hc c h).1 (hc c h).2
 rw [gx,dC,fB,fB]
 simp only [List.map_cons,List.map_nil,fB,e1,e2]
mutual
def SX.dep:SX→Nat
 | .mk _ _ l _=>SX.deps l+1
def SX.deps:List SX→Nat
 | []=>0
 | x::l=>max (SX.dep x) (SX.deps l)
end
mutual
theorem SX.ms_ok:∀(x:SX) (lv c:Int),c+x.nodes≤20000→lv+x.dep≤13→∃c',c<c'∧c'≤c+x.nodes∧x.ms lv c false=(c',false)
 | .mk b a l k,lv,c,h1,h2=>by
  rw [SX.nodes] at h1 ⊢
  rw [SX.dep] at h2
  have g1:decide (20000<c+1)=false:=by simp;omega
  have g2:decide (12<lv)=false:=by simp;omega
  rw [SX.ms,g1,g2]
  cases b with
  | false=>exact ⟨c+1,by omega,by omega,rfl⟩
  | true =>
   obtain ⟨c',h3,h4,h5⟩:=SX.mss_ok l lv (c+1) (by omega) (by omega)
   exact ⟨c',by omega,by omega,by simpa using h5⟩
theorem SX.mss_ok:∀(l:List SX) (lv c:Int),c+SX.nodess l≤20000→lv+1+SX.deps l≤13→∃c',c≤c'∧c'≤c+SX.nodess l∧SX.mss l lv c false=(c',false)
 | [],lv,c,_,_=>⟨c,by omega,by simp [SX.nodess],rfl⟩
 | x::l,lv,c,h1,h2=>by
  rw [SX.nodess] at h1 ⊢
  rw [SX.deps] at h2
  obtain ⟨c1,a1,a2,a3⟩:=SX.ms_ok x (lv+1) c (by omega) (by omega)
  obtain ⟨c2,b1,b2,b3⟩:=SX.mss_ok l lv c1 (by omega) (by omega)
  refine ⟨c2,by omega,by omega,?_⟩
  rw [SX.mss,a3]
  simpa using b3
end
theorem SX.deps_le {d:Nat}:∀{l:List SX},(∀x∈l,x.dep≤d)→SX.deps l≤d
 | [],_=>by simp [SX.deps]
 | x::l,h=>by
  rw [SX.deps]
  have:=h x (by simp)
  have:=SX.deps_le (l:=l) fun y hy=>h y (by simp [hy])
  omega
theorem ka {l:List SX} {k:SK} {d:Nat} (h:∀x∈l,x.dep≤d):(fp l k).dep≤d+1:=by
 rw [fp,SX.dep];have:=SX.deps_le h;omega
theorem lx (s:List UInt8):(bO s).dep=1:=rfl
theorem xv (n:Int):(fR n).dep=1:=rfl
theorem IM (d:List Nat):(jB d).dep=1:=by unfold jB;split<;>rfl
theorem CD (x:aC):(dI x).dep≤2:=ka fun y hy=>by
 simp only [List.mem_cons,List.not_mem_nil,or_false] at hy
 rcases hy with rfl | rfl
 ·rw [IM];omega
 ·rw [xv];omega
theorem F8 (l:List aC):(jE l).dep≤3:=ka fun y hy=>by
 obtain ⟨x,_,rfl⟩:=List.mem_map.1 hy
 exact CD x
theorem DG (l:List (List UInt8)):(ny l).dep≤3:=ka fun y hy=>by
 obtain ⟨x,_,rfl⟩:=List.mem_map.1 hy
 rw [lx];omega
theorem Lx (c:aW):(Fk c).dep≤4:=ka fun y hy=>by
 have a1:=xv
 have a2:=lx
 have a3:=CD
 have a4:=F8 c.over
 have a5:=DG c.lines
 unfold gn at hy
 repeat' split at hy
 all_goals
  simp only [List.mem_cons,List.not_mem_nil,or_false] at hy
  rcases hy with rfl | hy
  ·rw [a1];omega
  first
   | (subst hy;first | exact a4 | (rw [a1];omega))
   | (rcases hy with rfl | rfl | rfl | rfl
      all_goals first | exact a4 | exact a5 | (rw [a1];omega) | (rw [a2];omega) | (exact Nat.le_trans (a3 _) (by decide)))
   | (rcases hy with rfl | rfl | rfl
      all_goals first | exact a4 | exact a5 | (rw [a1];omega) | (rw [a2];omega) | (exact Nat.le_trans (a3 _) (by decide)))
theorem F9 (p:aA):(gx p).dep≤6:=ka fun y hy=>by
 simp only [List.mem_cons,List.not_mem_nil,or_false] at hy
 rcases hy with rfl | rfl | rfl | rfl | rfl | rfl
 ·rw [lx];omega
 ·rw [lx];omega
 ·rw [lx];omega
 ·rw [xv];omega
 ·refine ka fun y hy=>?_
  obtain ⟨x,_,rfl⟩:=List.mem_map.1 hy
  rw [p6,lx];omega
 ·refine ka fun y hy=>?_
  obtain ⟨x,_,rfl⟩:=List.mem_map.1 hy
  exact Lx x
def co:List aW→List aG→List aG
 | [],own=>own
 | c::l,own=>co l (own++cH c own.length)
theorem AR:∀(l:List aW) (own:List aG),(j6 l own).1=0→(j6 l own).2=co l own∧∀(i:Nat) (c:aW),l[i]?=some c→gW c=0∧lJ c (co (l.take i) own)=0
 | [],own,_=>⟨rfl,fun i c h=>by simp at h⟩
 | c::l,own,h=>by
  rw [j6] at h ⊢
  by_cases h1:gW c=0
  ·by_cases h2:lJ c own=0
   ·rw [if_neg (by simp [h1]),if_neg (by simp [h2])] at h ⊢
    obtain ⟨a,b⟩:=AR l _ h
    refine ⟨a,fun i c' hc=>?_⟩
    cases i with
    | zero=>simp at hc;subst hc;exact ⟨h1,h2⟩
    | succ i=>exact b i c' (by simpa using hc)
   ·rw [if_neg (by simp [h1]),if_pos h2] at h;exact absurd h h2
  ·rw [if_pos h1] at h;exact absurd h h1
theorem jX:∀(l m:List aW) (own:List aG),co (l++m) own=co m (co l own)
 | [],m,own=>rfl
 | c::l,m,own=>by rw [List.cons_append,co,co,jX l m]
theorem xh {l:List aW} {i:Nat} {c:aW} (h:l[i]?=some c):co (l.take (i+1)) []=co (l.take i) []++cH c (co (l.take i) []).length:=by
 rw [List.take_add_one,h,jX];rfl
theorem kM:∀(l:List aW) (own:List aG),own.length≤(co l own).length
 | [],own=>Nat.le_refl _
 | c::l,own=>by
  rw [co]
  have:=kM l (own++cH c own.length)
  simp only [List.length_append] at this
  omega
theorem su (l:List aW) (i:Nat):(co (l.take i) []).length≤(co l []).length:=by
 have h:=jX (l.take i) (l.drop i) []
 rw [List.take_append_drop] at h
 rw [h];exact kM _ _
theorem Je {c:aW} {first i:Nat} {y:aG} (h:(cH c first)[i]?=some y):y.id=bj ((first+i:Nat):Int):=by
 have one:∀z:aG,z.id=bj (first:Int)→[z][i]?=some y→y.id=bj ((first+i:Nat):Int):=by
  intro z hz hy
  cases i with
  | zero=>simp at hy;subst hy;exact hz
  | succ i=>simp at hy
 unfold cH at h
 repeat' split at h
 all_goals first
  | exact one _ rfl h
  | skip
 rcases Nat.lt_or_ge i c.lines.length with hi | hi
 ·rw [List.getElem?_append_left (by simpa using hi),List.getElem?_map,List.getElem?_range hi] at h
  simp only [Option.map_some,Option.some.injEq] at h
  subst h;rfl
 ·rw [List.getElem?_append_right (by simpa using hi),List.getElem?_map,List.length_map,List.length_range] at h
  rcases Nat.lt_or_ge (i-c.lines.length) (c.lines.length+1) with hj | hj
  ·rw [List.getElem?_range hj] at h
   simp only [Option.map_some,Option.some.injEq] at h
   subst h
   show bj _=_
   congr 2;omega
  ·rw [List.getElem?_eq_none (by simpa using hj)] at h;cases h
theorem l6:∀(l:List aW) (own:List aG),(∀(i:Nat) (y:aG),own[i]?=some y→y.id=bj (i:Int))→∀(i:Nat) (y:aG),(co l own)[i]?=some y→y.id=bj (i:Int)
 | [],own,h=>h
 | c::l,own,h=>by
  refine l6 l _ fun i y hy=>?_
  rcases Nat.lt_or_ge i own.length with hi | hi
  ·rw [List.getElem?_append_left hi] at hy;exact h i y hy
  ·rw [List.getElem?_append_right hi] at hy
   rw [Je hy];congr 2;omega
structure aA.Good (p:aA):Prop where
 fit:p.Fit
 ok:bt p=0
 n:(aT p).length≤90000
theorem aA.Good.check {p:aA} (h:p.Good):j5 p=0:=by
 have:=h.ok
 unfold bt at this
 split at this
 ·omega
 ·omega
theorem aA.Good.encode {p:aA} (h:p.Good):vj (dC p)=0∧(dC p).enc.length≤65536:=by
 have h1:=h.ok
 rw [bt,if_neg (by simp [h.check])] at h1
 unfold gU at h1
 split at h1
 ·omega
 ·rename_i h2;omega
theorem aA.Good.headE {p:aA} (h:p.Good):headE p=0:=by
 have:=h.check
 unfold j5 at this
 split at this
 ·omega
 ·omega
theorem aA.Good.chg {p:aA} (h:p.Good):(j6 p.changes []).1=0:=by
 have:=h.check
 rw [j5,if_neg (by simp [h.headE])] at this
 exact this
theorem aA.Good.atoms {p:aA} (h:p.Good):aT p=co p.changes []:=by
 rw [aT,if_neg (by simp [h.headE])];exact (AR _ _ h.chg).1
theorem aA.Good.change {p:aA} (h:p.Good) {i:Nat} {c:aW} (hc:p.changes[i]?=some c):c.Good∧lJ c (co (p.changes.take i) [])=0 :=
 have:=(AR _ _ h.chg).2 i c hc
 ⟨IZ this.1,this.2⟩
theorem aA.Good.good {p:aA} (h:p.Good) {c:aW} (hc:c∈p.changes):c.Good:=by
 obtain ⟨i,hi,rfl⟩:=List.getElem_of_mem hc
 exact (h.change (List.getElem?_eq_getElem hi)).1
theorem aA.Good.head {p:aA} (h:p.Good):CF p=0∧p.changes.length≠0∧p.changes.length≤400∧ir none p.deps=0∧p.deps.length≤100:=by
 have h0:=h.headE
 unfold Ev.headE at h0
 split at h0
 ·omega
 rename_i h1
 split at h0
 ·omega
 rename_i h2
 split at h0
 ·omega
 rename_i h3
 split at h0
 ·omega
 rename_i h4
 split at h0
 ·omega
 rename_i h5
 split at h0
 ·omega
 rename_i h6
 have h4':p7 p.deps=0:=by omega
 unfold p7 at h4'
 split at h4'
 ·omega
 rename_i h7
 have h3':¬(p.time<0∨1099511627776<p.time):=by simpa using h3
 refine ⟨?_,h5,by omega,h4',by omega⟩
 rw [CF,zw,if_neg h1,if_neg (by omega),if_neg h3',if_neg (by omega),if_neg (by simp [h4']),if_neg h5,if_neg (by omega)]
theorem tJ:∀(l:List ar) (a:Option ar),ir a l=0→∀d∈l,bz d.d=false
 | [],_,_,d,hd=>by cases hd
 | x::l,a,h,d,hd=>by
  have key:bz x.d=false∧ir (some x) l=0:=by
   cases hz:bz x.d with
   | true=>cases a<;>simp [ir,hz] at h
   | false =>
    refine ⟨rfl,?_⟩
    cases a with
    | none=>simpa [ir,hz] using h
    | some y =>
     by_cases hc:0≤bQ y.d x.d
     ·simp [ir,hz,hc] at h
     ·simpa [ir,hz,hc] using h
  rcases List.mem_cons.1 hd with rfl | hd
  ·exact key.1
  ·exact tJ l _ key.2 d hd
theorem aA.Good.tree {p:aA} (h:p.Good):oV (gx p)=0∧(gx p).enc=(dC p).enc∧p.OkP:=by
 obtain ⟨_,_,h400,hdl,_⟩:=h.head
 have hd:=tJ _ _ hdl
 have hc:∀c∈p.changes,1≤c.kind∧c.kind≤7:=fun c hc=>⟨(h.good hc).k1,(h.good hc).k7⟩
 have hs:=Co p hd hc
 obtain ⟨he,_⟩:=h.encode
 unfold vj at he
 split at he
 ·omega
 rename_i hcnt
 have hn:=(SX.cnt_n _ (dC p) 20000 12 (Nat.le_refl _) (by omega)).2.2 he (by omega)
 have hnod:(gx p).nodes=(dC p).nodes:=by rw [←SX.nodes_strip,hs,SX.nodes_strip]
 have hchk:(gx p).chk=0:=by rw [←SX.chk_strip,hs,SX.chk_strip];exact he
 have hdep:=F9 p
 obtain ⟨c',_,_,h5⟩:=SX.ms_ok (gx p) 1 0 (by omega) (by omega)
 refine ⟨by rw [oV,h5];simpa using hchk,Gd p hd hc,⟨h.fit.ok2.deps,h.fit.ok2.changesN,fun c hcm=>⟨h.fit.ok2.changes c hcm,hc c hcm⟩,by omega⟩⟩
end Go.Proofs.Ev
