/- Part 27 of the proof that quiltlaw38.BlameTouching returns true: no statement of its own. -/
import Derived.Test.YtbpaeodbnleoaaaGreatDoorT26
import Derived.Test.YtbpaeodbnleoaaaGreatDoorT25
import Derived.Test.YtbpaeodbnleoaaaGreatDoorT23
import Derived.Test.YtbpaeodbnleoaaaGreatDoorT19
import Derived.Test.YtbpaeodbnleoaaaGreatDoorTie
import Derived.JoinedCond
import Derived.KernelRfl
set_option linter.all false
namespace Go.Proofs.Ev
open Go.Proofs
variable {C:bG} {σ:aZ} {e:List fX→List fX}
def yn (σ:aZ) (s:List ah) (d:aI):Bool:=gO (iR σ s (dC σ s)) d
def Ca (σ:aZ) (s:List ah) (file:aI):List aH:=(dC σ s).filter (zD file)
def EY (σ:aZ) (s:List ah) (file:aI):List aH:=(dC σ s).filter (u9 (yn σ s) file)
def ofV (σ:aZ) (s:List ah) (file:aI):List (List AV):=(Ca σ s file).map (jT (yn σ s))
def OG (σ:aZ) (s:List ah) (file:aI):List (aI×Int):=ql [(file,-1)] 0 (Ca σ s file)
def JS (σ:aZ) (e:List fX→List fX) (s:List ah) (file:aI):List fX:=cd (e ((EY σ s file).map (zc (OG σ s file))))
set_option maxRecDepth 100000 in
set_option maxHeartbeats 8000000 in
theorem HM (S:gR C σ e) (s0:List ah) (k:SK) (file:aI) (hs:b8 s0) (h8:s0.length≤8) (hup:Up (dC σ s0)) :
 cE Tryz.prog C 9 [] [aw k (s0.map ah.cells),.agg file.cells] (if nP σ s0 file=0 then .tup [.agg [aw (dS (ofV σ s0 file)) (ofV σ s0 file),aw (dS (JS σ e s0 file)) ((JS σ e s0 file).map fX.cells)],.int .i64 0] else .tup [.agg [.nils,.nils],.int .i64 (nP σ s0 file)]):=by
 refine aB (S.pureY _ (by decide)) fun H=>am Tryz.func9 rfl (S.prim _ (by decide)) (by simp) (by kernel_rfl) ?_
 unfold Tryz.f9
 have et:=(yb S.toeR s0 k file hs).eq
 have ea:=(uF S.tobY (k:=k) hs h8 hup).eq
 have hLl:=nD hs h8 (List.Perm.refl (dC σ s0))
 obtain ⟨J,el⟩:=yx S.toeR (k:=k) hs h8 hup (base:=H.length) (H:=H++[.rows 33 0 [file.cells],.rows 2 0 [[.nils,.nils]]]) (by simp)
 obtain ⟨AL,hAL⟩:∃AL,AL=lF (iR σ s0 (dC σ s0)):=⟨_,rfl⟩
 have hal:∀d,gO AL d=yn σ s0 d:=fun d=>by rw [hAL,Ew];rfl
 rw [←hAL] at el
 obtain ⟨v0,hv0⟩:∃v0,v0=aw k (s0.map ah.cells):=⟨_,rfl⟩
 rw [←hv0] at et ea el ⊢
 refine cut (fun s X=>s 0=v0∧s 3=.ptr H.length 0 33 0 0∧s 4=.ptr (H.length+1) 0 2 0 0∧X=H++[.rows 33 0 [file.cells],.rows 2 0 [[.nils,.nils]]]) ?_ ?_
 ·simp [aG]
 rintro s X ⟨q0,q3,q4,rfl⟩
 by_cases he:nP σ s0 file=0
 rotate_left
 ·rw [if_neg he]
  simp [q0,q3,q4,et,he,aE,ao]
  exact bN (by simp [aJ,AV.closed]) (by simp)
 rw [if_pos he]
 rw [he] at et
 refine cut (fun s X=>s 0=v0∧s 3=.ptr H.length 0 33 0 0∧s 4=.ptr (H.length+1) 0 2 0 0∧X=H++[.rows 33 0 [file.cells],.rows 2 0 [[.nils,.nils]]]) ?_ ?_
 ·simp [q0,q3,q4,et]
 clear q0 q3 q4
 rintro s X ⟨q0,q3,q4,rfl⟩
 refine cut (fun s X=>s 0=v0∧s 3=.ptr H.length 0 33 0 0∧s 4=.ptr (H.length+1) 0 2 0 0∧s 7=.map (H.length+2)∧X=H++[.rows 33 0 [file.cells],.rows 2 0 [[.nils,.nils]]]++.map (cC (iY AL))::J) ?_ ?_
 ·simp [q0,q3,q4,el]
 clear q0 q3 q4
 rintro s X ⟨q0,q3,q4,q7,hX⟩
 have g0:X[H.length]?=some (.rows 33 0 [file.cells]):=by rw [hX];simp
 have g1:X[H.length+1]?=some (.rows 2 0 [[.nils,.nils]]):=by rw [hX];simp
 have g2:X[H.length+2]?=some (.map (cC (iY AL))):=by rw [hX];simp
 have hXl:H.length+3≤X.length:=by rw [hX];simp;try omega
 clear hX el
 have f0:ax X H.length 0 33 0=some file.cells:=by simp [ax,g0]
 have eu0:=DL S.toaA (base:=H.length) (X:=X++[.map []]) (m:=X.length) (l:=[]) (by omega) (by simp [cC,kR]) file (-1)
 have hT0:qL [] file (-1)=[(file,-1)]:=rfl
 rw [hT0] at eu0
 refine cut (fun s Y=>s 0=v0∧s 3=.ptr H.length 0 33 0 0∧s 4=.ptr (H.length+1) 0 2 0 0∧s 7=.map (H.length+2)∧s 8=.map X.length∧Y=X++[.map (cC (kR [(file,-1)]))]) ?_ ?_
 ·simp [q0,q3,q4,q7,bH f0,eu0]
 clear q0 q3 q4 q7
 rintro s Y ⟨q0,q3,q4,q7,q8,hY⟩
 refine cut (fun s Y=>s 0=v0∧s 3=.ptr H.length 0 33 0 0∧s 4=.ptr (H.length+1) 0 2 0 0∧s 7=.map (H.length+2)∧s 8=.map X.length∧s 9=.ptr (X.length+1) 0 2 0 0∧Y=X++[.map (cC (kR [(file,-1)])),.rows 2 0 [[.nils,.nils]]]) ?_ ?_
 ·rw [hY];simp [q0,q3,q4,q7,q8]
 clear q0 q3 q4 q7 q8 hY Y
 rintro s Y ⟨q0,q3,q4,q7,q8,q9,hY⟩
 have gX:∀{b:Nat} {blk:bQ},X[b]?=some blk→Y[b]?=some blk:=fun h=>by rw [hY,List.getElem?_append_left (List.getElem?_eq_some_iff.1 h).1];exact h
 have hO0:AO H.length (X.length+2) H.length (H.length+1) (H.length+2) X.length (X.length+1) file AL [(file,-1)] [] [] Y :=
  ⟨by rw [hY];exact bH f0 _,gX g1,gX g2,by rw [hY];simp,⟨.nils,.nils,by rw [hY];simp,.inl ⟨rfl,rfl⟩,.inl ⟨rfl,rfl⟩⟩,by rw [hY];simp;omega⟩
 clear hY gX g0 g1 g2 f0 eu0
 obtain ⟨xl,hxl⟩:∃xl,xl=X.length:=⟨_,rfl⟩
 rw [←hxl] at q8 q9 hO0
 obtain ⟨L,hL⟩:∃L,L=dC σ s0:=⟨_,rfl⟩
 rw [←hL] at ea hLl
 refine cut (fun s Z=>s 3=.ptr H.length 0 33 0 0∧s 4=.ptr (H.length+1) 0 2 0 0∧s 7=.map (H.length+2)∧s 8=.map xl∧s 9=.ptr (xl+1) 0 2 0 0∧s 10=aw (dS L) (L.map aH.cells)∧Z=Y) ?_ ?_
 ·simp [q0,q3,q4,q7,q8,q9,ea]
 clear q0 q3 q4 q7 q8 q9
 rintro s Z ⟨q3,q4,q7,q8,q9,q10,hZ⟩
 rw [hZ];clear hZ Z
 have eqi:=jk S.toaA
 obtain ⟨al,hald⟩:∃al,al=yn σ s0:=⟨_,rfl⟩
 rw [←hald] at hal
 refine cut (fun s Z=>s 3=.ptr H.length 0 33 0 0∧s 4=.ptr (H.length+1) 0 2 0 0∧s 7=.map (H.length+2)∧s 8=.map xl∧s 9=.ptr (xl+1) 0 2 0 0∧s 10=aw (dS L) (L.map aH.cells)∧AO H.length (xl+2) H.length (H.length+1) (H.length+2) xl (xl+1) file AL (ql [(file,-1)] 0 (L.filter (zD file))) ((L.filter (zD file)).map (jT al)) [] Z) ?_ ?_
 ·refine cut (fun s Z=>s 3=.ptr H.length 0 33 0 0∧s 4=.ptr (H.length+1) 0 2 0 0∧s 7=.map (H.length+2)∧s 8=.map xl∧s 9=.ptr (xl+1) 0 2 0 0∧s 10=aw (dS L) (L.map aH.cells)∧s 29=aw (dS L) (L.map aH.cells)∧s 30=.int .i64 L.length∧s 31=.int .i64 0∧Z=Y) ?_ ?_
  ·simp [q3,q4,q7,q8,q9,q10]
  clear q3 q4 q7 q8 q9 q10
  rintro s Z ⟨q3,q4,q7,q8,q9,q10,q29,q30,q31,hZ⟩
  rw [hZ];clear hZ Z
  rw [cq,iW]
  refine az L.length (fun i s Z=>s 3=.ptr H.length 0 33 0 0∧s 4=.ptr (H.length+1) 0 2 0 0∧s 7=.map (H.length+2)∧s 8=.map xl∧s 9=.ptr (xl+1) 0 2 0 0∧s 10=aw (dS L) (L.map aH.cells)∧s 29=aw (dS L) (L.map aH.cells)∧s 30=.int .i64 L.length∧s 31=.int .i64 i∧AO H.length (xl+2) H.length (H.length+1) (H.length+2) xl (xl+1) file AL (ql [(file,-1)] 0 ((L.take i).filter (zD file))) (((L.take i).filter (zD file)).map (jT al)) [] Z) ?_ ?_
  ·exact ⟨q3,q4,q7,q8,q9,q10,q29,q30,q31,by simpa [ql] using hO0⟩
  clear q3 q4 q7 q8 q9 q10 q29 q30 q31 hO0 Y
  rintro i s Y ⟨q3,q4,q7,q8,q9,q10,q29,q30,q31,hO⟩ hi
  by_cases h:i<L.length
  rotate_left
  ·have h':i=L.length:=by omega
   subst h'
   rw [List.take_length] at hO
   simp [q3,q4,q7,q8,q9,q10,q29,q30,q31]
   exact hO
  obtain ⟨x,hx⟩:∃x,x=L[i]:=⟨_,rfl⟩
  have hsn:=vU (zD file) L h
  rw [←hx] at hsn
  have hfl:((L.take i).filter (zD file)).length≤i:=by
   have h1:=List.length_filter_le (zD file) (L.take i)
   have h2:(L.take i).length≤i:=by simp;omega
   omega
  obtain ⟨F,hF⟩:∃F,F=(L.take i).filter (zD file):=⟨_,rfl⟩
  rw [←hF] at hO hsn hfl
  have hlow:=hO.low
  have hbY:H.length≤Y.length:=by omega
  have w31:=ay h (by omega)
  refine cut (fun s Z=>s 3=.ptr H.length 0 33 0 0∧s 4=.ptr (H.length+1) 0 2 0 0∧s 7=.map (H.length+2)∧s 8=.map xl∧s 9=.ptr (xl+1) 0 2 0 0∧s 10=aw (dS L) (L.map aH.cells)∧s 29=aw (dS L) (L.map aH.cells)∧s 30=.int .i64 L.length∧s 31=.int .i64 i∧s 32=.bool true∧Z=Y) ?_ ?_
  ·simp [q3,q4,q7,q8,q9,q10,q29,q30,q31,h]
  clear q3 q4 q7 q8 q9 q10 q29 q30 q31
  rintro s Z ⟨q3,q4,q7,q8,q9,q10,q29,q30,q31,q32,hZ⟩
  rw [hZ];clear hZ Z
  refine cut (fun s Z=>s 3=.ptr H.length 0 33 0 0∧s 4=.ptr (H.length+1) 0 2 0 0∧s 7=.map (H.length+2)∧s 8=.map xl∧s 9=.ptr (xl+1) 0 2 0 0∧s 10=aw (dS L) (L.map aH.cells)∧s 29=aw (dS L) (L.map aH.cells)∧s 30=.int .i64 L.length∧s 31=.int .i64 i∧Z=Y) ?_ ?_
  ·simp [q3,q4,q7,q8,q9,q10,q29,q30,q31,q32]
  clear q3 q4 q7 q8 q9 q10 q29 q30 q31 q32
  rintro s Z ⟨q3,q4,q7,q8,q9,q10,q29,q30,q31,hZ⟩
  rw [hZ];clear hZ Z
  refine cut (fun s Z=>s 3=.ptr H.length 0 33 0 0∧s 4=.ptr (H.length+1) 0 2 0 0∧s 7=.map (H.length+2)∧s 8=.map xl∧s 9=.ptr (xl+1) 0 2 0 0∧s 10=aw (dS L) (L.map aH.cells)∧s 29=aw (dS L) (L.map aH.cells)∧s 30=.int .i64 L.length∧s 31=.int .i64 i∧AO H.length (xl+2) H.length (H.length+1) (H.length+2) xl (xl+1) file AL (ql [(file,-1)] 0 (F++if zD file x then [x] else [])) ((F++if zD file x then [x] else []).map (jT al)) [] Z) ?_ ?_
  rotate_left
  ·rintro s Z ⟨q3,q4,q7,q8,q9,q10,q29,q30,q31,hO⟩
   simp [q3,q4,q7,q8,q9,q10,q29,q30,q31,w31]
   rw [hsn]
   exact ⟨h,hO⟩
  rw [cq]
  refine cut (fun s Z=>s 3=.ptr H.length 0 33 0 0∧s 4=.ptr (H.length+1) 0 2 0 0∧s 7=.map (H.length+2)∧s 8=.map xl∧s 9=.ptr (xl+1) 0 2 0 0∧s 10=aw (dS L) (L.map aH.cells)∧s 29=aw (dS L) (L.map aH.cells)∧s 30=.int .i64 L.length∧s 31=.int .i64 i∧s 12=.ptr Y.length 0 172 0 0∧Z=Y++[.rows 172 0 [x.cells]]) ?_ ?_
  ·simp [q3,q4,q7,q8,q9,q10,q29,q30,q31,h,←hx,ao,aE,hbY]
  clear q3 q4 q7 q8 q9 q10 q29 q30 q31
  rintro s Z ⟨q3,q4,q7,q8,q9,q10,q29,q30,q31,q12,hZ⟩
  have hO1:=hO.app [.rows 172 0 [x.cells]]
  rw [←hZ] at hO1
  have hxr:ax Z Y.length 0 172 0=some x.cells:=by rw [hZ];simp
  have hZl:Y.length<Z.length:=by rw [hZ];simp
  clear hZ
  have hfr:=hO1.hf
  cases hln:zD file x with
  | false =>
   rw [if_neg (by decide),List.append_nil]
   unfold zD at hln
   by_cases hk:x.kind=5
   ·have hsf:aF x.file file=false:=by simpa [hk] using hln
    simp [q3,q4,q7,q8,q9,q10,q29,q30,q31,q12,hxr,an,hk,hfr,eqi,hsf]
    exact hO1
   ·have hkb:(x.kind==5)=false:=by simpa using hk
    simp [q3,q4,q7,q8,q9,q10,q29,q30,q31,q12,hxr,an,hk,hkb]
    exact hO1
  | true =>
   rw [if_pos rfl]
   unfold zD at hln
   rw [Bool.and_eq_true,decide_eq_true_eq] at hln
   obtain ⟨hk,hsf⟩:=hln
   obtain ⟨T,hT⟩:∃T,T=ql [(file,-1)] 0 F:=⟨_,rfl⟩
   have hTs:ql [(file,-1)] 0 (F++[x])=qL T x.id (F.length:Int):=by rw [v6,←hT,Nat.zero_add]
   rw [hTs,List.map_append]
   rw [←hT] at hO1
   have eu:=DL S.toaA (base:=H.length) (by omega) hO1.hI x.id (F.length:Int)
   obtain ⟨v,u,v',X2,X3,ho,eap,est,hO3,hl3⟩:=hO1.line S (qL T x.id (F.length:Int)) (row:=jT al x) (by simp) (by simp;omega)
   obtain ⟨v2,u2,ho2,hv2,_⟩:=hO1.o
   have hvv:v2=v:=by rw [ho] at ho2;cases ho2;rfl
   rw [hvv] at hv2
   obtain ⟨Z1,hZ1⟩:∃Z1,Z1=Z.set xl (.map (cC (kR (qL T x.id (F.length:Int))))):=⟨_,rfl⟩
   rw [←hZ1] at eu eap
   have k1r:∀{b e:Nat} {r:List AV},b≠xl→ax Z b 0 e 0=some r→ax Z1 b 0 e 0=some r:=fun hb h=>by
    unfold ax at h ⊢
    rw [hZ1,List.getElem?_set_ne (Ne.symm hb)];exact h
   have hA1:Z1[H.length+2]?=some (.map (cC (iY AL))):=by rw [hZ1,List.getElem?_set_ne (by omega)];exact hO1.hA
   have or:ax Z (xl+1) 0 2 0=some [v,u]:=by simp [ax,ho]
   have or1:=k1r (by omega) or
   have hxr1:=k1r (by omega) hxr
   have hlk:=un S.toaA hA1 x.id
   rw [hal] at hlk
   refine cut (fun s W=>s 12=.ptr Y.length 0 172 0 0∧s 43=.bool true∧s 3=.ptr H.length 0 33 0 0∧s 4=.ptr (H.length+1) 0 2 0 0∧s 7=.map (H.length+2)∧s 8=.map xl∧s 9=.ptr (xl+1) 0 2 0 0∧s 10=aw (dS L) (L.map aH.cells)∧s 29=aw (dS L) (L.map aH.cells)∧s 30=.int .i64 L.length∧s 31=.int .i64 i∧W=Z) ?_ ?_
   ·simp [q3,q4,q7,q8,q9,q10,q29,q30,q31,q12,hxr,an,hk,hfr,eqi,hsf]
   clear q3 q4 q7 q8 q9 q10 q29 q30 q31 q12
   rintro s W ⟨q12,q43,q3,q4,q7,q8,q9,q10,q29,q30,q31,hW⟩
   rw [hW];clear hW W
   have h34:∀a b:AV,List.drop 34 (x.id.cells++[a,b])=[b]:=fun a b=>by rw [show x.id.cells++[a,b]=(x.id.cells++[a])++[b] by simp,List.drop_left' (by simp)]
   have t34:∀a b:AV,List.take 34 (x.id.cells++[a,b])=x.id.cells++[a]:=fun a b=>by rw [show x.id.cells++[a,b]=(x.id.cells++[a])++[b] by simp,List.take_left' (by simp)]
   have d35:∀a b:AV,List.drop 35 (x.id.cells++[a,b])=[]:=fun a b=>List.drop_of_length_le (by simp)
   have hvx:x.id.cells++[.str x.text,.bool (al x.id)]=jT al x:=rfl
   rcases hv2 with ⟨hF0,hv⟩ | ⟨hF1,b,g,hv,hbk,hlo⟩
   ·have hF':F=[]:=List.map_eq_nil_iff.1 hF0
    rw [hv] at or or1 eap
    rw [hF',show (([]:List aH).length:Int)=0 from rfl] at eu
    simp only [AV.denil] at eap
    simp [q3,q4,q7,q8,q9,q10,q29,q30,q31,q12,q43,hxr,or,eu,or1,hxr1,hlk,aj,au,aE,h34,t34,d35,hvx,eap]
    rw [aN (h:=by kernel_rfl)]
    simp [q3,q4,q7,q8,q9,q10,q29,q30,q31,est]
    refine ⟨u4 al x,?_⟩
    rw [aN (h:=by kernel_rfl)]
    simp [q3,q4,q7,q8,q9,q10,q29,q30,q31]
    exact hO3
   ·rw [List.length_map] at hv
    rw [hv] at or or1 eap
    simp only [AV.denil] at eap
    simp [q3,q4,q7,q8,q9,q10,q29,q30,q31,q12,q43,hxr,or,eu,or1,hxr1,hlk,aj,au,aE,h34,t34,d35,hvx,eap]
    rw [aN (h:=by kernel_rfl)]
    simp [q3,q4,q7,q8,q9,q10,q29,q30,q31,est]
    refine ⟨u4 al x,?_⟩
    rw [aN (h:=by kernel_rfl)]
    simp [q3,q4,q7,q8,q9,q10,q29,q30,q31]
    exact hO3
 clear q3 q4 q7 q8 q9 q10 hO0 Y
 rintro s Y ⟨q3,q4,q7,q8,q9,q10,hO0⟩
 obtain ⟨T,hT⟩:∃T,T=ql [(file,-1)] 0 (L.filter (zD file)):=⟨_,rfl⟩
 obtain ⟨V,hV⟩:∃V,V=(L.filter (zD file)).map (jT al):=⟨_,rfl⟩
 have eT:OG σ s0 file=T:=by rw [hT,hL];rfl
 have eV:ofV σ s0 file=V:=by rw [hV,hL,hald];rfl
 have eE:JS σ e s0 file=cd (e ((L.filter (u9 al file)).map (zc T))):=by unfold JS EY;rw [eT,hL,hald]
 have cV:AV.closedss V=true:=by
  rw [hV]
  exact aM (CU al) _
 rw [←hT,←hV] at hO0
 rw [eV,eE]
 clear eT eV eE
 refine cut (fun s Z=>s 3=.ptr H.length 0 33 0 0∧s 4=.ptr (H.length+1) 0 2 0 0∧s 7=.map (H.length+2)∧s 8=.map xl∧s 9=.ptr (xl+1) 0 2 0 0∧s 10=aw (dS L) (L.map aH.cells)∧AO H.length (xl+2) H.length (H.length+1) (H.length+2) xl (xl+1) file AL T V ((L.filter (u9 al file)).map (zc T)) Z) ?_ ?_
 ·refine cut (fun s Z=>s 3=.ptr H.length 0 33 0 0∧s 4=.ptr (H.length+1) 0 2 0 0∧s 7=.map (H.length+2)∧s 8=.map xl∧s 9=.ptr (xl+1) 0 2 0 0∧s 10=aw (dS L) (L.map aH.cells)∧s 65=aw (dS L) (L.map aH.cells)∧s 66=.int .i64 L.length∧s 67=.int .i64 0∧Z=Y) ?_ ?_
  ·simp [q3,q4,q7,q8,q9,q10]
  clear q3 q4 q7 q8 q9 q10
  rintro s Z ⟨q3,q4,q7,q8,q9,q10,q65,q66,q67,hZ⟩
  rw [hZ];clear hZ Z
  rw [cq,iW]
  refine az L.length (fun i s Z=>s 3=.ptr H.length 0 33 0 0∧s 4=.ptr (H.length+1) 0 2 0 0∧s 7=.map (H.length+2)∧s 8=.map xl∧s 9=.ptr (xl+1) 0 2 0 0∧s 10=aw (dS L) (L.map aH.cells)∧s 65=aw (dS L) (L.map aH.cells)∧s 66=.int .i64 L.length∧s 67=.int .i64 i∧AO H.length (xl+2) H.length (H.length+1) (H.length+2) xl (xl+1) file AL T V (((L.take i).filter (u9 al file)).map (zc T)) Z) ?_ ?_
  ·exact ⟨q3,q4,q7,q8,q9,q10,q65,q66,q67,by simpa using hO0⟩
  clear q3 q4 q7 q8 q9 q10 q65 q66 q67 hO0 Y
  rintro i s Y ⟨q3,q4,q7,q8,q9,q10,q65,q66,q67,hO⟩ hi
  by_cases h:i<L.length
  rotate_left
  ·have h':i=L.length:=by omega
   subst h'
   rw [List.take_length] at hO
   simp [q3,q4,q7,q8,q9,q10,q65,q66,q67]
   exact hO
  obtain ⟨x,hx⟩:∃x,x=L[i]:=⟨_,rfl⟩
  have hsn:=vU (u9 al file) L h
  rw [←hx] at hsn
  have hfl:((L.take i).filter (u9 al file)).length≤i:=by
   have h1:=List.length_filter_le (u9 al file) (L.take i)
   have h2:(L.take i).length≤i:=by simp;omega
   omega
  obtain ⟨F,hF⟩:∃F,F=(L.take i).filter (u9 al file):=⟨_,rfl⟩
  rw [←hF] at hO hsn hfl
  have hlow:=hO.low
  have hbY:H.length≤Y.length:=by omega
  have w67:=ay h (by omega)
  refine cut (fun s Z=>s 3=.ptr H.length 0 33 0 0∧s 4=.ptr (H.length+1) 0 2 0 0∧s 7=.map (H.length+2)∧s 8=.map xl∧s 9=.ptr (xl+1) 0 2 0 0∧s 10=aw (dS L) (L.map aH.cells)∧s 65=aw (dS L) (L.map aH.cells)∧s 66=.int .i64 L.length∧s 67=.int .i64 i∧s 68=.bool true∧Z=Y) ?_ ?_
  ·simp [q3,q4,q7,q8,q9,q10,q65,q66,q67,h]
  clear q3 q4 q7 q8 q9 q10 q65 q66 q67
  rintro s Z ⟨q3,q4,q7,q8,q9,q10,q65,q66,q67,q68,hZ⟩
  rw [hZ];clear hZ Z
  refine cut (fun s Z=>s 3=.ptr H.length 0 33 0 0∧s 4=.ptr (H.length+1) 0 2 0 0∧s 7=.map (H.length+2)∧s 8=.map xl∧s 9=.ptr (xl+1) 0 2 0 0∧s 10=aw (dS L) (L.map aH.cells)∧s 65=aw (dS L) (L.map aH.cells)∧s 66=.int .i64 L.length∧s 67=.int .i64 i∧Z=Y) ?_ ?_
  ·simp [q3,q4,q7,q8,q9,q10,q65,q66,q67,q68]
  clear q3 q4 q7 q8 q9 q10 q65 q66 q67 q68
  rintro s Z ⟨q3,q4,q7,q8,q9,q10,q65,q66,q67,hZ⟩
  rw [hZ];clear hZ Z
  refine cut (fun s Z=>s 3=.ptr H.length 0 33 0 0∧s 4=.ptr (H.length+1) 0 2 0 0∧s 7=.map (H.length+2)∧s 8=.map xl∧s 9=.ptr (xl+1) 0 2 0 0∧s 10=aw (dS L) (L.map aH.cells)∧s 65=aw (dS L) (L.map aH.cells)∧s 66=.int .i64 L.length∧s 67=.int .i64 i∧AO H.length (xl+2) H.length (H.length+1) (H.length+2) xl (xl+1) file AL T V ((F++if u9 al file x then [x] else []).map (zc T)) Z) ?_ ?_
  rotate_left
  ·rintro s Z ⟨q3,q4,q7,q8,q9,q10,q65,q66,q67,hO⟩
   simp [q3,q4,q7,q8,q9,q10,q65,q66,q67,w67]
   rw [hsn]
   exact ⟨h,hO⟩
  rw [cq]
  refine cut (fun s Z=>s 3=.ptr H.length 0 33 0 0∧s 4=.ptr (H.length+1) 0 2 0 0∧s 7=.map (H.length+2)∧s 8=.map xl∧s 9=.ptr (xl+1) 0 2 0 0∧s 10=aw (dS L) (L.map aH.cells)∧s 65=aw (dS L) (L.map aH.cells)∧s 66=.int .i64 L.length∧s 67=.int .i64 i∧s 14=.ptr Y.length 0 172 0 0∧Z=Y++[.rows 172 0 [x.cells]]) ?_ ?_
  ·simp [q3,q4,q7,q8,q9,q10,q65,q66,q67,h,←hx,ao,aE,hbY]
  clear q3 q4 q7 q8 q9 q10 q65 q66 q67
  rintro s Z ⟨q3,q4,q7,q8,q9,q10,q65,q66,q67,q14,hZ⟩
  have hO1:=hO.app [.rows 172 0 [x.cells]]
  rw [←hZ] at hO1
  have hxr:ax Z Y.length 0 172 0=some x.cells:=by rw [hZ];simp
  clear hZ
  have hfr:=hO1.hf
  have hlk:=un S.toaA hO1.hA x.id
  rw [hal] at hlk
  by_cases hk:x.kind=6
  rotate_left
  ·have hkb:(x.kind==6)=false:=by simpa using hk
   have hln:u9 al file x=false:=by unfold u9;simp [hk]
   rw [hln,if_neg (by decide),List.append_nil]
   simp [q3,q4,q7,q8,q9,q10,q65,q66,q67,q14,hxr,an,hk,hkb]
   exact hO1
  cases hsf:aF x.file file with
  | false =>
   have hln:u9 al file x=false:=by unfold u9;simp [hsf]
   rw [hln,if_neg (by decide),List.append_nil]
   simp [q3,q4,q7,q8,q9,q10,q65,q66,q67,q14,hxr,an,hk,hfr,eqi,hsf]
   exact hO1
  | true =>
   cases hax:al x.id with
   | false =>
    have hln:u9 al file x=false:=by unfold u9;simp [hax]
    rw [hln,if_neg (by decide),List.append_nil]
    rw [hax] at hlk
    simp [q3,q4,q7,q8,q9,q10,q65,q66,q67,q14,hxr,an,hk,hfr,eqi,hsf,hlk]
    exact hO1
   | true =>
    have hln:u9 al file x=true:=by unfold u9;simp [hax,hsf,hk]
    rw [hln,if_pos rfl,List.map_append]
    rw [hax] at hlk
    obtain ⟨v,u,u',X2,X3,ho,eap,est,hO3,hl3⟩:=hO1.edge S (zc T x) (by simp;omega)
    have or:ax Z (xl+1) 0 2 0=some [v,u]:=by simp [ax,ho]
    obtain ⟨v2,u2,ho2,_,hu2⟩:=hO1.o
    have hvv:u2=u:=by rw [ho] at ho2;cases ho2;rfl
    rw [hvv] at hu2
    have hul:=hu2.leaf.1
    have hlf:=zH S.toaA hO1.hI x.frm
    have hlt:=zH S.toaA hO1.hI x.to
    have hec:(zc T x).cells=[.int .i64 (oB T x.frm),.int .i64 (oB T x.to)]:=rfl
    rw [hec] at eap
    simp [q3,q4,q7,q8,q9,q10,q65,q66,q67,q14,hxr,an,hk,hfr,eqi,hsf,hlk,or,hlf,hlt,hul,aj,au,aE,eap]
    rw [aN (h:=by kernel_rfl)]
    simp [q3,q4,q7,q8,q9,q10,q65,q66,q67,est]
    rw [aN (h:=by kernel_rfl)]
    simp [q3,q4,q7,q8,q9,q10,q65,q66,q67]
    exact hO3
 clear q3 q4 q7 q8 q9 q10 hO0 Y
 rintro s Y ⟨q3,q4,q7,q8,q9,q10,hO⟩
 obtain ⟨zf,zr,zA,zI,⟨v,u,zo,zv,zu⟩,zlow⟩:=hO
 obtain ⟨E,hE⟩:∃E,E=(L.filter (u9 al file)).map (zc T):=⟨_,rfl⟩
 rw [←hE] at zu ⊢
 have hEl:E.length≤L.length:=by rw [hE,List.length_map];exact List.length_filter_le _ _
 have or:ax Y (xl+1) 0 2 0=some [v,u]:=by simp [ax,zo]
 have hul:=zu.leaf
 have hvl:=zv.leaf
 have hgl:xl+1<Y.length:=(List.getElem?_eq_some_iff.1 zo).1
 have b1:H.length≤H.length+1:=by omega
 have b2:H.length≤xl+1:=by omega
 have fz:∀{Z:ag} {a b a' b':AV},a.leaf=true→b.leaf=true→aJ Z H.length 1 a=some a'→aJ Z H.length 1 b=some b'→aJ Z H.length 3 (.tup [.agg [a,b],.int .i64 0])=some (.tup [.agg [a',b'],.int .i64 0]):=fun {Z a b a' b'} _ _ h1 h2=>by
  exact bN (ig (by simp [h1,h2])) (by simp)
 rcases zu with ⟨hE0,hu⟩ | ⟨hE1,b,g,hu,hbk,hlo⟩
 ·have hE':E=[]:=List.map_eq_nil_iff.1 hE0
  have hc:cd (e E)=[]:=by
   have h1:e E=[]:=List.length_eq_zero_iff.1 (by rw [S.lenE,hE'];rfl)
   rw [h1];rfl
  rw [hc]
  rw [hu] at or zo hul
  have es:=fun K=>S.sortE0 (base:=H.length) (H:=Y) K
  have ec:=fun K=>xe S (base:=H.length) (H:=Y) K
  obtain ⟨Z1,hZ1⟩:∃Z1,Z1=Y.set (xl+1) (.rows 2 0 [[v,.nils]]):=⟨_,rfl⟩
  have est:ao Tryz.prog H.length Y 41 (.ptr (xl+1) 0 2 0 1) .nils=some Z1:=by
   rw [hZ1];simp [ao,zo,b2]
  have or1:ax Z1 (xl+1) 0 2 0=some [v,.nils]:=by rw [hZ1];simp [ax,hgl]
  have zr1:Z1[H.length+1]?=some (.rows 2 0 [[.nils,.nils]]):=by rw [hZ1,List.getElem?_set_ne (by omega)];exact zr
  obtain ⟨Z2,hZ2⟩:∃Z2,Z2=Z1.set (H.length+1) (.rows 2 0 [[v,.nils]]):=⟨_,rfl⟩
  have est2:ao Tryz.prog H.length Z1 43 (.ptr (H.length+1) 0 2 0 0) (.agg [v,.nils])=some Z2:=by
   rw [hZ2];simp [ao,zr1,b1,hvl.1]
  have hrl:H.length+1<Z1.length:=(List.getElem?_eq_some_iff.1 zr1).1
  have rr:ax Z2 (H.length+1) 0 2 0=some [v,.nils]:=by rw [hZ2];simp [ax,hrl]
  have kv:gC (xl+2) 35 Z2 v V:=zv.keep fun b g rs hb h=>by rw [hZ2,List.getElem?_set_ne (by omega),hZ1,List.getElem?_set_ne (by omega)];exact h
  simp [q3,q4,q7,q8,q9,q10,or,es,ec,est,or1,est2,rr]
  exact fz hvl.1 rfl (kv.freeze (k:=H.length) (d:=0) (by omega) cV) (by simp [dS,aw])
 ·rw [List.length_map] at hu
  have hEn:E≠[]:=fun h=>hE1 (by rw [h];rfl)
  obtain ⟨m,hm⟩:∃m,m=cd (e E):=⟨_,rfl⟩
  have hmn:m≠[]:=by
   rw [hm]
   exact (nU (e E)).2 fun h=>hEn (List.length_eq_zero_iff.1 (by rw [←S.lenE,h];rfl))
  rw [←hm]
  have hbl:b<Y.length:=(List.getElem?_eq_some_iff.1 hbk).1
  have es:=fun K=>S.sortE (base:=H.length) (H:=Y) (b:=b) (g:=g) (l:=E) (by omega) (by omega) hbk K
  have ec:=fun K=>yR S (base:=H.length) (H:=Y.set b (.rows 2 g ((e E).map fX.cells))) (b:=b) (g:=g) (l:=e E) (by omega) (by rw [List.getElem?_set_self hbl]) (by rw [S.lenE];omega) K
  rw [S.lenE,←hm,List.set_set] at ec
  rw [hu] at or zo hul
  obtain ⟨Z0,hZ0⟩:∃Z0,Z0=Y.set b (.rows 2 g ((e E).map fX.cells)):=⟨_,rfl⟩
  rw [←hZ0] at es ec
  obtain ⟨Z1,hZ1⟩:∃Z1,Z1=Y.set b (.rows 2 g (m.map fX.cells++List.replicate (E.length-m.length) zE)):=⟨_,rfl⟩
  rw [←hZ1] at ec
  have or0:ax Z0 (xl+1) 0 2 0=some [v,.sl b g 2 0 E.length]:=by
   rw [hZ0];unfold ax;rw [List.getElem?_set_ne (by omega),zo];rfl
  have zo1:Z1[xl+1]?=some (.rows 2 0 [[v,.sl b g 2 0 E.length]]):=by rw [hZ1,List.getElem?_set_ne (by omega)];exact zo
  have hg1:xl+1<Z1.length:=(List.getElem?_eq_some_iff.1 zo1).1
  obtain ⟨Z2,hZ2⟩:∃Z2,Z2=Z1.set (xl+1) (.rows 2 0 [[v,.sl b g 2 0 m.length]]):=⟨_,rfl⟩
  have est:ao Tryz.prog H.length Z1 41 (.ptr (xl+1) 0 2 0 1) (.sl b g 2 0 m.length)=some Z2:=by
   rw [hZ2];simp [ao,zo1,b2]
  have or2:ax Z2 (xl+1) 0 2 0=some [v,.sl b g 2 0 m.length]:=by rw [hZ2];simp [ax,hg1]
  have zr2:Z2[H.length+1]?=some (.rows 2 0 [[.nils,.nils]]):=by rw [hZ2,List.getElem?_set_ne (by omega),hZ1,List.getElem?_set_ne (by omega)];exact zr
  have hrl:H.length+1<Z2.length:=(List.getElem?_eq_some_iff.1 zr2).1
  obtain ⟨Z3,hZ3⟩:∃Z3,Z3=Z2.set (H.length+1) (.rows 2 0 [[v,.sl b g 2 0 m.length]]):=⟨_,rfl⟩
  have est2:ao Tryz.prog H.length Z2 43 (.ptr (H.length+1) 0 2 0 0) (.agg [v,.sl b g 2 0 m.length])=some Z3:=by
   rw [hZ3];simp [ao,zr2,b1,hvl.1]
  have rr:ax Z3 (H.length+1) 0 2 0=some [v,.sl b g 2 0 m.length]:=by rw [hZ3];simp [ax,hrl]
  have kb:Z3[b]?=some (.rows 2 g (m.map fX.cells++List.replicate (E.length-m.length) zE)):=by rw [hZ3,List.getElem?_set_ne (by omega),hZ2,List.getElem?_set_ne (by omega),hZ1,List.getElem?_set_self hbl]
  have kv:gC (xl+2) 35 Z3 v V:=zv.keep fun b' g' rs hb h=>by
   have hbb:b≠b':=fun hh=>by rw [hh,h] at hbk;cases hbk
   rw [hZ3,List.getElem?_set_ne (by omega),hZ2,List.getElem?_set_ne (by omega),hZ1,List.getElem?_set_ne hbb];exact h
  have hf:=uf (d:=0) (k:=H.length) kb (by omega) (aM (fun _=>rfl) m)
  rw [List.length_map] at hf
  have hsl:AV.lst (m.map fX.cells) false=aw (dS m) (m.map fX.cells):=by cases m with | nil=>exact absurd rfl hmn | cons _ _=>rfl
  rw [hsl] at hf
  simp [q3,q4,q7,q8,q9,q10,or,es,or0,ec,est,or2,est2,rr]
  exact fz hvl.1 rfl (kv.freeze (k:=H.length) (d:=0) (by omega) cV) hf
end Go.Proofs.Ev
namespace Go.Proofs.Ev
open Go.Proofs
variable {σ:aZ}
theorem IP {s:List ah} (P:jt s):Up (dC σ s):=by
 unfold Up dC
 rw [List.pairwise_flatten]
 refine ⟨fun l hl=>?_,?_⟩
 ·obtain ⟨x,hx,rfl⟩:=List.mem_map.1 hl
  rw [List.pairwise_iff_getElem]
  intro i j hi hj hij
  have h1:=gh (σ:=σ) (P.good.1 x hx) (List.getElem?_eq_getElem hi)
  have h2:=gh (σ:=σ) (P.good.1 x hx) (List.getElem?_eq_getElem hj)
  unfold dA
  rw [h1.1,h2.1,nT,if_pos rfl,h1.2,h2.2,if_pos (by omega)]
  decide
 ·refine List.pairwise_map.2 (List.Pairwise.imp_of_mem (fun {x y} hx hy h a ha b hb=>?_) P.asc)
  have h1:=lr (σ:=σ) P hx ha
  have h2:=lr (σ:=σ) P hy hb
  unfold dA
  rw [h1,h2,if_neg (by omega)]
  exact h
theorem ju {s:List ah} {a:aH}:a∈dC σ s↔∃x∈s,a∈bj σ x.patch:=mX
theorem F9 {s:List ah} {a:aH} (ha:a∈dC σ s):yn σ s a.id=jE σ s a.id:=by
 unfold yn gO iR
 rw [Bool.eq_iff_iff,List.any_map,List.any_eq_true]
 constructor
 ·rintro ⟨x,hx,h⟩
  rw [←ct h]
  exact (List.mem_filter.1 hx).2
 ·intro h
  exact ⟨a,List.mem_filter.2 ⟨ha,h⟩,by simp [aF]⟩
theorem Hl {s:List ah} (hc:AS σ s) (hu:s.Pairwise fun x y=>x.id.d≠y.id.d):∀x∈s,∀e∈co σ x.patch,∃y∈s,y.id.d=e.d:=by
 intro x hx e he
 obtain ⟨d,hd,hdx⟩:=da.1 (hc x hx)
 obtain ⟨i,hi⟩:=List.getElem?_of_mem hd
 obtain ⟨y,hy,hyd,hok⟩:=xH (σ:=σ) s.length [] i d (by simp) hi
 have hxy:y=x:=uniq hu hy hx (by rw [hyd,hdx])
 subst hxy
 simp only [sO,Bool.and_eq_true] at hok
 have h3:=hok.2
 unfold gD at h3
 rw [List.all_eq_true] at h3
 obtain ⟨w,hw,hwe⟩:=da.1 (h3 e he)
 rcases iT s _ _ w (List.mem_of_mem_take hw) with h | ⟨z,hz,hzw⟩
 ·cases h
 ·exact ⟨z,hz,by rw [hzw,hwe]⟩
theorem Jj {s:List ah} (h:nd s=true):oX s s=0:=by
 unfold nd at h
 simp only [Bool.and_eq_true,Bool.not_eq_true',beq_iff_eq] at h
 obtain ⟨_,h2⟩:=h
 unfold oY at h2
 split at h2
 ·omega
 split at h2
 ·omega
 split at h2
 ·omega
 exact h2
def AG (σ:aZ) (s:List ah) (file:aI):List ar:=(fV file (oA σ s)).2
theorem Dg {s:List ah} (P:jt s) {file:aI} (he:kX σ s file 1=0):∃a,gJ σ s file=some a∧a.kind=1∧a.id=file∧∃x∈s,a∈bj σ x.patch:=by
 unfold kX at he
 cases hp:gJ σ s file with
 | none=>rw [hp] at he;cases he
 | some a =>
  rw [hp] at he
  have hk:a.kind=1:=by
   by_cases h:a.kind=1
   ·exact h
   ·simp [h] at he
  have hp':=hp
  rw [←zl P] at hp'
  exact ⟨a,rfl,hk,ct (List.find?_some (p:=fun x:aH=>aF x.id file) hp'),mX.1 (List.mem_of_find?_eq_some hp')⟩
variable {s:List ah} {file:aI}
theorem qI (hi:gZ σ) (hd:∀l,(σ.d l).Perm l) (P:jt s) (hc:AS σ s) {a:aH} (ha:a∈dC σ s) (h7:a.kind≠7) (hf:aF a.file file=true):bV (AG σ s file) a.id.d=true:=by
 obtain ⟨x,hx,hax⟩:=ju.1 ha
 rw [lr P hx hax]
 exact ((yi hi hd P hc file).1 x hx).2 ⟨a,hax,.own a h7 hf⟩
theorem AH (hi:gZ σ) (hd:∀l,(σ.d l).Perm l) (P:jt s) (hc:AS σ s) (he:kX σ s file 1=0):bV (AG σ s file) file.d=true:=by
 obtain ⟨a,_,hk,haf,x,hx,hax⟩:=Dg P he
 have h:=qI (file:=file) hi hd P hc (ju.2 ⟨x,hx,hax⟩) (by omega) (by rw [En (P.good.1 x hx) hax hk,haf];simp [aF])
 rwa [haf] at h
theorem B4 {a:aH} (ha:a∈Ca σ s file):a∈dC σ s∧a.kind=5∧aF a.file file=true:=by
 unfold Ca at ha
 obtain ⟨h1,h2⟩:=List.mem_filter.1 ha
 unfold zD at h2
 rw [Bool.and_eq_true,decide_eq_true_eq] at h2
 exact ⟨h1,h2⟩
theorem G8 {c:List ar} {a:aH} (ha:a∈dC σ (cG s c)):a∈dC σ s:=by
 obtain ⟨x,hx,h⟩:=ju.1 ha
 exact ju.2 ⟨x,(jZ.1 hx).1,h⟩
theorem yw (hi:gZ σ) (hd:∀l,(σ.d l).Perm l) (P:jt s) (hc:AS σ s) (h4:oX s s=0) {c:List ar} (hcl:va σ s (AG σ s file) c) {a:aH} (ha:a∈dC σ (cG s c)) (h7:a.kind≠7) (hf:aF a.file file=true):yn σ (cG s c) a.id=yn σ s a.id:=by
 have ha':=G8 ha
 rw [F9 ha,F9 ha']
 obtain ⟨x,hx,hax⟩:=ju.1 ha'
 exact AX hi hd P hc h4 file hcl.needs hcl.ids hx hax h7 hf
theorem Do (hi:gZ σ) (hd:∀l,(σ.d l).Perm l) (P:jt s) (hc:AS σ s) {c:List ar} (hcl:va σ s (AG σ s file) c):Ca σ (cG s c) file=Ca σ s file:=by
 refine vT fun x hx ⟨a,hax,hp⟩=>?_
 have ha:=ju.2 ⟨x,hx,hax⟩
 obtain ⟨_,h2,h3⟩:=B4 (σ:=σ) (List.mem_filter.2 ⟨ha,hp⟩)
 have h:=qI (file:=file) hi hd P hc ha (by omega) h3
 obtain ⟨d,hd2,hdd⟩:=da.1 h
 rw [←lr P hx hax,←hdd]
 exact hcl.ids d hd2
theorem MQ (hi:gZ σ) (hd:∀l,(σ.d l).Perm l) (P:jt s) (hc:AS σ s) (h4:oX s s=0) {c:List ar} (hcl:va σ s (AG σ s file) c):ofV σ (cG s c) file=ofV σ s file:=by
 have h:=Do hi hd P hc hcl
 unfold ofV
 rw [←h]
 refine List.map_congr_left fun a ha=>?_
 obtain ⟨h1,h2,h3⟩:=B4 ha
 unfold jT
 rw [yw hi hd P hc h4 hcl h1 (by omega) h3]
theorem L2 (hi:gZ σ) (hd:∀l,(σ.d l).Perm l) (P:jt s) (hc:AS σ s) (h4:oX s s=0) {c:List ar} (hcl:va σ s (AG σ s file) c) (e:List fX→List fX):JS σ e (cG s c) file=JS σ e s file:=by
 have h:=Do hi hd P hc hcl
 have hT:OG σ (cG s c) file=OG σ s file:=by unfold OG;rw [h]
 have hE:EY σ (cG s c) file=EY σ s file:=by
  unfold EY
  have h1:(dC σ (cG s c)).filter (u9 (yn σ (cG s c)) file)=(dC σ (cG s c)).filter (u9 (yn σ s) file):=by
   refine List.filter_congr fun a ha=>?_
   unfold u9
   by_cases hk:a.kind=6
   ·cases hf:aF a.file file with
    | false=>simp
    | true=>rw [yw hi hd P hc h4 hcl ha (by omega) hf]
   ·simp [hk]
  rw [h1]
  refine vT fun x hx ⟨a,hax,hp⟩=>?_
  unfold u9 at hp
  rw [Bool.and_eq_true,Bool.and_eq_true,decide_eq_true_eq] at hp
  have h:=qI (file:=file) hi hd P hc (ju.2 ⟨x,hx,hax⟩) (by omega) hp.1.2
  obtain ⟨d,hd2,hdd⟩:=da.1 h
  rw [←lr P hx hax,←hdd]
  exact hcl.ids d hd2
 unfold JS
 rw [hT,hE]
theorem MM (hi:gZ σ) (hd:∀l,(σ.d l).Perm l) (P:jt s) (hc:AS σ s) {c:List ar} (hcl:va σ s (AG σ s file) c) (he:kX σ s file 1=0):nP σ (cG s c) file=nP σ s file:=by
 obtain ⟨a,hfa,hk,haf,x,hx,hax⟩:=Dg P he
 have h:=AH hi hd P hc he
 obtain ⟨d,hd2,hdd⟩:=da.1 h
 have hxk:x∈cG s c:=jZ.2 ⟨hx,by rw [←lr P hx hax,haf,←hdd];exact hcl.ids d hd2⟩
 have h2:=ua (P.keep c).good (P.keep c).named hxk hax
 rw [haf] at h2
 unfold nP
 rw [h2,hfa]
end Go.Proofs.Ev
namespace Go.Proofs.Ev
open Go.Proofs
variable {C:bG} {σ:aZ} {e:List fX→List fX}
structure nS (C:bG) (σ:aZ) (e:List fX→List fX):Prop extends gR C σ e where
 kVtx:C.kinds 47=some (List.replicate 32 (.int .u8)++[.int .i64]++[.str,.bool])
theorem C9:∀{k k':List LK} {c c':List AV},dq k c=true→dq k' c'=true→dq (k++k') (c++c')=true
 | [],_,[],_,_,h=>h
 | [],_,_::_,_,h,_=>by simp [dq] at h
 | _::_,_,[],_,h,_=>by simp [dq] at h
 | a::k,k',x::c,c',h,h'=>by
  simp only [List.cons_append,dq,Bool.and_eq_true] at h ⊢
  exact ⟨h.1,C9 h.2 h'⟩
theorem yJ:∀{ks:List LK} {c:List AV},dq ks c=true→bP c c=true
 | [],[],_=>rfl
 | [],_::_,h=>by simp [dq] at h
 | _::_,[],h=>by simp [dq] at h
 | a::ks,x::c,h=>by
  simp only [dq,Bool.and_eq_true] at h
  simp only [bP,Bool.and_eq_true]
  refine ⟨?_,yJ h.2⟩
  cases x<;>first | (simp [mc];done) | (have:=h.1;simp [gj] at this)
theorem zL {t:TypeId} {ks:List LK} {c:List AV} (hk:C.kinds t=some ks) (hc:dq ks c=true):bU Tryz.prog C .neq t (.agg c) (.agg c)=some (.bool false):=by
 have h:pI Tryz.prog C t (.agg c) (.agg c)=some true:=by simp only [pI,hk,hc,Bool.and_self,if_true,yJ hc]
 simp [bU,h]
theorem JR (S:nS C σ e) (al:aI→Bool) (a:aH):bU Tryz.prog C .neq 47 (.agg (jT al a)) (.agg (jT al a))=some (.bool false) :=
 zL S.kVtx (C9 (Da a.id) rfl)
theorem Hm (S:nS C σ e) (x:fX):bU Tryz.prog C .neq 51 (.agg x.cells) (.agg x.cells)=some (.bool false):=zL S.kEdge rfl
theorem IH {s:List ah} {file:aI} (he:kX σ s file 1=0):nP σ s file=0∨nP σ s file=8:=by
 unfold kX at he
 unfold nP
 cases hf:gJ σ s file with
 | none=>rw [hf] at he;cases he
 | some a =>
  simp only
  split
  ·exact .inl rfl
  ·exact .inr rfl
theorem HD (hd:∀l,(σ.d l).Perm l) {s:List ah} (F:pN σ s) (h:nd s=true):jt s:=by
 refine Ka hd F ?_
 unfold nd at h
 simp only [Bool.and_eq_true,Bool.not_eq_true',beq_iff_eq] at h
 obtain ⟨_,h2⟩:=h
 unfold oY at h2
 split at h2
 ·omega
 rename_i c1
 exact (yO s none (by omega)).1
theorem AE (x:aI) (r:List AV):(x.cells++r).take 32=dig x.d:=by
 unfold aI.cells
 rw [List.append_assoc,List.take_append_of_le_length (by simp [x.h])]
 exact List.take_of_length_le (by simp [x.h])
structure LJ (base:Nat) (H:ag) (id:aI) (X:ag):Prop where
 f:ax X H.length 0 33 0=some id.cells
 b:base≤X.length
theorem LJ.app {base:Nat} {H:ag} {id:aI} {X:ag} (h:LJ base H id X) (M:ag):LJ base H id (X++M):=⟨bH h.f M,by have:=h.b;simp;omega⟩
structure MZ (base:Nat) (H:ag) (id:aI) (g:Nat) (r:List AV) (X:ag):Prop where
 t:LJ base H id X
 g:ax X g 0 2 0=some r
theorem MZ.app {base:Nat} {H:ag} {id:aI} {g:Nat} {r:List AV} {X:ag} (h:MZ base H id g r X) (M:ag):MZ base H id g r (X++M):=⟨h.t.app M,bH h.g M⟩
set_option maxRecDepth 100000 in
set_option maxHeartbeats 8000000 in
theorem IK (S:nS C σ e) (hi:gZ σ) (hd:∀l,(σ.d l).Perm l) (hAw:cE Tryz.prog C 5 [] [] (.bool true)) {s0:List ah} {k:SK} {id:aI} (hz:om s0)
 (hf:nd s0=true→pN σ s0) (base:Nat) (H:ag) (hb:base≤H.length):dW Tryz.prog C base 3 [aw k (s0.map ah.cells),.agg id.cells] H fun v _=>v=.bool true:=by
 refine GY Tryz.func3 rfl (S.prim _ (by decide)) (by simp) ?_
 unfold Tryz.f3
 have eA:=hAw.eq
 have e1:=(HT S.tocm s0 k hz).eq
 obtain ⟨v,hv⟩:∃v,v=aw k (s0.map ah.cells):=⟨_,rfl⟩
 have hvl:v.leaf=true:=by rw [hv];simp
 rw [←hv] at e1
 refine eG (fun s X=>s 0=v∧s 3=.ptr H.length 0 33 0 0∧X=H++[.rows 33 0 [id.cells]]) (fP (by kernel_rfl) ?_) ?_
 ·rw [←hv];simp [aG]
 rintro s X ⟨q0,q3,hX⟩
 have hI0:LJ base H id X:=by rw [hX];exact ⟨by simp,by simp;omega⟩
 clear hX
 cases hfine:nd s0 with
 | false =>
  rw [hfine] at e1
  exact eG (fun _ _=>False) (fP (by kernel_rfl) (by simp [q0,q3,e1,eA])) fun _ _ h=>h.elim
 | true =>
 rw [hfine] at e1
 have F:=hf hfine
 have P:=HD hd F hfine
 have hc:AS σ s0:=F.cov
 have h4:=Jj hfine
 have hup:=IP (σ:=σ) P
 refine eG (fun s Y=>s 0=v∧s 3=.ptr H.length 0 33 0 0∧Y=X) (fP (by kernel_rfl) ?_) ?_
 ·simp [q0,q3,e1]
 clear q0 q3
 rintro s Y ⟨q0,q3,hY⟩
 rw [hY];clear hY Y
 have fI:=hI0.f
 have eT:=(xU S.tolp s0 k id F.good F.n).eq
 by_cases he:kX σ s0 id 1=0
 rotate_left
 ·rw [if_neg he,←hv] at eT
  refine eG (fun s Y=>s 5=.nils∧s 6=.int .i64 (kX σ s0 id 1)) (fP (by kernel_rfl) (by simp [q0,q3,fI,eT])) ?_
  rintro s Y ⟨q5,q6⟩
  exact eG (fun _ _=>False) (fP (by kernel_rfl) (by simp [q5,q6,he,eA,an])) fun _ _ h=>h.elim
 rw [if_pos he] at eT
 obtain ⟨T,hT⟩:∃T,T=AG σ s0 id:=⟨_,rfl⟩
 have hT':(fV id (fT σ s0 (cr σ s0 s0.length []))).2=T:=hT.symm
 rw [hT',←hv] at eT
 have tm:=yi (file:=id) hi hd P hc
 have hTin:∀d∈T,∃x∈s0,x.id.d=d.d:=fun d hdT=>by
  obtain ⟨x,hx,hxd⟩:=tm.2 d (by rw [hT] at hdT;exact hdT)
  exact ⟨x,hx,by rw [hxd]⟩
 have hTf:bV T id.d=true:=by rw [hT];exact AH hi hd P hc he
 have hTn:T≠[]:=fun h=>by rw [h] at hTf;cases hTf
 have hTl:T.length≤2^20:=by
  have h1:=AF id (oA σ s0)
  have h2:=uu (σ:=σ) F.good (mu (σ:=σ) s0)
  have h3:=lK (σ:=σ) s0 s0.length []
  have h5:(oA σ s0).length=(fT σ s0 (cr σ s0 s0.length [])).length:=rfl
  have h6:=F.n
  simp at h3
  have h7:90000*(cr σ s0 s0.length []).length≤90000*8:=Nat.mul_le_mul_left _ (by omega)
  have h8:T.length=(fV id (oA σ s0)).2.length:=by rw [hT];rfl
  omega
 obtain ⟨tv,htv⟩:∃tv,tv=aw (dS T) (T.map ar.cells):=⟨_,rfl⟩
 have htl:tv.leaf=true:=by rw [htv];simp
 have cHas:∀(d:ar) base H K,aD Tryz.prog C base (.fn 7 []) [tv,.agg (dig d.d)] H K=K (.bool (bV T d.d)) H:=fun d base H K=>by
  rw [htv]
  exact (xY S.tocY T (dS T) d (by omega)).eq base H (by
   rw [List.append_nil]
   exact c9 (by simp only [AV.closeds,cP (aM ar.closed T),Bool.true_and,Bool.and_true];exact ar.closed d)) K
 rw [←htv] at eT
 refine eG (fun s Y=>s 0=v∧s 3=.ptr H.length 0 33 0 0∧s 5=tv∧s 6=.int .i64 0∧Y=X) (fP (by kernel_rfl) ?_) ?_
 ·simp [q0,q3,fI,eT]
 clear q0 q3
 rintro s Y ⟨q0,q3,q5,q6,hY⟩
 rw [hY];clear hY Y
 refine eG (fun s Y=>s 0=v∧s 3=.ptr H.length 0 33 0 0∧s 5=tv∧Y=X) (fP (by kernel_rfl) ?_) ?_
 ·simp [q0,q3,q5,q6]
 clear q0 q3 q5 q6
 rintro s Y ⟨q0,q3,q5,hY⟩
 rw [hY];clear hY Y
 have hid:∀x:aI,x.dv.cells=dig x.d:=fun _=>rfl
 have c1:=cHas id.dv
 have hidd:id.dv.d=id.d:=rfl
 rw [hidd,hTf] at c1
 refine eG (fun s Y=>s 0=v∧s 3=.ptr H.length 0 33 0 0∧s 5=tv∧Y=X) (fP (by kernel_rfl) ?_) ?_
 ·simp [q0,q3,q5,fI,c1]
 clear q0 q3 q5
 rintro s Y ⟨q0,q3,q5,hY⟩
 rw [hY];clear hY Y
 have eN:=(Cm S.tobY s0 k id F.good F.n he).eq
 obtain ⟨N,hN⟩:∃N,N=eS id (fT σ s0 (cr σ s0 s0.length [])):=⟨_,rfl⟩
 rw [←hN,←hv] at eN
 have hOl:(fT σ s0 (cr σ s0 s0.length [])).length≤720000:=by
  have h2:=uu (σ:=σ) F.good (mu (σ:=σ) s0)
  have h3:=lK (σ:=σ) s0 s0.length []
  have h6:=F.n
  simp at h3
  have h7:90000*(cr σ s0 s0.length []).length≤90000*8:=Nat.mul_le_mul_left _ (by omega)
  omega
 have hNl:N.length≤720000:=by
  rw [hN];unfold eS
  rw [List.length_map]
  exact Nat.le_trans (List.length_filter_le _ _) hOl
 have hNh:∀n∈N,bV T n.entry.d=true:=fun n hn=>by
  rw [hN] at hn
  unfold eS at hn
  obtain ⟨a,ha,rfl⟩:=List.mem_map.1 hn
  obtain ⟨h1,h2⟩:=List.mem_filter.1 ha
  rw [Bool.and_eq_true,decide_eq_true_eq] at h2
  rw [hT]
  exact qI hi hd P hc (ju.2 ((mt P hc).1 h1)) (by omega) h2.2
 obtain ⟨nv,hnv⟩:∃nv,nv=aw (dS N) (N.map sS.cells):=⟨_,rfl⟩
 have hnl:nv.leaf=true:=by rw [hnv];simp
 rw [←hnv] at eN
 refine eG (fun s Y=>s 0=v∧s 3=.ptr H.length 0 33 0 0∧s 5=tv∧s 7=nv∧s 8=.int .i64 0∧Y=X) (fP (by kernel_rfl) ?_) ?_
 ·simp [q0,q3,q5,fI,eN]
 clear q0 q3 q5
 rintro s Y ⟨q0,q3,q5,q7,q8,hY⟩
 rw [hY];clear hY Y
 refine eG (fun s Y=>s 0=v∧s 3=.ptr H.length 0 33 0 0∧s 5=tv∧s 7=nv∧Y=X) (fP (by kernel_rfl) ?_) ?_
 ·simp [q0,q3,q5,q7,q8]
 clear q0 q3 q5 q7 q8
 rintro s Y ⟨q0,q3,q5,q7,hY⟩
 rw [hY];clear hY Y
 refine eG (fun s Y=>s 0=v∧s 3=.ptr H.length 0 33 0 0∧s 5=tv∧LJ base H id Y) (fP (by kernel_rfl) ?_) ?_
 ·refine cut (fun s Y=>s 0=v∧s 3=.ptr H.length 0 33 0 0∧s 5=tv∧s 52=nv∧s 53=.int .i64 N.length∧s 54=.int .i64 0∧Y=X) ?_ ?_
  ·simp [q0,q3,q5,q7,hnv]
  clear q0 q3 q5 q7
  rintro s Y ⟨q0,q3,q5,q52,q53,q54,hY⟩
  rw [hY];clear hY Y
  rw [cq,iW]
  refine az N.length (fun i s Y=>s 0=v∧s 3=.ptr H.length 0 33 0 0∧s 5=tv∧s 52=nv∧s 53=.int .i64 N.length∧s 54=.int .i64 i∧LJ base H id Y) ?_ ?_
  ·exact ⟨q0,q3,q5,q52,q53,q54,hI0⟩
  clear q0 q3 q5 q52 q53 q54
  rintro i s Y ⟨q0,q3,q5,q52,q53,q54,hI⟩ hi'
  by_cases h:i<N.length
  rotate_left
  ·have h':i=N.length:=by omega
   subst h'
   simp [q0,q3,q5,q52,q53,q54]
   exact hI
  obtain ⟨n,hn⟩:∃n,n=N[i]:=⟨_,rfl⟩
  have c2:=cHas n.entry.dv
  have hed:n.entry.dv.d=n.entry.d:=rfl
  rw [hed,hNh n (hn▸List.getElem_mem h)] at c2
  have htk:List.take 32 n.cells=dig n.entry.d:=AE n.entry _
  have hbY:=hI.b
  have hz67:List.drop 67 (aO.cells++(aO.cells++[AV.str []]))=[]:=List.drop_of_length_le (by simp)
  have hI2:=hI.app [.rows 67 0 [n.cells]]
  rw [hnv] at q52
  simp [q0,q3,q5,q52,q53,q54,h,←hn,ao,aE,hbY,hz67,htk,c2,ay h (by omega)]
  exact ⟨hnv.symm,hI2⟩
 clear q0 q3 q5 q7 hI0 fI X
 rintro s X ⟨q0,q3,q5,hI⟩
 have fI:=hI.f
 have hbX:=hI.b
 have eO:=(HM S.togR s0 k id F.good F.n hup).eq
 rcases IH he with ht | ht
 rotate_left
 ·rw [if_neg (by omega),ht,←hv] at eO
  refine eG (fun s Y=>s 12=.int .i64 8) (fP (by kernel_rfl) (by simp [q0,q3,q5,fI,eO,ao,aE,hbX])) ?_
  intro s Y q12
  exact eG (fun _ _=>False) (fP (by kernel_rfl) (by simp [q12,eA,an])) fun _ _ h=>h.elim
 rw [if_pos ht,←hv] at eO
 obtain ⟨V,hV⟩:∃V,V=ofV σ s0 id:=⟨_,rfl⟩
 obtain ⟨E,hE⟩:∃E,E=JS σ e s0 id:=⟨_,rfl⟩
 rw [←hV,←hE] at eO
 obtain ⟨vv,hvv⟩:∃vv,vv=aw (dS V) V:=⟨_,rfl⟩
 obtain ⟨ve,hve⟩:∃ve,ve=aw (dS E) (E.map fX.cells):=⟨_,rfl⟩
 have hvvl:vv.leaf=true:=by rw [hvv];simp
 have hvel:ve.leaf=true:=by rw [hve];simp
 rw [←hvv,←hve] at eO
 obtain ⟨g1,hg1⟩:∃g1,g1=X.length:=⟨_,rfl⟩
 refine eG (fun s Y=>s 0=v∧s 3=.ptr H.length 0 33 0 0∧s 5=tv∧s 11=.ptr g1 0 2 0 0∧s 12=.int .i64 0∧Y=X++[.rows 2 0 [[vv,ve]]]) (fP (by kernel_rfl) ?_) ?_
 ·simp [q0,q3,q5,fI,eO,ao,aE,hbX,hvvl,hvel,hg1]
 clear q0 q3 q5
 rintro s Y ⟨q0,q3,q5,q11,q12,hY⟩
 have hG0:MZ base H id g1 [vv,ve] Y:=by rw [hY];exact ⟨hI.app _,by rw [hg1];simp⟩
 clear hY hI fI hbX
 refine eG (fun s Z=>s 0=v∧s 3=.ptr H.length 0 33 0 0∧s 5=tv∧s 11=.ptr g1 0 2 0 0∧Z=Y) (fP (by kernel_rfl) ?_) ?_
 ·simp [q0,q3,q5,q11,q12]
 clear q0 q3 q5 q11 q12
 rintro s Z ⟨q0,q3,q5,q11,hZ⟩
 rw [hZ];clear hZ Z
 have hVl:V.length≤720000:=by
  rw [hV];unfold ofV Ca
  rw [List.length_map]
  exact Nat.le_trans (List.length_filter_le _ _) (nD F.good F.n (List.Perm.refl _))
 have hEl:E.length≤720000:=by
  rw [hE];unfold JS
  refine Nat.le_trans (nU _).1 ?_
  rw [S.lenE,List.length_map]
  unfold EY
  exact Nat.le_trans (List.length_filter_le _ _) (nD F.good F.n (List.Perm.refl _))
 have hVa:∀(i:Nat) (h:i<V.length),∃a,V[i]=jT (yn σ s0) a∧bV T a.id.d=true:=fun i h=>by
  have h1:V[i]∈ofV σ s0 id:=by rw [←hV];exact List.getElem_mem h
  unfold ofV at h1
  obtain ⟨a,ha,hr⟩:=List.mem_map.1 h1
  obtain ⟨h2,h3,h5⟩:=B4 ha
  refine ⟨a,?_,?_⟩
  ·rw [hr]
  ·rw [hT];exact qI hi hd P hc h2 (by omega) h5
 have gr0:=hG0.g
 refine eG (fun s Z=>s 0=v∧s 3=.ptr H.length 0 33 0 0∧s 5=tv∧s 11=.ptr g1 0 2 0 0∧MZ base H id g1 [vv,ve] Z) (fP (by kernel_rfl) ?_) ?_
 ·refine cut (fun s Z=>s 0=v∧s 3=.ptr H.length 0 33 0 0∧s 5=tv∧s 11=.ptr g1 0 2 0 0∧s 79=vv∧s 80=.int .i64 V.length∧s 81=.int .i64 0∧Z=Y) ?_ ?_
  ·simp [q0,q3,q5,q11,gr0,hvv]
  clear q0 q3 q5 q11
  rintro s Z ⟨q0,q3,q5,q11,q79,q80,q81,hZ⟩
  rw [hZ];clear hZ Z
  rw [cq,iW]
  refine az V.length (fun i s Z=>s 0=v∧s 3=.ptr H.length 0 33 0 0∧s 5=tv∧s 11=.ptr g1 0 2 0 0∧s 79=vv∧s 80=.int .i64 V.length∧s 81=.int .i64 i∧MZ base H id g1 [vv,ve] Z) ?_ ?_
  ·exact ⟨q0,q3,q5,q11,q79,q80,q81,hG0⟩
  clear q0 q3 q5 q11 q79 q80 q81 hG0 gr0 Y
  rintro i s Y ⟨q0,q3,q5,q11,q79,q80,q81,hG⟩ hi'
  by_cases h:i<V.length
  rotate_left
  ·have h':i=V.length:=by omega
   subst h'
   simp [q0,q3,q5,q11,q79,q80,q81]
   exact hG
  obtain ⟨a,har,hat⟩:=hVa i h
  have c2:=cHas a.id.dv
  have hed:a.id.dv.d=a.id.d:=rfl
  rw [hed,hat] at c2
  have htk:List.take 32 (jT (yn σ s0) a)=dig a.id.d:=AE a.id _
  have hbY:=hG.t.b
  have hG2:=hG.app [.rows 35 0 [jT (yn σ s0) a]]
  have vl:=u4 (yn σ s0) a
  have t35:List.take 35 (jT (yn σ s0) a)=jT (yn σ s0) a:=List.take_of_length_le (by simp)
  have hz35:List.drop 35 (aO.cells++[AV.str [],AV.bool false])=[]:=List.drop_of_length_le (by simp)
  rw [hvv] at q79
  simp [q0,q3,q5,q11,q79,q80,q81,h,har,ao,aE,hbY,t35,hz35,htk,c2,ay h (by omega)]
  exact ⟨vl,hvv.symm,hG2⟩
 clear q0 q3 q5 q11 hG0 gr0 Y
 rintro s Y ⟨q0,q3,q5,q11,hG⟩
 have fY:=hG.t.f
 have hbY:=hG.t.b
 obtain ⟨c,hcl,eC⟩:=yA S.toeR (k:=k) (k2:=dS T) F.good hTn hTin hTl (Hl hc F.good.2.1) base Y
 rw [hT] at hcl
 obtain ⟨cv,hcv⟩:∃cv,cv=aw .loose (c.map ar.cells):=⟨_,rfl⟩
 have hcvl:cv.leaf=true:=by rw [hcv];simp
 rw [←hv,←htv,←hcv] at eC
 refine eG (fun s Z=>s 0=v∧s 3=.ptr H.length 0 33 0 0∧s 5=tv∧s 11=.ptr g1 0 2 0 0∧s 15=cv∧s 16=.int .i64 0∧Z=Y) (fP (by kernel_rfl) ?_) ?_
 ·simp [q0,q3,q5,q11,eC]
 clear q0 q3 q5 q11
 rintro s Z ⟨q0,q3,q5,q11,q15,q16,hZ⟩
 rw [hZ];clear hZ Z
 have h8k:(cG s0 c).length≤8:=Nat.le_trans (List.length_filter_le _ _) F.n
 have eK:=(HL S.tobB s0 c k .loose (by have:=F.n;omega) (by have:=hcl.len;have:=F.n;omega)).eq
 have eO2:=(HM S.togR (cG s0 c) (dS (cG s0 c)) id (P.keep c).good h8k (IP (P.keep c))).eq
 rw [if_pos (by rw [MM hi hd P hc hcl he];exact ht),MQ hi hd P hc h4 hcl,L2 hi hd P hc h4 hcl,←hV,←hE,←hvv,←hve] at eO2
 rw [←hv,←hcv] at eK
 obtain ⟨kv,hkv⟩:∃kv,kv=aw (dS (cG s0 c)) ((cG s0 c).map ah.cells):=⟨_,rfl⟩
 rw [←hkv] at eK eO2
 obtain ⟨g2,hg2⟩:∃g2,g2=Y.length:=⟨_,rfl⟩
 refine eG (fun s Z=>s 11=.ptr g1 0 2 0 0∧s 17=.ptr g2 0 2 0 0∧s 16=.int .i64 0∧s 18=.int .i64 0∧Z=Y++[.rows 2 0 [[vv,ve]]]) (Ii (by kernel_rfl) ?_) ?_
 ·simp [q0,q3,q5,q11,q15,q16,eK,fY,eO2,ao,aE,hbY,hvvl,hvel,hg2]
  refine Jk (L:=[(3,0),(3,1),(3,2),(3,3),(3,4)]) (by kernel_rfl) ?_
  simp [Bf,Oh,q0,q3,q5,q11,q15,q16,eK,fY,bH fY,eO2]
 clear q0 q3 q5 q11 q15 q16
 rintro s Z ⟨q11,q17,q16,q18,hZ⟩
 have r1:ax Z g1 0 2 0=some [vv,ve]:=by rw [hZ];exact bH hG.g _
 have r2:ax Z g2 0 2 0=some [vv,ve]:=by rw [hZ,hg2];simp
 clear hZ hG fY hbY eC
 refine fP (by kernel_rfl) ?_
 refine cut (fun s X=>s 11=.ptr g1 0 2 0 0∧s 17=.ptr g2 0 2 0 0∧X=Z) ?_ ?_
 ·simp [q11,q17,q16,q18,r1,r2,an,hvv,hve]
 clear q11 q17 q16 q18
 rintro s X ⟨q11,q17,hX⟩
 rw [hX];clear hX X
 have nV:=JR S
 have nE:=Hm S
 refine cut (fun s X=>s 11=.ptr g1 0 2 0 0∧s 17=.ptr g2 0 2 0 0∧X=Z) ?_ ?_
 ·refine cut (fun s X=>s 11=.ptr g1 0 2 0 0∧s 17=.ptr g2 0 2 0 0∧s 132=.int .i64 V.length∧s 133=.int .i64 0∧X=Z) ?_ ?_
  ·simp [q11,q17,r1,hvv]
  clear q11 q17
  rintro s X ⟨q11,q17,q132,q133,hX⟩
  rw [hX];clear hX X
  rw [cq,iW]
  refine az V.length (fun i s X=>s 11=.ptr g1 0 2 0 0∧s 17=.ptr g2 0 2 0 0∧s 132=.int .i64 V.length∧s 133=.int .i64 i∧X=Z) ?_ ?_
  ·exact ⟨q11,q17,q132,q133,rfl⟩
  clear q11 q17 q132 q133
  rintro i s X ⟨q11,q17,q132,q133,hX⟩ hi'
  rw [hX];clear hX X
  by_cases h:i<V.length
  rotate_left
  ·have h':i=V.length:=by omega
   subst h'
   simp [q11,q17,q132,q133]
  obtain ⟨a,har,hat⟩:=hVa i h
  have t35:List.take 35 (jT (yn σ s0) a)=jT (yn σ s0) a:=List.take_of_length_le (by simp)
  rw [hvv] at r1 r2
  simp [q11,q17,q132,q133,h,r1,r2,har,t35,nV,ay h (by omega)]
 clear q11 q17
 rintro s X ⟨q11,q17,hX⟩
 rw [hX];clear hX X
 refine cut (fun s X=>X=Z) ?_ ?_
 ·refine cut (fun s X=>s 11=.ptr g1 0 2 0 0∧s 17=.ptr g2 0 2 0 0∧s 150=.int .i64 E.length∧s 151=.int .i64 0∧X=Z) ?_ ?_
  ·simp [q11,q17,r1,hve]
  clear q11 q17
  rintro s X ⟨q11,q17,q150,q151,hX⟩
  rw [hX];clear hX X
  rw [cq,iW]
  refine az E.length (fun i s X=>s 11=.ptr g1 0 2 0 0∧s 17=.ptr g2 0 2 0 0∧s 150=.int .i64 E.length∧s 151=.int .i64 i∧X=Z) ?_ ?_
  ·exact ⟨q11,q17,q150,q151,rfl⟩
  clear q11 q17 q150 q151
  rintro i s X ⟨q11,q17,q150,q151,hX⟩ hi'
  rw [hX];clear hX X
  by_cases h:i<E.length
  rotate_left
  ·have h':i=E.length:=by omega
   subst h'
   simp [q11,q17,q150,q151]
  rw [hve] at r1 r2
  have el:E[i].cells.length=2:=rfl
  have t2:List.take 2 E[i].cells=E[i].cells:=rfl
  simp [q11,q17,q150,q151,h,r1,r2,el,t2,nE,ay h (by omega)]
 rintro s X hX
 rw [hX]
 simp [eA]
end Go.Proofs.Ev
namespace Go.Proofs.Ev
open Go.Proofs
variable {N:gA} {p:Nat→List AV→ag→Option (AV×ag)}
theorem BP:bY (dE p) pC:={
 tocT:=pq
 pureU:=jL (by kernel_rfl)
 plainU:=qQ (by kernel_rfl) }
theorem BQ:lp (dE p) pC:={
 tobY:=BP
 pureW:=jL (by kernel_rfl) }
theorem BR:eR (dE p) pC:={
 tolp:=BQ
 pureY:=jL (by kernel_rfl)
 plainY:=qQ (by kernel_rfl) }
theorem zy:nS (dE p) pC (iF sI):={
 toeR:=BR
 plainZ:=qQ (by kernel_rfl)
 kEdge:=rfl
 lenE:=fun l=>wH uX l
 sortE:=fun hl hb hg K=>dx zZ rfl rfl (uz qd fX.cells_inj sI _ hb hl hg) K
 sortE0:=fun K=>dx zZ rfl rfl rfl K
 kVtx:=rfl }
theorem FI (hT:fC Tryz.prog N) (hG:jr N) (hL:lc N) {s0:List ah} {k:SK} {id:aI} (hz:om s0) {φ:fE} {H:ag} {w:World} {Vs:Array Value} (hH:HR N φ H w) (ht:kN (fun v V=>RV φ H.length w v V) [aw k (s0.map ah.cells),.agg id.cells] Vs.toList) :
 CallsIn (Fw none) 0 Tryz.prog 3 Vs w fun e w'=>e=.returned (.bool true)∧∃φ' H',HR N φ' H' w'∧cj φ H.length w φ' H'.length w':=by
 obtain ⟨n,v,H',h1,rfl⟩:=IK zy AA (pq (p:=rz)).permD DX (k:=k) (id:=id) hz (fun h=>Jw (pq (p:=rz)).permD hz h) H.length H (Nat.le_refl _)
 refine (((qR (Ir hT hG hL (Gj hT hG hL)) n).2.2.2.2.1 H.length _ _ H _ H' h1).2 (Nat.le_refl _) hH ht).mono ?_
 rintro e w' ⟨V,φ',rfl,hv,h2,h3,_⟩
 cases hv
 exact ⟨rfl,φ',H',h2,h3⟩
end Go.Proofs.Ev
namespace Go.Proofs.Ev
open Go.Proofs Go.RowKit
section
variable {W:World}
theorem u0 {v0 v1:Value} {s0:List ah} {id:aI} (h0:RV vn 0 W (aw .loose (s0.map ah.cells)) v0) (h1:RV vn 0 W (.agg id.cells) v1) (hz:om s0) (hL:laidMetH Tryz.prog Hb W) :
 Calls Tryz.prog 3 #[v0,v1] W fun e w'=>e=.returned (.bool true)∧Below W.heap.size W w':=by
 refine callsIn_wide.1 ((jx (r':=none) (FI MO IE (JO (MN hL)) hz Di (Vs:=#[v0,v1]) (.cons h0 (.cons h1 .nil)))).mono ?_)
 rintro e w' ⟨rfl,φ',H',_,hx⟩
 exact ⟨rfl,Gm hx⟩
end
end Go.Proofs.Ev
namespace Go.Proofs.YtbpaeodbnleoaaaGreatDoor.blameTouchingDone
open Go
set_option linter.unusedVariables false
theorem cf9:(fun (P:Program) (f:FuncId) (fn:Func) (s:ChangeSpec) (c:OpenClaim)=>((c.inPlace==P.inPlace f):Bool)) Tryz.prog 3 Tryz.f3 (Rows.OpenSpec.upto Rows.blameTouchingSpec).bare Rows.blameTouchingUptoRow=true:=by kernel_rfl
theorem cf10:(fun (P:Program) (f:FuncId) (fn:Func) (s:ChangeSpec) (c:OpenClaim)=>((c.unfollowed==P.unfollowed f):Bool)) Tryz.prog 3 Tryz.f3 (Rows.OpenSpec.upto Rows.blameTouchingSpec).bare Rows.blameTouchingUptoRow=true:=by kernel_rfl
end Go.Proofs.YtbpaeodbnleoaaaGreatDoor.blameTouchingDone
namespace Go.Proofs.YtbpaeodbnleoaaaGreatDoor.blameTouchingDone
open Go
set_option linter.unusedVariables false
theorem cf11:(fun (P:Program) (f:FuncId) (fn:Func) (s:ChangeSpec) (c:OpenClaim)=>((c.recurses==P.recurses f):Bool)) Tryz.prog 3 Tryz.f3 (Rows.OpenSpec.upto Rows.blameTouchingSpec).bare Rows.blameTouchingUptoRow=true:=by kernel_rfl
theorem cf12:(fun (P:Program) (f:FuncId) (fn:Func) (s:ChangeSpec) (c:OpenClaim)=>((c.named==P.varsNamed f):Bool)) Tryz.prog 3 Tryz.f3 (Rows.OpenSpec.upto Rows.blameTouchingSpec).bare Rows.blameTouchingUptoRow=true:=by kernel_rfl
end Go.Proofs.YtbpaeodbnleoaaaGreatDoor.blameTouchingDone
namespace Go.Proofs.YtbpaeodbnleoaaaGreatDoor.blameTouchingDone
open Go
set_option linter.unusedVariables false
theorem cf0:(fun (P:Program) (f:FuncId) (fn:Func) (s:ChangeSpec) (c:OpenClaim)=>(c.wf (OpenSpec.ofChange s):Bool)) Tryz.prog 3 Tryz.f3 (Rows.OpenSpec.upto Rows.blameTouchingSpec).bare Rows.blameTouchingUptoRow=true:=by kernel_rfl
theorem cf1:(fun (P:Program) (f:FuncId) (fn:Func) (s:ChangeSpec) (c:OpenClaim)=>(laidOutB P:Bool)) Tryz.prog 3 Tryz.f3 (Rows.OpenSpec.upto Rows.blameTouchingSpec).bare Rows.blameTouchingUptoRow=true:=by kernel_rfl
theorem cf2:(fun (P:Program) (f:FuncId) (fn:Func) (s:ChangeSpec) (c:OpenClaim)=>(mapsRowed P:Bool)) Tryz.prog 3 Tryz.f3 (Rows.OpenSpec.upto Rows.blameTouchingSpec).bare Rows.blameTouchingUptoRow=true:=by kernel_rfl
theorem cf3:(fun (P:Program) (f:FuncId) (fn:Func) (s:ChangeSpec) (c:OpenClaim)=>(fn.params.all (P.readableRec ·):Bool)) Tryz.prog 3 Tryz.f3 (Rows.OpenSpec.upto Rows.blameTouchingSpec).bare Rows.blameTouchingUptoRow=true:=by kernel_rfl
theorem cf4:(fun (P:Program) (f:FuncId) (fn:Func) (s:ChangeSpec) (c:OpenClaim)=>(namedTie P c.named s.vars:Bool)) Tryz.prog 3 Tryz.f3 (Rows.OpenSpec.upto Rows.blameTouchingSpec).bare Rows.blameTouchingUptoRow=true:=by kernel_rfl
theorem cf5:(fun (P:Program) (f:FuncId) (fn:Func) (s:ChangeSpec) (c:OpenClaim)=>((c.stops==[]):Bool)) Tryz.prog 3 Tryz.f3 (Rows.OpenSpec.upto Rows.blameTouchingSpec).bare Rows.blameTouchingUptoRow=true:=by kernel_rfl
theorem cf6:(fun (P:Program) (f:FuncId) (fn:Func) (s:ChangeSpec) (c:OpenClaim)=>((P.stops==[]):Bool)) Tryz.prog 3 Tryz.f3 (Rows.OpenSpec.upto Rows.blameTouchingSpec).bare Rows.blameTouchingUptoRow=true:=by kernel_rfl
theorem cf7:(fun (P:Program) (f:FuncId) (fn:Func) (s:ChangeSpec) (c:OpenClaim)=>((c.knobs==[]):Bool)) Tryz.prog 3 Tryz.f3 (Rows.OpenSpec.upto Rows.blameTouchingSpec).bare Rows.blameTouchingUptoRow=true:=by kernel_rfl
theorem cf8:(fun (P:Program) (f:FuncId) (fn:Func) (s:ChangeSpec) (c:OpenClaim)=>((P.stopKnobs==[]):Bool)) Tryz.prog 3 Tryz.f3 (Rows.OpenSpec.upto Rows.blameTouchingSpec).bare Rows.blameTouchingUptoRow=true:=by kernel_rfl
theorem cf13:(fun (P:Program) (f:FuncId) (fn:Func) (s:ChangeSpec) (c:OpenClaim)=>((c.maps==(fn.params.toList++s.plain.varTypes P).any (P.mapsRec ·)):Bool)) Tryz.prog 3 Tryz.f3 (Rows.OpenSpec.upto Rows.blameTouchingSpec).bare Rows.blameTouchingUptoRow=true:=by kernel_rfl
theorem cf14:(fun (P:Program) (f:FuncId) (fn:Func) (s:ChangeSpec) (c:OpenClaim)=>((c.ifaces==(fn.params.toList++s.plain.varTypes P).any (P.ifacesRec ·)):Bool)) Tryz.prog 3 Tryz.f3 (Rows.OpenSpec.upto Rows.blameTouchingSpec).bare Rows.blameTouchingUptoRow=true:=by kernel_rfl
theorem cf15:(fun (P:Program) (f:FuncId) (fn:Func) (s:ChangeSpec) (c:OpenClaim)=>((c.mapsOut==P.mapsAmong fn.resultTypes.toList):Bool)) Tryz.prog 3 Tryz.f3 (Rows.OpenSpec.upto Rows.blameTouchingSpec).bare Rows.blameTouchingUptoRow=true:=by kernel_rfl
theorem cf16:(fun (P:Program) (f:FuncId) (fn:Func) (s:ChangeSpec) (c:OpenClaim)=>((c.loops==(fn.params.toList++s.plain.varTypes P).any (P.loopsFrom ·)):Bool)) Tryz.prog 3 Tryz.f3 (Rows.OpenSpec.upto Rows.blameTouchingSpec).bare Rows.blameTouchingUptoRow=true:=by kernel_rfl
theorem cf17:(fun (P:Program) (f:FuncId) (fn:Func) (s:ChangeSpec) (c:OpenClaim)=>((c.wideKeys==(fn.params.toList++s.plain.varTypes P++fn.resultTypes.toList).any (P.wideKeysFrom ·)):Bool)) Tryz.prog 3 Tryz.f3 (Rows.OpenSpec.upto Rows.blameTouchingSpec).bare Rows.blameTouchingUptoRow=true:=by kernel_rfl
theorem cf18:(fun (P:Program) (f:FuncId) (fn:Func) (s:ChangeSpec) (c:OpenClaim)=>(s.vars.all (P.varReadable ·):Bool)) Tryz.prog 3 Tryz.f3 (Rows.OpenSpec.upto Rows.blameTouchingSpec).bare Rows.blameTouchingUptoRow=true:=by kernel_rfl
theorem cf19:(fun (P:Program) (f:FuncId) (fn:Func) (s:ChangeSpec) (c:OpenClaim)=>(fn.resultTypes.all (fun t=>P.readableRec t&&decide (t<P.types.size)):Bool)) Tryz.prog 3 Tryz.f3 (Rows.OpenSpec.upto Rows.blameTouchingSpec).bare Rows.blameTouchingUptoRow=true:=by kernel_rfl
theorem cf20:(fun (P:Program) (f:FuncId) (fn:Func) (s:ChangeSpec) (c:OpenClaim)=>((c.ifacesOut==fn.resultTypes.toList.any (P.ifacesRec ·)):Bool)) Tryz.prog 3 Tryz.f3 (Rows.OpenSpec.upto Rows.blameTouchingSpec).bare Rows.blameTouchingUptoRow=true:=by kernel_rfl
theorem cf21:(fun (P:Program) (f:FuncId) (fn:Func) (s:ChangeSpec) (c:OpenClaim)=>((c.loopsOut==fn.resultTypes.toList.any (P.loopsFrom ·)):Bool)) Tryz.prog 3 Tryz.f3 (Rows.OpenSpec.upto Rows.blameTouchingSpec).bare Rows.blameTouchingUptoRow=true:=by kernel_rfl
theorem cf22:(fun (P:Program) (f:FuncId) (fn:Func) (s:ChangeSpec) (c:OpenClaim)=>((c.plainKeys==P.plainKeys):Bool)) Tryz.prog 3 Tryz.f3 (Rows.OpenSpec.upto Rows.blameTouchingSpec).bare Rows.blameTouchingUptoRow=true:=by kernel_rfl
theorem cf23:(fun (P:Program) (f:FuncId) (fn:Func) (s:ChangeSpec) (c:OpenClaim)=>(c.shortTexts.isNone:Bool)) Tryz.prog 3 Tryz.f3 (Rows.OpenSpec.upto Rows.blameTouchingSpec).bare Rows.blameTouchingUptoRow=true:=by kernel_rfl
theorem cf24:(fun (P:Program) (f:FuncId) (fn:Func) (s:ChangeSpec) (c:OpenClaim)=>(P.stopsHeard:Bool)) Tryz.prog 3 Tryz.f3 (Rows.OpenSpec.upto Rows.blameTouchingSpec).bare Rows.blameTouchingUptoRow=true:=by kernel_rfl
theorem cf25:(fun (P:Program) (f:FuncId) (fn:Func) (s:ChangeSpec) (c:OpenClaim)=>(P.mayEnter:Bool)) Tryz.prog 3 Tryz.f3 (Rows.OpenSpec.upto Rows.blameTouchingSpec).bare Rows.blameTouchingUptoRow=true:=by kernel_rfl
theorem cf26:(fun (P:Program) (f:FuncId) (fn:Func) (s:ChangeSpec) (c:OpenClaim)=>((c.lifted==P.liftsFinal):Bool)) Tryz.prog 3 Tryz.f3 (Rows.OpenSpec.upto Rows.blameTouchingSpec).bare Rows.blameTouchingUptoRow=true:=by kernel_rfl
theorem cf27:(fun (P:Program) (f:FuncId) (fn:Func) (s:ChangeSpec) (c:OpenClaim)=>((P.make==some c.make):Bool)) Tryz.prog 3 Tryz.f3 (Rows.OpenSpec.upto Rows.blameTouchingSpec).bare Rows.blameTouchingUptoRow=true:=by kernel_rfl
theorem cf28:(fun (P:Program) (f:FuncId) (fn:Func) (s:ChangeSpec) (c:OpenClaim)=>((c.kinds==(if c.domain.isEmpty then [] else fn.params.toList.map fun t=>match P.underlying t with | some (.int k)=>some k | _=>none)):Bool)) Tryz.prog 3 Tryz.f3 (Rows.OpenSpec.upto Rows.blameTouchingSpec).bare Rows.blameTouchingUptoRow=true:=by kernel_rfl
theorem cf29:(fun (P:Program) (f:FuncId) (fn:Func) (s:ChangeSpec) (c:OpenClaim)=>((c.pinned==c.pinnedBy):Bool)) Tryz.prog 3 Tryz.f3 (Rows.OpenSpec.upto Rows.blameTouchingSpec).bare Rows.blameTouchingUptoRow=true:=by kernel_rfl
theorem cf30:(fun (P:Program) (f:FuncId) (fn:Func) (s:ChangeSpec) (c:OpenClaim)=>((c.veiled==(fn.params.toList++s.plain.varTypes P++fn.resultTypes.toList).any (P.veiledRec ·)):Bool)) Tryz.prog 3 Tryz.f3 (Rows.OpenSpec.upto Rows.blameTouchingSpec).bare Rows.blameTouchingUptoRow=true:=by kernel_rfl
theorem cf31:(fun (P:Program) (f:FuncId) (fn:Func) (s:ChangeSpec) (c:OpenClaim)=>(c.veiledFits P fn.params.toList (fn.params.toList++s.plain.varTypes P++fn.resultTypes.toList):Bool)) Tryz.prog 3 Tryz.f3 (Rows.OpenSpec.upto Rows.blameTouchingSpec).bare Rows.blameTouchingUptoRow=true:=by kernel_rfl
end Go.Proofs.YtbpaeodbnleoaaaGreatDoor.blameTouchingDone
namespace Go.Proofs.YtbpaeodbnleoaaaGreatDoor.blameTouchingDone
open Go
set_option linter.unusedVariables false
theorem goes_none:Tryz.prog.funcs.toList.all (fun fn=>!fn.goes)=true:=by kernel_rfl
theorem named3:Tryz.prog.funcNamed "quilt/quiltlaw38.BlameTouching" = some 3:=by kernel_rfl
theorem goes_at (g:FuncId):(Tryz.prog.funcs[g]?).any Func.goes=false:=by
 cases hg:Tryz.prog.funcs[g]? with
 | none=>rfl
 | some fn =>
  have:=List.all_eq_true.1 goes_none fn (by simpa using Array.mem_of_getElem? hg)
  simpa using this
theorem goes_3:Tryz.prog.goes 3=false:=by
 unfold Program.goes
 have h1:((Tryz.prog.closure 3).any fun g=>(Tryz.prog.funcs[g]?).any Func.goes)=false:=by
  rw [List.any_eq_false]
  intro g _
  rw [goes_at g];simp
 have h2:Tryz.prog.funcs.any Func.goes=false:=by
  rw [←Array.any_toList,List.any_eq_false]
  intro fn hf
  have:=List.all_eq_true.1 goes_none fn hf
  simpa using this
 rw [h1,h2];simp
theorem goes:false=Rows.blameTouchingUptoRow.goesBy Tryz.pinned.checked.prog:=by
 show false=((Tryz.prog.funcNamed "quilt/quiltlaw38.BlameTouching").any Tryz.prog.goes||false)
 rw [named3,Option.any_some,goes_3];rfl
end Go.Proofs.YtbpaeodbnleoaaaGreatDoor.blameTouchingDone
