/- Part 25 of the proof that quiltlaw38.BlameHistory returns true: no statement of its own. -/
import Derived.Test.YtkicailcmamaiaaGreatDoorH24
import Derived.Test.YtkicailcmamaiaaGreatDoorH19
set_option linter.all false
namespace Go.Proofs.Ev
open Go.Proofs
variable {C:bD} {σ:aZ}
theorem Dj {α:Type} (p:α→Bool) (l:List α) {i:Nat} (h:i<l.length):(l.take (i+1)).any p=((l.take i).any p||p l[i]):=by
 rw [List.take_add_one,List.getElem?_eq_getElem h,List.any_append];simp
theorem Ll (y:aG):y.cells.take 32=y.id.dv.cells:=by
 have h:y.cells=dig y.id.d++(y.cells.drop 32):=by
  have h1:y.cells.take 32=dig y.id.d:=by
   unfold aG.cells aC.cells
   rw [List.append_assoc,List.take_append_of_le_length (by simp [y.id.h])]
   exact List.take_of_length_le (by simp [y.id.h])
  rw [←h1,List.take_append_drop]
 rw [h,List.take_append_of_le_length (by simp [y.id.h])]
 exact List.take_of_length_le (by simp [y.id.h])
theorem Fg {P:Program} {N base b:Nat} {l:List AV} {s:Sl} {ps:List Tmp} {assign body:Code} {args:List AV} {H:ae} {K:AV→ae→Prop} (M:Sl→ae→Prop) (hr:lV N l s) (hget:H[b]?=some (cm l ps assign body)) (hbase:base≤b)
 (hlen:args.length=ps.length) (hps:∀p∈ps,p<N) (hsa:kC P assign=true) (hsb:kC P body=true)
 (ha:jb P C N base assign (vw ps args s) H (AZ (fun s1 H1=>H1[b]?=some (cm l ps assign body)∧M s1 (H1.set b (mI l ps assign body))) fun _ _ _=>False))
 (hb:∀s1 H1,M s1 H1→jb P C N base body s1 H1 fun e _ H3=>H3[b]?=some (mI l ps assign body)∧K (.bool e.code.isNone) (H3.set b (yW e l ps assign body))) :
 aF P C base (.yld b) args H K:=by
 refine gy hr hget hbase hlen hps hsa hsb (gT (fun e s' H' h=>?_) ha)
 cases e with
 | normal=>exact ⟨h.1,hb _ _ h.2⟩
 | exit i=>exact h
 | ret=>exact h
set_option maxRecDepth 100000 in
set_option maxHeartbeats 8000000 in
theorem yd (S:li C σ) (s0:List ag) (k:SK) (file:aC) (hs:cr s0) (h8:s0.length≤8) :
 b8 Tryz.prog C 8 [] [am k (s0.map ag.cells),.agg file.cells] (if ly σ s0 file 1=0 then .tup [am (gO (iD file (gt σ s0 (cn σ s0 s0.length []))).2) ((iD file (gt σ s0 (cn σ s0 s0.length []))).2.map ar.cells),.int .i64 0] else .tup [.nils,.int .i64 (ly σ s0 file 1)]):=by
 refine aw (S.pureW _ (by decide)) fun H=>aj Tryz.func8 rfl (S.prim _ (by decide)) (by simp) (by kernel_rfl) ?_
 unfold Tryz.f8
 have ef:=(nW S.toba s0 k file 1 hs).eq
 obtain ⟨v,hv⟩:∃v,v=am k (s0.map ag.cells):=⟨_,rfl⟩
 have hvl:v.leaf=true:=by rw [hv];simp
 have hvc:v.cells=[v]:=by rw [hv];simp
 have ep:=fun (X:ae) (K:AV→ae→Prop)=>vH S.toeK v hvl hvc (base:=H.length) (H:=X) K
 rw [←hv] at ef ⊢
 obtain ⟨O,hO⟩:∃O,O=gt σ s0 (cn σ s0 s0.length []):=⟨_,rfl⟩
 rw [←hO]
 refine cut (fun s X=>s 0=v∧s 3=.ptr H.length 0 33 0 0∧X=H++[.rows 33 0 [file.cells]]) ?_ ?_
 ·simp [aE]
 rintro s X ⟨q0,q3,rfl⟩
 by_cases he:ly σ s0 file 1=0
 rotate_left
 ·rw [if_neg he]
  simp [q0,q3,ef,he]
  exact bb (by simp) (by simp)
 rw [if_pos he]
 rw [he] at ef
 refine cut (fun s X=>s 0=v∧s 3=.ptr H.length 0 33 0 0∧X=H++[.rows 33 0 [file.cells]]) ?_ ?_
 ·simp [q0,q3,ef]
 clear q0 q3
 rintro s X ⟨q0,q3,rfl⟩
 have hnm:AV.nilm.cells.length=1:=rfl
 have hnt:AV.nilm.cells.tail=[]:=rfl
 have b2:H.length≤H.length+2:=by omega
 refine cut (fun s X=>s 0=v∧s 3=.ptr H.length 0 33 0 0∧s 7=.ptr (H.length+2) 0 1 0 0∧X=H++[.rows 33 0 [file.cells],.map [],.rows 1 0 [[.map (H.length+1)]]]) ?_ ?_
 ·simp [q0,q3,ao,hnm,hnt,b2]
 clear q0 q3
 rintro s X ⟨q0,q3,q7,rfl⟩
 refine cut (fun s X=>s 0=v∧s 3=.ptr H.length 0 33 0 0∧s 7=.ptr (H.length+2) 0 1 0 0∧s 8=.ptr (H.length+3) 0 1 0 0∧X=H++[.rows 33 0 [file.cells],.map [],.rows 1 0 [[.map (H.length+1)]],.rows 1 0 [[.nils]]]) ?_ ?_
 ·simp [q0,q3,q7]
 clear q0 q3 q7
 rintro s X ⟨q0,q3,q7,q8,rfl⟩
 refine cut (fun s X=>s 8=.ptr (H.length+3) 0 1 0 0∧∃w,X[H.length+3]?=some (.rows 1 0 [[w]])∧kX (H.length+6) 32 X w ((iD file O).2.map ar.cells)) ?_ ?_
 rotate_left
 ·rintro s X ⟨q8,w,hw,hS⟩
  have hf:=hS.freeze (k:=H.length) (d:=1) (by omega) (aH ar.closed _)
  have hk:gO ((iD file O).2.map ar.cells)=gO (iD file O).2:=by unfold gO;cases (iD file O).2<;>rfl
  rw [hk] at hf
  have hr:ax X (H.length+3) 0 1 0=some [w]:=by simp [ax,hw]
  simp [q8,hr]
  exact bb hf (by simp)
 refine cut (fun s X=>s 3=.ptr H.length 0 33 0 0∧s 7=.ptr (H.length+2) 0 1 0 0∧s 8=.ptr (H.length+3) 0 1 0 0∧s 21=.fn 63 [.ptr (H.length+4) 0 1 0 0]∧X=H++[.rows 33 0 [file.cells],.map [],.rows 1 0 [[.map (H.length+1)]],.rows 1 0 [[.nils]],.rows 1 0 [[v]]]) ?_ ?_
 ·simp [q0,q3,q7,q8,ep]
 clear q0 q3 q7 q8
 rintro s X ⟨q3,q7,q8,q21,rfl⟩
 rw [fI,lU]
 refine gw (f:=63) (caps:=[.ptr (H.length+4) 0 1 0 0]) (by simp [q21]) fun l1 hr1=>?_
 obtain ⟨X0,hX0⟩:∃X0,X0=H++[.rows 33 0 [file.cells],.map [],.rows 1 0 [[.map (H.length+1)]],.rows 1 0 [[.nils]],.rows 1 0 [[v]]]:=⟨_,rfl⟩
 have hX0l:X0.length=H.length+5:=by rw [hX0];simp
 rw [←hX0,hX0l]
 have g0:X0[H.length]?=some (.rows 33 0 [file.cells]):=by rw [hX0,yF];rfl
 have g1:X0[H.length+1]?=some (.map []):=by rw [hX0,bq];rfl
 have g2:X0[H.length+2]?=some (.rows 1 0 [[.map (H.length+1)]]):=by rw [hX0,bq];rfl
 have g3:X0[H.length+3]?=some (.rows 1 0 [[.nils]]):=by rw [hX0,bq];rfl
 have g4:X0[H.length+4]?=some (.rows 1 0 [[v]]):=by rw [hX0,bq];rfl
 have gM:∀{b:Nat} {blk:bL} (M:ae),X0[b]?=some blk→(X0++M)[b]?=some blk:=fun M h=>by rw [List.getElem?_append_left (List.getElem?_eq_some_iff.1 h).1];exact h
 refine H7 S.toeK (k:=k) (base:=H.length) (lo:=H.length+6) (bl:=H.length+5) (bs:=H.length+4) (fb:=H.length) (mb:=H.length+2) (m:=H.length+1) (ob:=H.length+3) (file:=file) hs h8 rfl rfl ?_ ?_ _ ?_
 rotate_left
 ·rw [←hv]
  exact ⟨by rw [List.getElem?_append_right (by omega),hX0l];simp,bM (by simp [ax,g4]) _,bM (by simp [ax,g0]) _,bM (by simp [ax,g2]) _,gM _ g1,⟨.nils,gM _ g3,.inl ⟨rfl,rfl⟩⟩,by simp;omega⟩
 ·rintro V ⟨hbl,hbs,hfb,hmb,hm,⟨w,hw,hS⟩,hlow⟩
  rw [fo hbl]
  simp
  rw [←hO] at hS
  exact ⟨q8,w,hw,hS.keep fun b g rs hb h=>by rw [List.getElem?_set_ne (by omega)];exact h⟩
 rw [←hv]
 rintro LB BB hLB hBB l V y hT hl ho
 have hLr:∀sz g rs,LB≠.rows sz g rs:=by intro sz g rs h;rw [←hLB] at h;cases h
 have hBr:∀sz g rs,BB≠.rows sz g rs:=by intro sz g rs h;rw [←hBB] at h;cases h
 obtain ⟨hbl,hbs,hfb,hmb,hm,⟨w,hw,hS⟩,hlow⟩:=hT
 obtain ⟨T,hTe⟩:∃T,T=iD file l:=⟨_,rfl⟩
 have hTl:=H8 file l
 rw [←hTe] at hm hS hTl
 have hblV:H.length+5<V.length:=(List.getElem?_eq_some_iff.1 hbl).1
 obtain ⟨W,hW⟩:∃W,W=V.set (H.length+5) BB:=⟨_,rfl⟩
 have hWl:W.length=V.length:=by rw [hW];simp
 have hgl:∀M,(V++M)[H.length+5]?=some LB:=fun M=>by rw [List.getElem?_append_left hblV];exact hbl
 have hsl:∀M,(V++M).set (H.length+5) BB=W++M:=fun M=>by rw [hW];exact List.set_append_left _ _ hblV
 have up:∀{b:Nat} {blk:bL},b≠H.length+5→V[b]?=some blk→W[b]?=some blk:=fun hb h=>by rw [hW,List.getElem?_set_ne (Ne.symm hb)];exact h
 have upr:∀{b e:Nat} {r:List AV},b≠H.length+5→ax V b 0 e 0=some r→ax W b 0 e 0=some r:=fun hb h=>by
  unfold ax at h ⊢
  rw [hW,List.getElem?_set_ne (Ne.symm hb)];exact h
 have hWb:W[H.length+5]?=some BB:=by rw [hW,List.getElem?_set_self hblV]
 obtain ⟨is0,his0⟩:∃is0,is0=xq file T.1 y:=⟨_,rfl⟩
 have hsn:iD file (l++[y])=oi file T y:=by rw [ru,hTe]
 have e:=gZ S.toaz
 have hbV:H.length≤V.length:=by omega
 refine Fg (fun s X=>s 3=.ptr H.length 0 33 0 0∧s 7=.ptr (H.length+2) 0 1 0 0∧s 8=.ptr (H.length+3) 0 1 0 0∧s 9=.ptr V.length 0 172 0 0∧X=W++[.rows 172 0 [y.cells]]) hr1 (hget:=by rw [hLB];exact hbl) (by omega) rfl (by decide) (by kernel_rfl) (by kernel_rfl) ?_ ?_
 ·rw [hLB,hBB]
  simp [q3,q7,q8,ao,hbV,hgl,hsl]
 rw [hBB]
 clear q3 q7 q8
 rintro s X ⟨q3,q7,q8,q9,hX⟩
 rw [hX];clear hX X
 have hT0:Fi H.length (H.length+6) (H.length+5) (H.length+4) H.length (H.length+2) (H.length+1) (H.length+3) BB v file l W:=by
  refine ⟨hWb,upr (by omega) hbs,upr (by omega) hfb,upr (by omega) hmb,by rw [←hTe];exact up (by omega) hm,⟨w,up (by omega) hw,by rw [←hTe];exact hS.keep fun b g rs hb h=>up (by omega) h⟩,by omega⟩
 have hT1:=hT0.app [.rows 172 0 [y.cells]]
 have hy1:ax (W++[.rows 172 0 [y.cells]]) V.length 0 172 0=some y.cells:=by rw [←hWl];simp
 obtain ⟨X,hX⟩:∃X,X=W++[.rows 172 0 [y.cells]]:=⟨_,rfl⟩
 rw [←hX] at hT1 hy1 ⊢
 have hXl:V.length<X.length:=by rw [hX];simp;omega
 clear hX hT0
 rw [fI]
 refine cut (fun s X'=>s 3=.ptr H.length 0 33 0 0∧s 7=.ptr (H.length+2) 0 1 0 0∧s 8=.ptr (H.length+3) 0 1 0 0∧s 9=.ptr V.length 0 172 0 0∧s 10=.bool (if y.kind=7 then false else aB y.file file)∧X'=X) ?_ ?_
 ·have hfr:=hT1.hfb
  by_cases hk:y.kind=7
  ·simp [q3,q7,q8,q9,hy1,an,hk]
  ·have hkb:(y.kind != 7)=true:=by simpa using hk
   simp [q3,q7,q8,q9,hy1,an,hk,hkb,hfr,e]
 clear q3 q7 q8 q9
 rintro s X' ⟨q3,q7,q8,q9,q10,hXX⟩
 rw [hXX];clear hXX X'
 refine cut (fun s Z=>s 3=.ptr H.length 0 33 0 0∧s 7=.ptr (H.length+2) 0 1 0 0∧s 8=.ptr (H.length+3) 0 1 0 0∧s 9=.ptr V.length 0 172 0 0∧s 10=.bool is0∧Fi H.length (H.length+6) (H.length+5) (H.length+4) H.length (H.length+2) (H.length+1) (H.length+3) BB v file l Z∧ax Z V.length 0 172 0=some y.cells) ?_ ?_
 ·by_cases hk:y.kind=7
  rotate_left
  ·rw [if_neg hk] at q10
   have hkb:(y.kind==7)=false:=by simpa using hk
   have:is0=aB y.file file:=by rw [his0];unfold xq;rw [if_neg hk]
   simp [q3,q7,q8,q9,q10,hy1,hkb,this]
   exact hT1
  rw [if_pos hk] at q10
  have his:is0=y.over.any (iy T.1):=by rw [his0];unfold xq;rw [if_pos hk]
  simp [q3,q7,q8,q9,q10,hy1,hk]
  refine ay y.over.length (fun j s Z=>s 3=.ptr H.length 0 33 0 0∧s 7=.ptr (H.length+2) 0 1 0 0∧s 8=.ptr (H.length+3) 0 1 0 0∧s 9=.ptr V.length 0 172 0 0∧s 10=.bool ((y.over.take j).any (iy T.1))∧s 36=am y.overK (y.over.map aC.cells)∧s 37=.int .i64 y.over.length∧s 38=.int .i64 j∧Fi H.length (H.length+6) (H.length+5) (H.length+4) H.length (H.length+2) (H.length+1) (H.length+3) BB v file l Z∧ax Z V.length 0 172 0=some y.cells) ?_ ?_
  ·exact ⟨q3,q7,q8,q9,by simpa using q10,rfl,rfl,rfl,hT1,hy1⟩
  clear q3 q7 q8 q9 q10
  rintro j s Z ⟨q3,q7,q8,q9,q10,q36,q37,q38,hTZ,hyZ⟩ hj
  by_cases hjl:j<y.over.length
  rotate_left
  ·have h':j=y.over.length:=by omega
   subst h'
   rw [List.take_length,←his] at q10
   simp [q3,q7,q8,q9,q10,q36,q37,q38]
   exact ⟨hTZ,hyZ⟩
  obtain ⟨z,hz⟩:∃z,z=y.over[j]:=⟨_,rfl⟩
  have hbZ:H.length≤Z.length:=by have:=hTZ.low;omega
  have hTZ2:=hTZ.app [.rows 33 0 [z.cells]]
  have hlk:=GK S.toaz hTZ2.hm z
  rw [←hTe] at hlk
  have hmr:=hTZ2.hmb
  have hzr:∀M,ax (Z++bL.rows 33 0 [z.cells]::M) Z.length 0 33 0=some z.cells:=fun M=>by simp
  have ht:=Dj (iy T.1) y.over hjl
  rw [←hz] at ht
  have w38:=au hjl (by omega)
  cases hc:(y.over.take j).any (iy T.1) with
  | true =>
   rw [hc] at q10 ht
   simp [q3,q7,q8,q9,q10,q36,q37,q38,hjl,←hz,ao,hbZ,an,w38]
   exact ⟨List.any_eq_true.1 ht,hTZ2,bM hyZ _⟩
  | false =>
   rw [hc] at q10 ht
   simp [q3,q7,q8,q9,q10,q36,q37,q38,hjl,←hz,ao,hbZ,an,hmr,hzr,hlk,w38]
   rw [Bool.false_or] at ht
   exact ⟨ht.symm,hTZ2,bM hyZ _⟩
 clear q3 q7 q8 q9 q10 hT1 hy1
 rintro s Z ⟨q3,q7,q8,q9,q10,hTZ,hyZ⟩
 obtain ⟨zbl,zbs,zfb,zmb,zm,⟨u,zu,zS⟩,zlow⟩:=hTZ
 rw [←hTe] at zm zS
 have hmZ:H.length+1<Z.length:=(List.getElem?_eq_some_iff.1 zm).1
 have eu:=Kg S.toaz (base:=H.length) (by omega) zm y.id is0
 obtain ⟨T1,hT1⟩:∃T1,T1=qH T.1 y.id is0:=⟨_,rfl⟩
 rw [←hT1] at eu
 obtain ⟨Z1,hZ1⟩:∃Z1,Z1=Z.set (H.length+1) (.map (dL (mQ T1))):=⟨_,rfl⟩
 rw [←hZ1] at eu
 have k1:∀{b:Nat} {blk:bL},b≠H.length+1→Z[b]?=some blk→Z1[b]?=some blk:=fun hb h=>by rw [hZ1,List.getElem?_set_ne (Ne.symm hb)];exact h
 have k1r:∀{b e:Nat} {r:List AV},b≠H.length+1→ax Z b 0 e 0=some r→ax Z1 b 0 e 0=some r:=fun hb h=>by
  unfold ax at h ⊢
  rw [hZ1,List.getElem?_set_ne (Ne.symm hb)];exact h
 have y1:=k1r (by omega) hyZ
 have u1:=k1 (by omega) zu
 have bl1:=k1 (by omega) zbl
 have m1:Z1[H.length+1]?=some (.map (dL (mQ T1))):=by rw [hZ1,List.getElem?_set_self hmZ]
 have ur:ax Z1 (H.length+3) 0 1 0=some [u]:=by simp [ax,u1]
 have S1:kX (H.length+6) 32 Z1 u (T.2.map ar.cells):=zS.keep fun b g rs hb h=>k1 (by omega) h
 have len1:Z1.length=Z.length:=by rw [hZ1];simp
 have fin:∀{Zf:ae},Zf[H.length+5]?=some BB→Z1.length≤Zf.length→(∀(b:Nat) (blk:bL),Z1[b]?=some blk→b≠H.length+3→b<H.length+6→Zf[b]?=some blk)→(∃u2,Zf[H.length+3]?=some (.rows 1 0 [[u2]])∧kX (H.length+6) 32 Zf u2 ((oi file T y).2.map ar.cells))→
  Fi H.length (H.length+6) (H.length+5) (H.length+4) H.length (H.length+2) (H.length+1) (H.length+3) LB v file (l++[y]) (Zf.set (H.length+5) LB):=by
  rintro Zf hZb hZl hk ⟨u2,hu2,hS2⟩
  have hbl2:=(List.getElem?_eq_some_iff.1 hZb).1
  have dn:∀{b e:Nat} {r:List AV},b≠H.length+5→b≠H.length+1→b≠H.length+3→b<H.length+6→ax Z b 0 e 0=some r→ax (Zf.set (H.length+5) LB) b 0 e 0=some r:=fun {b e r} h1 h2 h3 h4 h=>by
   have h5:=k1r h2 h
   unfold ax at h5 ⊢
   rw [List.getElem?_set_ne (Ne.symm h1)]
   cases hx:Z1[b]? with
   | none=>rw [hx] at h5;cases h5
   | some blk=>rw [hx] at h5;rw [hk b blk hx h3 h4];exact h5
  refine ⟨by rw [List.getElem?_set_self hbl2],dn (by omega) (by omega) (by omega) (by omega) zbs,dn (by omega) (by omega) (by omega) (by omega) zfb,dn (by omega) (by omega) (by omega) (by omega) zmb,?_,⟨u2,by rw [List.getElem?_set_ne (by omega)];exact hu2,?_⟩,by simp;omega⟩
  ·rw [hsn,List.getElem?_set_ne (by omega)]
   have:(oi file T y).1=T1:=by rw [hT1,his0];rfl
   rw [this]
   exact hk _ _ m1 (by omega) (by omega)
  ·rw [hsn]
   exact hS2.keep fun b g rs hb h=>by rw [List.getElem?_set_ne (by omega)];exact h
 refine cut (fun s Z=>s 8=.ptr (H.length+3) 0 1 0 0∧s 9=.ptr V.length 0 172 0 0∧s 10=.bool is0∧Z=Z1) ?_ ?_
 ·simp [q7,q8,q9,q10,zmb,hyZ,eu]
 clear q3 q7 q8 q9 q10
 rintro s Z' ⟨q8,q9,q10,hZZ⟩
 rw [hZZ];clear hZZ Z'
 have hdc:y.id.dv.cells=dig y.id.d:=rfl
 have htd:=Ll y
 have ndig:=fun a b:ar=>jv (jL S.toaz a b)
 cases his:is0 with
 | false =>
  rw [his] at q10
  have hu:(oi file T y).2=T.2:=by unfold oi;rw [←his0,his];simp
  simp [q8,q9,q10,an,bl1,hLB]
  exact ⟨rfl,fin bl1 (Nat.le_refl _) (fun b blk h _ _=>h) ⟨u,u1,by rw [hu];exact S1⟩⟩
 | true =>
  rw [his] at q10
  refine cut (fun s Z=>s 8=.ptr (H.length+3) 0 1 0 0∧s 9=.ptr V.length 0 172 0 0∧s 70=.bool (decide ((T.2.getLast?.map (·.d))≠some y.id.d))∧Z=Z1) ?_ ?_
  ·rcases S1 with ⟨hT0,hu0⟩ | ⟨hTn,b,g,hu0,hbk,hlo⟩
   ·have hT:T.2=[]:=List.map_eq_nil_iff.1 hT0
    rw [hu0] at ur
    simp [q8,q9,q10,an,ur,hT]
   ·have hne:T.2≠[]:=fun h=>hTn (by rw [h];rfl)
    obtain ⟨z,hz⟩:∃z,z=T.2.getLast hne:=⟨_,rfl⟩
    have hlen:0<T.2.length:=List.length_pos_iff.2 hne
    have hg:T.2.getLast?=some z:=by rw [hz,List.getLast?_eq_some_getLast hne]
    obtain ⟨j,hj⟩:∃j,T.2.length=j+1:=⟨T.2.length-1,by omega⟩
    have hrow:ax Z1 b g 32 j=some z.cells:=by
     have h1:j=T.2.length-1:=by omega
     simp [ax,hbk,hz,List.getLast_eq_getElem,h1]
     exact ⟨_,List.getElem?_eq_getElem (by omega),rfl⟩
    rw [List.length_map,hj] at hu0
    rw [hu0] at ur
    have hnd:=ndig z y.id.dv
    have hj1:(((j:Int)+1)==0)=false:=by simp;omega
    have hj2:IntKind.wrap .i64 (j:Int)=(j:Int):=iV (by omega)
    have hjl:(j:Int)<(j:Int)+1:=by omega
    have hzc:z.cells.length=32:=by simp
    simp [q8,q9,q10,an,ur,y1,hg,hrow,htd,hnd,hj1,hj2,hjl,hzc]
    exact Iff.rfl
  clear q8 q9 q10
  rintro s Z' ⟨q8,q9,q70,hZZ⟩
  rw [hZZ];clear hZZ Z'
  by_cases hl2:(T.2.getLast?.map (·.d))≠some y.id.d
  rotate_left
  ·have hu:(oi file T y).2=T.2:=by unfold oi;rw [←his0,his];exact if_neg fun h=>hl2 h.2
   rw [decide_eq_false hl2] at q70
   simp [q8,q70,bl1,hLB]
   exact ⟨rfl,fin bl1 (Nat.le_refl _) (fun b blk h _ _=>h) ⟨u,u1,by rw [hu];exact S1⟩⟩
  have hu:(oi file T y).2=T.2++[y.id.dv]:=by unfold oi;rw [←his0,his];exact if_pos ⟨rfl,hl2⟩
  rw [decide_eq_true hl2] at q70
  obtain ⟨u2,Z2,ea,hS',hl',⟨b',g',l',hu'⟩,hk'⟩:=S1.append (P:=Tryz.prog) (base:=H.length) (ts:=#[34,34]) (e:=25) (xd:=.slice 25) (x:=.lst [y.id.dv.cells] true) (ys:=[y.id.dv.cells])
   (by simp) (by simp) mD AL (by simp [show aJ.length=32 by decide]) (by decide) (by omega) (by rw [len1];omega) rfl (by simp) (by simp) (by simp;omega)
  have hunot:∀b g l,u=.sl b g 32 0 l→H.length+6≤b:=by
   intro b g l h1
   rcases S1 with ⟨_,h2⟩ | ⟨_,b2,g2,h2,h3,h4⟩
   ·rw [h1] at h2;cases h2
   ·rw [h1] at h2;cases h2;exact h4
  have hkz:∀(b:Nat) (blk:bL),Z1[b]?=some blk→b<H.length+6→Z2[b]?=some blk:=fun b blk h h2=>(hk' b blk h fun b2 g l h3=>by have:=hunot b2 g l h3;omega).1
  have hul:u2.leaf=true∧u2.cells=[u2]:=by rw [hu'];exact ⟨rfl,rfl⟩
  have hb3:H.length≤H.length+3:=by omega
  have u3:=hkz _ _ u1 (by omega)
  have bl3:=hkz _ _ bl1 (by omega)
  have l3:H.length+3<Z2.length:=(List.getElem?_eq_some_iff.1 u3).1
  obtain ⟨Z3,hZ3⟩:∃Z3,Z3=Z2.set (H.length+3) (.rows 1 0 [[u2]]):=⟨_,rfl⟩
  have bl4:Z3[H.length+5]?=some BB:=by rw [hZ3,List.getElem?_set_ne (by omega)];exact bl3
  have est:ao Tryz.prog H.length Z2 34 (.ptr (H.length+3) 0 1 0 0) u2=some Z3:=by
   rw [hZ3]
   simp [ao,u3,hul.1,hul.2,hb3]
  have hd0:aJ.length=32:=by decide
  simp [q8,q9,q70,ur,y1,htd,ah,aq,hd0,ea,est,bl4,hLB]
  refine ⟨rfl,fin bl4 (by rw [hZ3];simp;omega) (fun b blk h h1 h2=>by rw [hZ3,List.getElem?_set_ne (Ne.symm h1)];exact hkz b blk h h2) ⟨u2,by rw [hZ3,List.getElem?_set_self l3],?_⟩⟩
  rw [hu,List.map_append]
  exact hS'.keep fun b g rs hb h=>by rw [hZ3,List.getElem?_set_ne (by omega)];exact h
end Go.Proofs.Ev
namespace Go.Proofs.Ev
open Go.Proofs Go.Sort
variable {σ:aZ}
theorem u4:∀(l:List ar) (a:SK×List ar) (d:List Nat),(∃x∈(l.foldl fq a).2,x.d=d)→(∃x∈a.2,x.d=d)∨∃x∈l,x.d=d
 | [],a,d,h=>.inl h
 | y::l,a,d,h=>by
  rcases u4 l (fq a y) d h with h | ⟨x,hx,h⟩
  ·rcases jT.1 h with h | h
   ·exact .inl h
   ·exact .inr ⟨y,by simp,h⟩
  ·exact .inr ⟨x,by simp [hx],h⟩
theorem vD:∀(l:List aC) (a:SK×List ar) (d:List Nat),(∃x∈(l.foldl lj a).2,x.d=d)→(∃x∈a.2,x.d=d)∨∃x∈l,x.d=d∧bz x.d=false
 | [],a,d,h=>.inl h
 | y::l,a,d,h=>by
  rcases vD l (lj a y) d h with h | ⟨x,hx,h⟩
  ·unfold lj at h
   split at h
   ·exact .inl h
   ·rename_i hz
    rcases jT.1 h with h | h
    ·exact .inl h
    ·exact .inr ⟨y,by simp,h,by simpa using hz⟩
  ·exact .inr ⟨x,by simp [hx],h⟩
theorem vN:∀(l:List aW) (a:SK×List ar) (d:List Nat),(∃x∈(l.foldl oR a).2,x.d=d)→(∃x∈a.2,x.d=d)∨∃c∈l,∃x∈fF c,x.d=d∧bz x.d=false
 | [],a,d,h=>.inl h
 | y::l,a,d,h=>by
  rcases vN l (oR a y) d h with h | ⟨c,hc,h⟩
  ·rcases vD _ _ _ h with h | ⟨x,hx,h⟩
   ·exact .inl h
   ·exact .inr ⟨y,by simp,x,hx,h⟩
  ·exact .inr ⟨c,by simp [hc],h⟩
theorem Ek {x:aC} (h:aB x aM=true):bz x.d=true:=by
 rw [cj h];decide
theorem xD {c:aW} (hc:c.Good) {x:aC} (hx:x∈fF c) (hz:bz x.d=false):x∈dr c:=by
 have ht:=hc.tidy
 unfold sf at ht
 simp only [Bool.and_eq_true,Bool.or_eq_true,decide_eq_true_eq] at ht
 obtain ⟨⟨⟨⟨⟨⟨⟨_,t2⟩,t3⟩,_⟩,_⟩,t6⟩,_⟩,t8⟩:=ht
 have hne:∀{y:aC},x=y→aB y aM=true→False:=fun e h=>by rw [←e] at h;rw [Ek h] at hz;cases hz
 unfold dr jF
 simp only [List.map_append,List.mem_append]
 unfold fF at hx
 rcases List.mem_append.1 hx with hx | hx
 ·simp only [List.mem_cons,List.not_mem_nil,or_false] at hx
  rcases hx with hx | hx | hx | hx
  ·left
   unfold fH
   rcases t2 with t2 | t2
   ·simp at t2
    rw [if_pos (by omega),hx];simp
   ·exact (hne hx t2).elim
  ·right;left
   unfold gK
   rcases t3 with t3 | t3
   ·cases hr:aB c.parent nL with
    | true =>
     rw [←hx] at hr
     rw [cj hr] at hz
     exact absurd hz (by decide)
    | false=>rw [if_pos ⟨t3,rfl⟩,hx];simp
   ·exact (hne hx t3.1).elim
  ·right;right;left
   unfold iz
   rcases t6 with t6 | t6
   ·simp at t6
    rw [if_pos t6,hx];simp
   ·exact (hne hx t6.1).elim
  ·right;right;left
   unfold iz
   rcases t6 with t6 | t6
   ·simp at t6
    rw [if_pos t6,hx];simp
   ·exact (hne hx t6.2).elim
 ·right;right;right
  unfold i8
  rw [List.take_length,List.map_map]
  exact List.mem_map.2 ⟨x,hx,rfl⟩
theorem BG (hd:∀l,(σ.d l).Perm l) {p:aA} (hp:p.Good) (out:List ar):gb out (dQ σ p)=gb out (cP p).2:=by
 rw [Bool.eq_iff_iff]
 refine ⟨fun h=>?_,wn hd hp.ok out⟩
 unfold gb at h ⊢
 rw [List.all_eq_true] at h ⊢
 intro x hx
 have hx2:∃y∈(cP p).2,y.d=x.d:=⟨x,hx,rfl⟩
 unfold cP at hx2
 rw [if_neg (by simp [hp.ok])] at hx2
 have hm:∃y∈cM p,y.d=x.d:=by
  unfold cM
  rcases vN _ _ _ hx2 with h1 | ⟨c,hc,y,hy,h1,h2⟩
  ·rcases u4 _ _ _ h1 with ⟨y,hy,_⟩ | ⟨y,hy,h2⟩
   ·simp at hy
   ·exact ⟨y,by simp [hy],h2⟩
  ·refine ⟨y.dv,?_,h1⟩
   refine List.mem_append.2 (.inr (List.mem_flatten.2 ⟨_,List.mem_map.2 ⟨c,hc,rfl⟩,?_⟩))
   unfold dR
   exact List.mem_map.2 ⟨y,List.mem_filter.2 ⟨xD (hp.good hc) hy h2,by simp [h2]⟩,rfl⟩
 obtain ⟨y,hy,hyd⟩:=hm
 obtain ⟨z,hz,hzd⟩:=(lu (σ.d (cM p)) x.d).2 ⟨y,(hd _).mem_iff.2 hy,hyd⟩
 rw [←hzd]
 exact h z hz
def Nu (s:List ag):Prop:=s.Pairwise fun x y=>bQ x.id.d y.id.d<0
theorem yP:∀(l:List ag) (p:Option ar),sw p l=0→Nu l∧∀d,p=some d→∀x∈l,bQ d.d x.id.d<0
 | [],p,_=>⟨.nil,fun _ _ x hx=>by simp at hx⟩
 | y::l,p,h=>by
  rw [qQ] at h
  by_cases h1:bt y.patch=0
  rotate_left
  ·rw [if_pos h1] at h;exact absurd h h1
  rw [if_neg (by simpa using h1)] at h
  by_cases h2:pJ y.patch=y.id.d
  rotate_left
  ·rw [if_pos h2] at h;cases h
  rw [if_neg (by simpa using h2)] at h
  have h3:sw (some y.id) l=0∧∀d,p=some d→bQ d.d y.id.d<0:=by
   cases p with
   | none=>exact ⟨by simpa using h,fun d hd=>by cases hd⟩
   | some d =>
    by_cases h3:0≤bQ d.d (pJ y.patch)
    ·rw [if_pos (by simpa using h3)] at h;cases h
    ·rw [if_neg (by simpa using h3)] at h
     exact ⟨h,fun d' hd=>by cases hd;rw [←h2];omega⟩
  obtain ⟨a1,a2⟩:=yP l (some y.id) h3.1
  have a2:=a2 y.id rfl
  refine ⟨List.pairwise_cons.2 ⟨a2,a1⟩,fun d hd x hx=>?_⟩
  rcases List.mem_cons.1 hx with rfl | hx
  ·exact h3.2 d hd
  ·have t:=n9.trans d y.id x.id (by simpa [ltOf] using h3.2 d hd) (by simpa [ltOf] using a2 x hx)
   simpa [ltOf] using t
theorem uw {s:List ag} (ha:Nu s) (out:List ar) (q:ag→Bool) (hq:∀x∈s,q x=(!dg out x.id.d&&gb out (cP x.patch).2)) :
 ∀i,i≤s.length→(gv s out i = -1∧(s.take i).find? q=none)∨∃(j:Nat) (x:ag),gv s out i=(j:Int)∧j<i∧s[j]?=some x∧(s.take i).find? q=some x
 | 0,_=>.inl ⟨rfl,rfl⟩
 | i+1,hi=>by
  have hlt:i<s.length:=by omega
  have hx:=List.getElem?_eq_getElem hlt
  have hqx:=hq s[i] (List.getElem_mem hlt)
  rw [gv,hx]
  simp only
  rw [List.take_add_one,hx,Option.toList_some,List.find?_append]
  rcases uw ha out q hq i (by omega) with ⟨h1,h2⟩ | ⟨j,x,h1,h2,h3,h4⟩
  ·rw [h1,h2]
   cases hb:q s[i] with
   | true =>
    right
    refine ⟨i,s[i],?_,by omega,hx,by simp [hb]⟩
    rw [if_pos]
    unfold oe
    rw [←hqx,hb];simp
   | false =>
    left
    rw [if_neg]
    ·exact ⟨rfl,by simp [hb]⟩
    ·unfold oe
     rw [←hqx,hb];simp
  ·right
   have hc:oe s out s[i] (j:Int)=false:=by
    unfold oe
    have hlt2:bQ x.id.d s[i].id.d<0:=by
     have hj:=(List.getElem?_eq_some_iff.1 h3)
     rw [←hj.2]
     exact List.pairwise_iff_getElem.1 ha j i hj.1 hlt h2
    have h5:¬bQ s[i].id.d x.id.d<0:=by
     have:=iq x.id.d s[i].id.d;omega
    rw [Int.toNat_natCast,h3]
    have h6:¬(j:Int)<0:=by omega
    simp [h5,h6]
   rw [h1,hc,if_neg (by decide),h4]
   exact ⟨j,x,rfl,by omega,h3,rfl⟩
theorem fl (hd:∀l,(σ.d l).Perm l) {s:List ag} (ha:Nu s) (hg:∀x∈s,x.patch.Good):∀(n:Nat) (out:List ar),d9 s n out=cn σ s n out
 | 0,out=>rfl
 | n+1,out=>by
  rw [d9,cn]
  rcases uw ha out (wu σ out) (fun x hx=>by unfold wu;rw [BG hd (hg x hx)]) s.length (Nat.le_refl _) with ⟨h1,h2⟩ | ⟨j,x,h1,h2,h3,h4⟩
  ·rw [List.take_length] at h2
   rw [h1,h2]
   cases s[(-1:Int).toNat]?<;>simp
  ·rw [List.take_length] at h4
   rw [h1,h4,Int.toNat_natCast,h3]
   simp only
   rw [if_neg (by omega)]
   exact fl hd ha hg n _
end Go.Proofs.Ev
namespace Go.Proofs.Ev
open Go.Proofs Go.Sort
variable {σ:aZ}
theorem nR (a b:aC):df b a = - df a b:=by
 unfold df
 have h:=iq a.d b.d
 by_cases h0:bQ a.d b.d=0
 ·rw [if_pos h0,if_pos (by omega)]
  by_cases h1:a.n<b.n
  ·rw [if_neg (by omega),if_pos h1,if_pos h1];rfl
  ·by_cases h2:b.n<a.n
   ·rw [if_pos h2,if_neg h1,if_pos h2]
   ·rw [if_neg h2,if_neg h1,if_neg h1,if_neg h2];rfl
 ·rw [if_neg h0,if_neg (by omega)];exact h
theorem vO:∀{a b:List Nat},a.length=b.length→bQ a b=0→a=b
 | [],[],_,_=>rfl
 | [],_::_,h,_=>by simp at h
 | _::_,[],h,_=>by simp at h
 | x::a,y::b,hl,h=>by
  rw [bQ] at h
  split at h
  ·cases h
  ·split at h
   ·cases h
   ·have:x=y:=by omega
    rw [this,vO (by simpa using hl) h]
theorem vP {a b:aC} (h:df a b=0):a=b:=by
 unfold df at h
 by_cases h0:bQ a.d b.d=0
 ·rw [if_pos h0] at h
  have hd:=vO (by rw [a.h,b.h]) h0
  have hn:a.n=b.n:=by
   by_cases h1:a.n<b.n
   ·rw [if_pos h1] at h;cases h
   ·rw [if_neg h1] at h
    by_cases h2:b.n<a.n
    ·rw [if_pos h2] at h;cases h
    ·omega
  cases a;cases b
  simp only at hd hn
  subst hd;subst hn;rfl
 ·rw [if_neg h0] at h;exact absurd h h0
theorem DB (a:aC):df a a=0:=by have:=nR a a;omega
theorem tC {a b c:aC} (h1:df a b<0) (h2:df b c<0):df a c<0:=by
 have:=pE.trans a b c (by simpa [ltOf] using h1) (by simpa [ltOf] using h2)
 simpa [ltOf] using this
def gB (l:List aC):Prop:=l.Pairwise fun a b=>df a b<0
theorem jM {l:List aC} (h:gB l):l.Nodup:=by
 refine List.Pairwise.imp (fun {a b} h e=>?_) h
 rw [e,DB] at h;omega
theorem wN {l m:List aC} (h1:gB l) (h2:gB m) (h:∀x,x∈l↔x∈m):l=m:=by
 refine List.Perm.eq_of_pairwise (fun a b _ _ h3 h4=>?_) h1 h2 ((List.perm_ext_iff_of_nodup (jM h1) (jM h2)).2 h)
 have:=nR a b;omega
theorem uV:∀{l:List aC},pR l=true→gB l
 | [],_=>.nil
 | [a],_=>List.pairwise_singleton _ _
 | a::b::l,h=>by
  rw [pR,Bool.and_eq_true] at h
  have ih:=uV h.2
  refine List.pairwise_cons.2 ⟨fun x hx=>?_,ih⟩
  have hab:df a b<0:=by simpa using h.1
  rcases List.mem_cons.1 hx with rfl | hx
  ·exact hab
  ·exact tC hab ((List.pairwise_cons.1 ih).1 x hx)
theorem kQ {a:SK×List aC} {d:aC} (h:gB a.2):gB (cd a d).2∧∀x,x∈(cd a d).2↔x∈a.2∨x=d:=by
 obtain ⟨k,l⟩:=a
 simp only at h
 unfold cd
 simp only
 have hp:=xT l d
 split
 ·rename_i h1
  obtain ⟨y,hy,hs⟩:=Option.map_eq_some_iff.1 h1
  have hyd:=cj hs
  have hm:=List.mem_of_getElem? hy
  rw [hyd] at hm
  exact ⟨h,fun x=>⟨fun hx=>.inl hx,fun hx=>by rcases hx with hx | rfl<;>assumption⟩⟩
 ·rename_i h1
  have hlt:∀x∈l.take (fV l d),df x d<0:=by
   intro x hx
   obtain ⟨i,hi,rfl⟩:=List.getElem_of_mem hx
   rw [List.length_take] at hi
   rw [List.getElem_take]
   exact CW (by omega) (by omega)
  have hgt:∀x∈l.drop (fV l d),df d x<0:=by
   intro x hx
   obtain ⟨i,hi,rfl⟩:=List.getElem_of_mem hx
   rw [List.length_drop] at hi
   rw [List.getElem_drop]
   have hpl:fV l d<l.length:=by omega
   have h2:=xS hpl
   have h3:df d l[fV l d]<0:=by
    have h4:=nR l[fV l d] d
    by_cases h5:df l[fV l d] d=0
    ·exfalso
     apply h1
     rw [List.getElem?_eq_getElem hpl,Option.map_some,vP h5,(il (a:=d) (b:=d)).2 ⟨rfl,rfl⟩]
    ·omega
   cases i with
   | zero=>simpa using h3
   | succ i=>exact tC h3 (List.pairwise_iff_getElem.1 h _ _ hpl (by omega) (by omega))
  have hsplit:l=l.take (fV l d)++l.drop (fV l d):=(List.take_append_drop _ _).symm
  refine ⟨?_,fun x=>?_⟩
  ·have hl2:=h
   rw [hsplit] at hl2
   obtain ⟨p1,p2,p3⟩:=List.pairwise_append.1 hl2
   refine List.pairwise_append.2 ⟨p1,List.pairwise_cons.2 ⟨hgt,p2⟩,fun x hx y hy=>?_⟩
   rcases List.mem_cons.1 hy with rfl | hy
   ·exact hlt x hx
   ·exact p3 x hx y hy
  ·rw [List.mem_append,List.mem_cons]
   conv=>rhs;rw [hsplit]
   rw [List.mem_append]
   constructor
   ·rintro (h | h | h)
    ·exact .inl (.inl h)
    ·exact .inr h
    ·exact .inl (.inr h)
   ·rintro ((h | h) | h)
    ·exact .inl h
    ·exact .inr (.inr h)
    ·exact .inr (.inl h)
theorem nu:∀(l:List aC) (a:SK×List aC),gB a.2→gB (l.foldl cd a).2∧∀x,x∈(l.foldl cd a).2↔x∈a.2∨x∈l
 | [],a,h=>⟨h,fun x=>by simp⟩
 | d::l,a,h=>by
  obtain ⟨h1,h2⟩:=kQ (d:=d) h
  obtain ⟨h3,h4⟩:=nu l (cd a d) h1
  refine ⟨h3,fun x=>?_⟩
  rw [List.foldl_cons,h4,h2,List.mem_cons]
  constructor
  ·rintro ((h | h) | h)
   ·exact .inl h
   ·exact .inr (.inl h)
   ·exact .inr (.inr h)
  ·rintro (h | h | h)
   ·exact .inl (.inl h)
   ·exact .inl (.inr h)
   ·exact .inr h
def b9 (σ:aZ):Prop:=∀l,(σ.i l).Perm l∧(σ.i l).Pairwise fun a b=>¬df b a<0
theorem b9.strict (hi:b9 σ) {l:List aC} (h:l.Nodup):gB (σ.i l):=by
 obtain ⟨h1,h2⟩:=hi l
 have h3:=h1.nodup_iff.2 h
 refine List.Pairwise.imp (fun {a b} h=>?_) (List.Pairwise.and h2 h3)
 obtain ⟨h4,h5⟩:=h
 have h6:=nR a b
 by_cases h7:df a b=0
 ·exact absurd (vP h7) h5
 ·omega
theorem b9.ins (hi:b9 σ) {l:List aC} (h:l.Nodup):σ.i l=(l.foldl cd (.exact,[])).2:=by
 obtain ⟨h1,h2⟩:=nu l (.exact,[]) .nil
 exact wN (hi.strict h) h1 fun x=>by rw [h2,(hi l).1.mem_iff];simp
theorem Ar:b9 ⟨iS df,iS fun a b:ar=>bQ a.d b.d⟩:=by
 intro l
 refine ⟨ky pE l,?_⟩
 have h:=(pdq_sorts (ltOf df) pE l.toArray 0 l.toArray.size (Lib.bitLen l.toArray.size) true true (Nat.zero_le _) (Nat.le_refl _) (Or.inl rfl))
 obtain ⟨h1,h2⟩:=h
 have hs:=h1.1
 rw [List.pairwise_iff_getElem]
 intro i j hi hj hij
 have h3:=h2 i j (Nat.zero_le _) hij (by rw [←hs];simpa [iS] using hj)
 simp only [ltOf,decide_eq_false_iff_not] at h3
 have g:∀k (hk:k<(iS df l).length),(iS df l)[k]=(pdq (ltOf df) l.toArray 0 l.toArray.size (Lib.bitLen l.toArray.size) true true)[k]!:=fun k hk=>by
  unfold iS at hk ⊢
  rw [Array.getElem_toList,getElem!_pos _ k (by simpa using hk)]
 show ¬df (iS df l)[j] (iS df l)[i]<0
 rw [g j hj,g i hi];exact h3
end Go.Proofs.Ev
namespace Go.Proofs.Ev
open Go.Proofs Go.Sort
variable {σ:aZ}
def kj (a:aG):aG:={ a with overK:=.nil }
theorem CO {c:aW} {first:Nat} {y:aG} (h:y∈cH c first):y.over=[]∨y.over=c.over:=by
 unfold cH at h
 repeat' split at h
 all_goals first
  | (simp at h;subst h;first | exact .inl rfl | exact .inr rfl)
  | skip
 rcases List.mem_append.1 h with h | h
 ·obtain ⟨i,_,rfl⟩:=List.mem_map.1 h
  exact .inl rfl
 ·obtain ⟨i,_,rfl⟩:=List.mem_map.1 h
  exact .inl rfl
theorem l7:∀(l:List aW) (own:List aG) (y:aG),y∈co l own→y∈own∨y.over=[]∨∃c∈l,y.over=c.over
 | [],own,y,h=>.inl h
 | c::l,own,y,h=>by
  rcases l7 l _ y h with h | h | ⟨c',hc,h⟩
  ·rcases List.mem_append.1 h with h | h
   ·exact .inl h
   ·rcases CO h with h | h
    ·exact .inr (.inl h)
    ·exact .inr (.inr ⟨c,by simp,h⟩)
  ·exact .inr (.inl h)
  ·exact .inr (.inr ⟨c',by simp [hc],h⟩)
def Fp (p:aA):Prop:=∀c∈p.changes,∀x∈c.over,bz x.d=false→x.d≠p.dig.d
theorem sj {p:aA} (hp:p.Good) (hf:Fp p) {y:aG} (hy:y∈aT p):(y.over.map fun z=>bi z p.dig).Nodup:=by
 rw [hp.atoms] at hy
 rcases l7 _ _ y hy with h | h | ⟨c,hc,h⟩
 ·simp at h
 ·rw [h];exact List.nodup_nil
 ·rw [h]
  have hs:=jM (uV (hp.good hc).asc)
  rw [List.nodup_iff_pairwise_ne] at hs ⊢
  refine List.pairwise_map.2 ?_
  refine List.Pairwise.imp_of_mem (fun {a b} ha hb hne he=>hne ?_) hs
  have ha:=hf c hc a ha
  have hb:=hf c hc b hb
  unfold bi at he
  cases za:bz a.d with
  | true =>
   cases zb:bz b.d with
   | true =>
    have hd:a.d=b.d:=by unfold bz at za zb;rw [of_decide_eq_true za,of_decide_eq_true zb]
    have hn:a.n=b.n:=by
     rw [za,zb] at he
     simp only [Bool.true_and,decide_eq_true_eq] at he
     by_cases h1:0≤a.n<;>by_cases h2:0≤b.n
     ·rw [if_pos h1,if_pos h2] at he;have:=congrArg aC.n he;simpa using this
     ·rw [if_pos h1,if_neg h2] at he;have:=congrArg aC.n he;simp only at this;omega
     ·rw [if_neg h1,if_pos h2] at he;have:=congrArg aC.n he;simp only at this;omega
     ·rw [if_neg h1,if_neg h2] at he;exact congrArg aC.n he
    exact cj ((il (a:=a) (b:=b)).2 ⟨hd,hn⟩)
   | false =>
    rw [za,zb] at he
    simp only [Bool.true_and,Bool.false_and,decide_eq_true_eq,Bool.false_eq_true,if_false] at he
    split at he
    ·exact absurd (congrArg aC.d he).symm (hb zb)
    ·exact he
  | false =>
   cases zb:bz b.d with
   | true =>
    rw [za,zb] at he
    simp only [Bool.true_and,Bool.false_and,decide_eq_true_eq,Bool.false_eq_true,if_false] at he
    split at he
    ·exact absurd (congrArg aC.d he) (ha za)
    ·exact he
   | false =>
    rw [za,zb] at he
    simpa using he
theorem BM (d:ar) (l:List aC):oz l d=(l.map fun z=>bi z d).foldl cd (.exact,[]):=by
 unfold oz;rw [List.foldl_map]
theorem sG {a b:ar} (h:a.d=b.d):a=b:=by
 cases a;cases b;simp only at h;subst h;rfl
theorem IC {d:ar} {x:aG} {i:Nat} (h:x.id=bj (i:Int)):yH d x=Fj d x:=by
 unfold yH Fj
 rw [h]
 unfold bi bj
 rw [if_pos (by simp [show bz aM.d=true by decide])]
theorem mc (hi:b9 σ) {p:aA} (hp:p.Good) (hf:Fp p):(dE p).map kj=(bK σ p).map kj:=by
 have hd:(⟨pJ p,l4 p,lZ p⟩:ar)=p.dig:=by
  refine sG ?_
  show pJ p=_
  unfold pJ;rw [if_pos hp.ok];rfl
 unfold dE bK
 rw [if_pos hp.ok,hd,List.map_map,List.map_map]
 refine List.map_congr_left fun y hy=>?_
 obtain ⟨i,hil,he⟩:=List.getElem_of_mem hy
 have hid:y.id=bj (i:Int):=by
  have h1:(aT p)[i]?=some y:=by rw [List.getElem?_eq_getElem hil,he]
  rw [hp.atoms] at h1
  exact l6 p.changes [] (by intro i y h;simp at h) i y h1
 simp only [Function.comp]
 unfold kj Cx ss
 rw [IC hid,BM,←hi.ins (sj hp hf hy)]
theorem zC (s:List ag):∀(n:Nat) (out:List ar),∃m,cn σ s n out=out++m
 | 0,out=>⟨[],by rw [cn];simp⟩
 | n+1,out=>by
  rw [cn]
  cases s.find? (wu σ out) with
  | none=>exact ⟨[],by simp⟩
  | some x =>
   obtain ⟨m,hm⟩:=zC s n (out++[x.id])
   exact ⟨x.id::m,by simp only;rw [hm];simp⟩
theorem us {s:List ag}:∀(n:Nat) (out:List ar) (e:List Nat),dg (cn σ s n out) e=true→dg out e=false→∃out' x,x∈s∧x.id.d=e∧wu σ out' x=true∧∃m,cn σ s n out=out'++x.id::m
 | 0,out,e,h,h0=>by rw [cn] at h;rw [h] at h0;cases h0
 | n+1,out,e,h,h0=>by
  rw [cn] at h ⊢
  cases hf:s.find? (wu σ out) with
  | none=>rw [hf] at h;simp only at h;rw [h] at h0;cases h0
  | some x =>
   rw [hf] at h
   simp only at h ⊢
   have hx:=List.mem_of_find?_eq_some hf
   have ho:=List.find?_some hf
   by_cases he:x.id.d=e
   ·refine ⟨out,x,hx,he,ho,?_⟩
    obtain ⟨m,hm⟩:=zC (σ:=σ) s n (out++[x.id])
    exact ⟨m,by rw [hm];simp⟩
   ·refine us n (out++[x.id]) e h ?_
    unfold dg at h0 ⊢
    rw [List.any_append,h0]
    simpa using he
theorem IT (hd:∀l,(σ.d l).Perm l) {s:List ag} (F:pL σ s) {x:ag} (hx:x∈s):Fp x.patch:=by
 intro c hc y hy hz he
 obtain ⟨out,x',hx',h1,h2,_⟩:=us (σ:=σ) _ _ _ (F.cov x hx) rfl
 have hxx:=uniq F.good.2.1 hx' hx h1
 subst hxx
 have hp:=F.good.1 x' hx'
 simp only [wu,Bool.and_eq_true,Bool.not_eq_true'] at h2
 obtain ⟨h3,h4⟩:=h2
 unfold gb at h4
 rw [List.all_eq_true] at h4
 have hm:y.dv∈cM x'.patch:=by
  unfold cM
  refine List.mem_append.2 (.inr (List.mem_flatten.2 ⟨_,List.mem_map.2 ⟨c,hc,rfl⟩,?_⟩))
  unfold dR
  exact List.mem_map.2 ⟨y,List.mem_filter.2 ⟨xD (hp.good hc) (by unfold fF;simp [hy]) hz,by simp [hz]⟩,rfl⟩
 obtain ⟨z,hzm,hzd⟩:=(lu (σ.d (cM x'.patch)) y.d).2 ⟨y.dv,(hd _).mem_iff.2 hm,rfl⟩
 have:=h4 z hzm
 rw [hzd,he,F.named x' hx'] at this
 rw [this] at h3;cases h3
end Go.Proofs.Ev
namespace Go.Proofs.Ev
open Go.Proofs Go.Sort
variable {σ:aZ}
def dj (l:List aC) (d:aC):Bool:=l.any fun x=>aB x d
def px (out:List aG) (d:aC):Bool:=out.any fun y=>decide (y.kind=7)&&dj y.over d
def vi (x:aG) (out:List aG):List aG:=if px out x.id then out else x::out
def gk (l:List aG):List aG:=l.foldr vi []
def CM (l:List aG) (d:aC):List aC:=(l.filter fun y=>dj y.over d).map fun y=>y.id
def vd (l:List aG) (d:aC):SK×List aC:=(CM l d).foldl cd (.exact,[])
theorem wk (d d' y:aC):∀M:List (aC×List aC),fj (mY M d y) d'=fj M d'++if aB d d' then [y] else []
 | []=>by simp only [mY,fj];cases aB d d'<;>simp
 | x::M=>by
  rw [mY,fj]
  cases h:aB x.1 d with
  | true =>
   have hx:=cj h
   rw [if_pos rfl,fj,hx]
   cases h2:aB d d'<;>simp
  | false =>
   rw [if_neg (by decide),fj,wk d d' y M]
   cases h2:aB x.1 d' with
   | true =>
    have hx:=cj h2
    have h3:aB d d'=false:=by rw [←hx,nM];exact h
    simp [h3]
   | false=>simp
theorem I2 (a:List aC) (x d:aC):mR (wX a x) d=(mR a d||aB x d):=by
 unfold wX
 split
 ·rename_i hx
  cases h:aB x d with
  | true=>rw [←cj h,hx];rfl
  | false=>simp
 ·simp [mR]
theorem GU (x:aG) (d:aC):∀(l:List aC) (a:KS),mR (l.foldl (jA x) a).1 d=(mR a.1 d||(decide (x.kind=7)&&dj l d))∧fj (l.foldl (jA x) a).2 d=fj a.2 d++(l.filter fun z=>aB z d).map fun _=>x.id
 | [],a=>by simp [dj]
 | z::l,a=>by
  obtain ⟨h1,h2⟩:=GU x d l (jA x a z)
  rw [List.foldl_cons,h1,h2]
  unfold jA
  refine ⟨?_,?_⟩
  ·simp only
   by_cases hk:x.kind=7
   ·rw [if_pos hk,I2];simp [hk,dj,Bool.or_assoc]
   ·rw [if_neg hk];simp [hk]
  ·simp only
   rw [wk,List.filter_cons]
   cases aB z d<;>simp
theorem GR {l:List aC} (h:l.Nodup) (d z:aC):((l.filter fun x=>aB x d).map fun _=>z)=if dj l d then [z] else []:=by
 induction l with
 | nil=>rfl
 | cons x l ih =>
  obtain ⟨h1,h2⟩:=List.nodup_cons.1 h
  have ih:=ih h2
  rw [List.filter_cons]
  have hc:dj (x::l) d=(aB x d||dj l d):=by simp [dj]
  rw [hc]
  cases hx:aB x d with
  | true =>
   have hl:dj l d=false:=by
    rw [Bool.eq_false_iff]
    intro h3
    obtain ⟨y,hy,hyd⟩:=List.any_eq_true.1 h3
    rw [←cj hx] at hyd
    rw [cj hyd] at hy
    exact h1 hy
   rw [hl] at ih
   simp only [Bool.true_or,if_true,List.map_cons]
   rw [ih];simp
  | false=>simpa using ih
theorem Av:∀(l:List aG) (hn:∀x∈l,x.over.Nodup) (d:aC),mR (l.reverse.foldl iT ([],[])).1 d=px (gk l) d∧fj (l.reverse.foldl iT ([],[])).2 d=(CM (gk l) d).reverse
 | [],_,d=>by simp [mR,px,gk,fj,CM]
 | x::l,hn,d=>by
  have ih:∀e,mR (l.reverse.foldl iT ([],[])).1 e=px (gk l) e∧fj (l.reverse.foldl iT ([],[])).2 e=(CM (gk l) e).reverse:=fun e=>Av l (fun y hy=>hn y (by simp [hy])) e
  have hx:=hn x (by simp)
  rw [List.reverse_cons,List.foldl_append]
  simp only [List.foldl_cons,List.foldl_nil]
  have he:gk (x::l)=vi x (gk l):=rfl
  rw [he]
  obtain ⟨a,ha⟩:∃a,a=l.reverse.foldl iT ([],[]):=⟨_,rfl⟩
  rw [←ha] at ih ⊢
  rw [iT,vi,(ih x.id).1]
  cases hr:px (gk l) x.id with
  | true=>simp only [if_true];exact ih d
  | false =>
   simp only [Bool.false_eq_true,if_false]
   obtain ⟨h1,h2⟩:=GU x d x.over a
   rw [h1,h2,(ih d).1,(ih d).2,GR hx]
   refine ⟨?_,?_⟩
   ·unfold px;rw [List.any_cons,Bool.or_comm]
   ·unfold CM
    rw [List.filter_cons]
    cases dj x.over d<;>simp
theorem nl (l:List aG):(gk l).Sublist l:=by
 induction l with
 | nil=>exact .slnil
 | cons x l ih =>
  show (vi x (gk l)).Sublist (x::l)
  unfold vi
  split
  ·exact ih.cons x
  ·exact ih.cons₂ x
theorem D0 (hi:b9 σ) {l:List aG} (hn:∀x∈l,x.over.Nodup) (hd:(l.map fun x=>x.id).Nodup) (d:aC):σ.i (fj (l.reverse.foldl iT ([],[])).2 d)=(vd (gk l) d).2:=by
 rw [(Av l hn d).2]
 have h1:(CM (gk l) d).Nodup:=by
  unfold CM
  exact ((List.filter_sublist.trans (nl l)).map _).nodup hd
 have h2:(CM (gk l) d).reverse.Nodup:=(List.reverse_perm _).nodup_iff.2 h1
 obtain ⟨h3,h4⟩:=nu (CM (gk l) d) (.exact,[]) .nil
 refine wN (hi.strict h2) h3 fun x=>?_
 unfold vd
 rw [h4,(hi _).1.mem_iff,List.mem_reverse];simp
theorem Mg (l:List aG) (d:aC):px (l.map kj) d=px l d:=by unfold px;rw [List.any_map];rfl
theorem A1:∀l:List aG,gk (l.map kj)=(gk l).map kj
 | []=>rfl
 | x::l=>by
  show vi (kj x) (gk (l.map kj))=(vi x (gk l)).map kj
  rw [A1 l]
  unfold vi
  rw [Mg,show (kj x).id=x.id from rfl]
  split<;>rfl
theorem KO (l:List aG) (d:aC):vd (l.map kj) d=vd l d:=by
 unfold vd CM
 rw [List.filter_map,List.map_map];rfl
theorem I9 {l m:List aG} (h:l.map kj=m.map kj) (d:aC):vd (gk l) d=vd (gk m) d:=by
 rw [←KO (gk l),←A1,h,A1,KO]
end Go.Proofs.Ev
namespace Go.Proofs.Ev
open Go.Proofs Go.Sort
variable {σ:aZ}
structure fa (s:List ag):Prop where
 good:cr s
 asc:Nu s
 named:Fu s
 free:∀x∈s,Fp x.patch
theorem Jq (hd:∀l,(σ.d l).Perm l) {s:List ag} (F:pL σ s) (ha:Nu s):fa s:=⟨F.good,ha,F.named,fun _ hx=>IT hd F hx⟩
theorem fa.keep {s:List ag} (P:fa s) (ids:List ar):fa (cL s ids) :=
 ⟨ul P.good ids,P.asc.filter _,fun x hx=>P.named x (List.mem_filter.1 hx).1,fun x hx=>P.free x (List.mem_filter.1 hx).1⟩
def cu (s:List ag) (L:List ar):List aG:=(L.map fun d=>dE (bY s d.d)).flatten
def xO (σ:aZ) (s:List ag) (L:List ar):List aG:=(L.map fun d=>bK σ (bY s d.d)).flatten
def dH (s:List ag):List aG:=cu s (s.map fun x=>x.id)
def aU (s:List ag) (id:aC):Option aG:=(dH s).find? fun x=>aB x.id id
theorem lK (hi:b9 σ) {s:List ag} (P:fa s):∀{L:List ar},(∀d∈L,fU s d.d=true)→(cu s L).map kj=(xO σ s L).map kj
 | [],_=>rfl
 | d::L,h=>by
  have ih:=lK hi P (L:=L) fun e he=>h e (by simp [he])
  obtain ⟨hp,x,hx,_,hxp⟩:=bX P.good (h d (by simp))
  have h1:=mc hi hp (by rw [←hxp];exact P.free x hx)
  unfold cu xO at ih ⊢
  simp only [List.map_cons,List.flatten_cons,List.map_append]
  rw [h1,ih]
def yC (σ:aZ) (s:List ag):List aG:=(s.map fun x=>bK σ x.patch).flatten
theorem wZ {s:List ag} (P:fa s):xO σ s (s.map fun x=>x.id)=yC σ s:=by
 unfold xO yC
 rw [List.map_map]
 congr 1
 refine List.map_congr_left fun x hx=>?_
 simp only [Function.comp]
 rw [(ue P.good hx).2]
theorem sH {s:List ag} (P:fa s):∀d∈s.map (fun x=>x.id),fU s d.d=true:=by
 intro d hd
 obtain ⟨x,hx,rfl⟩:=List.mem_map.1 hd
 exact (ue P.good hx).1
theorem sW {s:List ag} {a:aG}:a∈yC σ s↔∃x∈s,a∈bK σ x.patch:=by
 unfold yC
 rw [List.mem_flatten]
 constructor
 ·rintro ⟨l,hl,ha⟩
  obtain ⟨x,hx,rfl⟩:=List.mem_map.1 hl
  exact ⟨x,hx,ha⟩
 ·rintro ⟨x,hx,ha⟩
  exact ⟨_,List.mem_map.2 ⟨x,hx,rfl⟩,ha⟩
theorem Gk {s:List ag} (P:fa s) (id:aC):(yC σ s).find? (fun x=>aB x.id id)=gp σ s id:=by
 cases hf:(yC σ s).find? (fun x=>aB x.id id) with
 | some b =>
  obtain ⟨x,hx,hb⟩:=sW.1 (List.mem_of_find?_eq_some hf)
  have hs:=List.find?_some hf
  have:=Gl P.good P.named hx hb
  rw [cj hs] at this
  exact this.symm
 | none =>
  cases hg:gp σ s id with
  | none=>rfl
  | some a =>
   rw [List.find?_eq_none] at hf
   unfold gp at hg
   split at hg
   ·rename_i hh
    obtain ⟨_,x,hx,h1,h2⟩:=bX P.good hh
    rw [←h2] at hg
    exact absurd (List.find?_some hg) (hf a (sW.2 ⟨x,hx,List.mem_of_find?_eq_some hg⟩))
   ·cases hg
theorem nS (hi:b9 σ) {s:List ag} (P:fa s) (id:aC):(aU s id).map kj=(gp σ s id).map kj:=by
 have h:=lK hi P (sH P)
 rw [wZ P] at h
 rw [←Gk P]
 unfold aU dH
 have k:∀l:List aG,(l.find? fun x=>aB x.id id).map kj=(l.map kj).find? fun x=>aB x.id id:=fun l=>by rw [List.find?_map];rfl
 rw [k,k,h]
theorem BN (hi:b9 σ) {p:aA} (hp:p.Good) (hf:Fp p) {a:aG} (ha:a∈bK σ p):a.over.Nodup:=by
 unfold bK at ha
 obtain ⟨y,hy,rfl⟩:=List.mem_map.1 ha
 show (σ.i (y.over.map fun z=>bi z p.dig)).Nodup
 exact (hi _).1.nodup_iff.2 (sj hp hf hy)
theorem wA {p:aA} (hp:p.Good):(bK σ p).Pairwise fun a b=>a.id≠b.id:=by
 rw [List.pairwise_iff_getElem]
 intro i j hi hj hij he
 have h1:=(jY (σ:=σ) hp (List.getElem?_eq_getElem hi)).2
 have h2:=(jY (σ:=σ) hp (List.getElem?_eq_getElem hj)).2
 rw [he,h2] at h1
 omega
theorem CR {s:List ag} (P:fa s) {L:List ar} (hL:∀d∈L,fU s d.d=true) (hn:(dG L).Nodup):((xO σ s L).map fun x=>x.id).Nodup:=by
 rw [List.nodup_iff_pairwise_ne]
 refine List.pairwise_map.2 ?_
 unfold xO
 rw [List.pairwise_flatten]
 refine ⟨fun l hl=>?_,?_⟩
 ·obtain ⟨d,hd,rfl⟩:=List.mem_map.1 hl
  exact wA (bX P.good (hL d hd)).1
 ·refine List.pairwise_map.2 ?_
  unfold dG at hn
  rw [List.nodup_iff_pairwise_ne] at hn
  refine List.Pairwise.imp_of_mem (fun {d e} hd he hne a ha b hb hab=>hne ?_) (List.pairwise_map.1 hn)
  have key:∀{d:ar} {a:aG},d∈L→a∈bK σ (bY s d.d)→a.id.d=d.d:=fun {d a} hd ha=>by
   obtain ⟨hp,x,hx,h1,h2⟩:=bX P.good (hL d hd)
   obtain ⟨i,hi⟩:=List.getElem?_of_mem ha
   rw [(jY hp hi).1,←h2,P.named x hx,h1]
  rw [←key hd ha,←key he hb,hab]
theorem GG (s:List ag) (L:List ar):qh σ s L L.length=(xO σ s L).reverse:=by
 unfold qh xO
 rw [←List.length_reverse,List.take_length,List.reverse_flatten,List.map_reverse,List.map_map]
 rfl
theorem jn (s:List ag):∀d∈cn σ s s.length [],fU s d.d=true:=by
 intro d hd
 rcases lG s _ _ d hd with h | ⟨x,hx,rfl⟩
 ·cases h
 ·unfold fU;rw [List.find?_isSome];exact ⟨x,hx,by simp⟩
def ju (s:List ag) (id:aC):List aC:=if (aU s id).isSome then (vd (gk (cu s (d9 s s.length []))) id).2 else []
theorem xG (hi:b9 σ) (hd:∀l,(σ.d l).Perm l) {s:List ag} (P:fa s) (id:aC):fi σ s id=ju s id:=by
 have hf:=nS hi P id
 have hs:(aU s id).isSome=(gp σ s id).isSome:=by
  cases h1:aU s id<;>cases h2:gp σ s id<;>rw [h1,h2] at hf<;>first | rfl | cases hf
 unfold fi ju
 rw [hs]
 split
 ·have ho:=fl hd P.asc P.good.1 s.length []
  have hh:=jn (σ:=σ) s
  unfold ow
  rw [GG,D0 hi]
  ·rw [ho,I9 (lK hi P hh)]
  ·intro x hx
   unfold xO at hx
   obtain ⟨l,hl,hxl⟩:=List.mem_flatten.1 hx
   obtain ⟨d,hd2,rfl⟩:=List.mem_map.1 hl
   obtain ⟨hp,y,hy,_,hyp⟩:=bX P.good (hh d hd2)
   exact BN hi hp (by rw [←hyp];exact P.free y hy) hxl
  ·exact CR P hh (jh s _ _ (by simp [dG]))
 ·rfl
def oL (line:aC) (a:(Bool×Bool)×List gG) (d:ar) (kl:List aC):(Bool×Bool)×List gG :=
 let b:(Bool×Bool)×List gG:=if d.d=line.d then ((true,true),a.2++[⟨1,d,line⟩]) else a
 if b.1.1=false then b else if b.1.2=true∧kl.length≠0 then ((b.1.1,false),b.2++[⟨2,d,kl.getD 0 line⟩]) else if b.1.2=false∧kl.length=0 then ((b.1.1,true),b.2++[⟨3,d,line⟩]) else b
def mw (s:List ag) (line:aC) (L:List ar):Nat→(Bool×Bool)×List gG
 | 0=>((false,false),[])
 | n+1=>match L[n]? with
  | some d=>oL line (mw s line L n) d (ju (cL s (L.take (n+1))) line)
  | none=>mw s line L n
theorem zM (hi:b9 σ) (hd:∀l,(σ.d l).Perm l) {s:List ag} (P:fa s) (line:aC) {L:List ar} (hn:(dG L).Nodup):∀n,n≤L.length→qo σ s line L n=mw s line L n∧((mw s line L n).1.1=true→∃d∈L.take n,d.d=line.d)
 | 0,_=>⟨rfl,fun h=>by cases h⟩
 | n+1,hl=>by
  obtain ⟨h1,h2⟩:=zM hi hd P line hn n (by omega)
  have hx:L[n]?=some L[n]:=List.getElem?_eq_getElem (by omega)
  unfold qo mw
  rw [hx]
  simp only
  rw [h1,←xG hi hd (P.keep _)]
  obtain ⟨a,ha⟩:∃a,a=mw s line L n:=⟨_,rfl⟩
  obtain ⟨d,hdd⟩:∃d,d=L[n]:=⟨_,rfl⟩
  obtain ⟨kl,hkl⟩:∃kl,kl=fi σ (cL s (L.take (n+1))) line:=⟨_,rfl⟩
  rw [←ha] at h2
  rw [←ha,←hdd]
  unfold kD
  simp only [←hkl]
  have htk:L.take (n+1)=L.take n++[d]:=by rw [List.take_add_one,hx,hdd];rfl
  obtain ⟨⟨th,al⟩,ev⟩:=a
  simp only at h2
  have hnot:th=true→d.d≠line.d:=fun h3 h4=>by
   obtain ⟨e,he,hed⟩:=h2 h3
   have h5:(dG (L.take (n+1))).Nodup:=by
    unfold dG at hn ⊢
    rw [List.map_take]
    exact (List.take_sublist _ _).nodup hn
   rw [htk] at h5
   unfold dG at h5
   rw [List.map_append,List.nodup_append] at h5
   exact h5.2.2 e.d (List.mem_map.2 ⟨e,he,rfl⟩) d.d (by simp) (by rw [hed,h4])
  refine ⟨?_,?_⟩
  ·unfold oL
   by_cases hdl:d.d=line.d
   ·cases th with
    | true=>exact absurd hdl (hnot rfl)
    | false =>
     by_cases h0:kl.length=0<;>simp [hdl,h0]
   ·cases th with
    | false=>simp [hdl]
    | true =>
     by_cases h0:kl.length=0<;>cases al<;>simp [hdl,h0]
  ·intro h3
   rw [htk]
   by_cases hdl:d.d=line.d
   ·exact ⟨d,by simp,hdl⟩
   ·have:th=true:=by
     unfold oL at h3
     rw [if_neg hdl] at h3
     simp only at h3
     cases th with
     | true=>rfl
     | false=>simp at h3
    obtain ⟨e,he,hed⟩:=h2 this
    exact ⟨e,by simp [he],hed⟩
end Go.Proofs.Ev
