/- Part 26 of the proof that quiltlaw38.BlameNames returns true: no statement of its own. -/
import Derived.Test.YtckbkhfaahpanaaGreatDoorN25
import Derived.Test.YtckbkhfaahpanaaGreatDoorN23
import Derived.Test.YtckbkhfaahpanaaGreatDoorTie
import Derived.JoinedCond
import Derived.KernelRfl
set_option linter.all false
namespace Go.Proofs.Ev
open Go.Proofs
variable {C:Cfg} {σ:Sorts}
theorem batoms_eq (S:SettingU C σ) (v:AV) (hv:v.leaf=true) (hc:v.cells=[v]) {base:Nat} {H:Heap} (K:AV→Heap→Prop) :
 CallW Tryz.prog C base (.fn 31 []) [v] H K=K (.fn 63 [.ptr H.length 0 1 0 0]) (H++[.rows 1 0 [[v]]]):=by
 refine CallW.eq (call_rule (S.plainU _ (by decide)).1 (S.plainU _ (by decide)).2 (func_rule Tryz.func31 rfl (S.prim _ (by decide)) (by simp) (by kernel_rfl) ?_)) K
 unfold Tryz.f31
 simp [argS,hv,hc]
def ordA (σ:Sorts) (s:List StoredV) (L:List DigV):List AtV:=(L.map fun d=>atomsP σ (getP s d.d)).flatten
theorem ordA_succ {s:List StoredV} {L:List DigV} {j:Nat} {d:DigV} (h:L[j]?=some d):ordA σ s (L.take (j+1))=ordA σ s (L.take j)++atomsP σ (getP s d.d):=by
 unfold ordA;rw [List.take_add_one,h];simp
theorem ordA_len {s:List StoredV} (hs:SetGood s) {L:List DigV} (hL:∀d∈L,hasS s d.d=true):(ordA σ s L).length≤90000*L.length :=
 flatten_len fun d hd=>atomsP_len (getP_good hs (hL d hd)).1
set_option maxRecDepth 100000 in
set_option maxHeartbeats 4000000 in
theorem batoms_walk (S:SettingU C σ) {s0:List StoredV} {k:SK} (hs:SetGood s0) (h8:s0.length≤8) {base bl bs:Nat} {I:List AtV→Heap→Prop} (happ:∀l X L,I l X→I l (X++L)) (hb:∀l X,I l X→base≤X.length∧blkRow X bs 0 1 0=some [slAV k (s0.map StoredV.cells)])
 (hy:∀l X x,I l X→l.length≤2^20→CallW Tryz.prog C base (.yld bl) [.agg (AtV.cells x)] X fun v X'=>v=.bool true∧I (l++[x]) X')
 {X0:Heap} (h0:I [] X0) (K:AV→Heap→Prop) (hK:∀X,I (ordA σ s0 (ordP σ s0 s0.length [])) X→K (.tup []) X) :
 FuncW Tryz.prog C base 63 [.yld bl,.ptr bs 0 1 0 0] X0 K:=by
 refine func_rule Tryz.func63 rfl (S.prim _ (by decide)) (by simp) (by kernel_rfl) ?_
 unfold Tryz.f63
 obtain ⟨L,hL⟩:∃L,L=ordP σ s0 s0.length []:=⟨_,rfl⟩
 have hLm:∀d∈L,hasS s0 d.d=true:=by
  intro d hd
  rw [hL] at hd
  rcases ordP_mem s0 _ _ d hd with h | ⟨x,hx,rfl⟩
  ·cases h
  ·unfold hasS;rw [List.find?_isSome];exact ⟨x,hx,by simp⟩
 have hLl:L.length≤8:=by rw [hL];have:=ordP_len (σ:=σ) s0 s0.length [];simp at this;omega
 have eo:=(ret_Order S.toSettingS s0 k hs).eq
 rw [←hL] at eo hK
 have hOl:∀j,(ordA σ s0 (L.take j)).length≤720000:=fun j=>by
  have h1:=ordA_len (σ:=σ) hs (L:=L.take j) fun d hd=>hLm d (List.mem_of_mem_take hd)
  have h2:(L.take j).length≤8:=by simp;omega
  omega
 obtain ⟨_,hb0⟩:=hb [] X0 h0
 simp [argS,hb0,eo]
 refine loop_count L.length (fun j s X=>s 0=.yld bl∧s 1=.ptr bs 0 1 0 0∧s 12=slAV (nlK L) (L.map DigV.cells)∧s 13=.int .i64 L.length∧s 14=.int .i64 j∧I (ordA σ s0 (L.take j)) X) ?_ ?_
 ·exact ⟨rfl,rfl,rfl,rfl,rfl,h0⟩
 rintro j s X ⟨q0,q1,q12,q13,q14,hI⟩ hj
 by_cases h:j<L.length
 rotate_left
 ·have h':j=L.length:=by omega
  subst h'
  rw [List.take_length] at hI
  simp [q0,q1,q12,q13,q14]
  exact hK X hI
 obtain ⟨d,hd⟩:∃d,d=L[j]:=⟨_,rfl⟩
 have hdm:d∈L:=by rw [hd];exact List.getElem_mem h
 have hsu:=ordA_succ (σ:=σ) (s:=s0) (L:=L) (j:=j) (d:=d) (by rw [hd];exact List.getElem?_eq_getElem h)
 obtain ⟨hbX,_⟩:=hb _ X hI
 obtain ⟨hpg,_⟩:=getP_good hs (hLm d hdm)
 have eg:=(ret_GetP S.toSettingS s0 k d hs.2.2).eq
 have ea:=(ret_Atoms S.toSettingQ (getP s0 d.d) hpg).eq
 have hAl:=atomsP_len (σ:=σ) hpg
 obtain ⟨p,hp⟩:∃p,p=getP s0 d.d:=⟨_,rfl⟩
 rw [←hp] at eg ea hAl hsu
 obtain ⟨A,hA⟩:∃A,A=atomsP σ p:=⟨_,rfl⟩
 rw [←hA] at ea hAl hsu
 have hd0:digest0.length=32:=by decide
 have hdr:List.drop 32 (dig digest0)=[]:=by decide
 have hbM:∀M,blkRow (X++M) bs 0 1 0=some [slAV k (s0.map StoredV.cells)]:=fun M=>(hb _ _ (happ _ X M hI)).2
 have hdM:∀M,blkRow (X++Blk.rows 32 0 [d.cells]::M) X.length 0 32 0=some d.cells:=fun M=>by simp
 have hO:=hOl j
 simp [q0,q1,q12,q13,q14,h,←hd,storeA,fillA,hd0,hdr,hbX,hbM,hdM,eg,ea]
 refine ⟨by omega,loop_count A.length (fun i s Y=>s 0=.yld bl∧s 1=.ptr bs 0 1 0 0∧s 12=slAV (nlK L) (L.map DigV.cells)∧s 13=.int .i64 L.length∧s 14=.int .i64 j∧s 29=.lst (A.map AtV.cells) false∧s 30=.int .i64 A.length∧s 31=.int .i64 i∧I (ordA σ s0 (L.take j)++A.take i) Y) ?_ ?_⟩
 ·refine ⟨q0,q1,q12,q13,q14,rfl,rfl,rfl,?_⟩
  have:=happ _ X [.rows 32 0 [d.cells],.rows 5 0 [p.cells]] hI
  simpa using this
 clear q0 q1 q12 q13 q14 hI hbX hbM hdM
 rintro i s Y ⟨q0,q1,q12,q13,q14,q29,q30,q31,hI⟩ hi
 by_cases hiA:i<A.length
 rotate_left
 ·have h':i=A.length:=by omega
  subst h'
  rw [List.take_length,←hsu] at hI
  simp [q0,q1,q12,q13,q14,q29,q30,q31,wrap_succ h (by omega)]
  exact ⟨h,hI⟩
 obtain ⟨a,ha⟩:∃a,a=A[i]:=⟨_,rfl⟩
 obtain ⟨hbY,_⟩:=hb _ Y hI
 have haM:∀M,blkRow (Y++Blk.rows 172 0 [a.cells]::M) Y.length 0 172 0=some a.cells:=fun M=>by simp
 obtain ⟨Z,hZ,ey⟩:=CallW.ex (hy _ _ a (happ _ Y [.rows 172 0 [a.cells]] hI) (by simp;omega))
 have hap:ordA σ s0 (L.take j)++A.take i++[a]=ordA σ s0 (L.take j)++A.take (i+1):=by
  rw [List.append_assoc,List.take_add_one,List.getElem?_eq_getElem hiA,ha];rfl
 rw [hap] at hZ
 simp [q0,q1,q12,q13,q14,q29,q30,q31,hiA,←ha,storeA,fillA,hbY,haM,ey,wrap_succ hiA (by omega)]
 exact hZ
def formerP (file:IdV) (l:List AtV):List NmV:=(l.filter fun a=>decide (a.kind=2)&&sameId a.file file).map nameOf
theorem formerP_snoc (file:IdV) (l:List AtV) (a:AtV):formerP file (l++[a])=formerP file l++if a.kind=2∧sameId a.file file=true then [nameOf a] else []:=by
 unfold formerP;rw [List.filter_append]
 by_cases h:a.kind=2<;>cases h2:sameId a.file file<;>simp [h,h2]
theorem formerP_len (file:IdV) (l:List AtV):(formerP file l).length≤l.length:=by
 unfold formerP;rw [List.length_map];exact List.length_filter_le _ _
structure FoI (base lo bl bs fb ob:Nat) (LB:Blk) (v0:AV) (file:IdV) (l:List AtV) (X:Heap):Prop where
 hbl:X[bl]?=some LB
 hbs:blkRow X bs 0 1 0=some [v0]
 hfb:blkRow X fb 0 33 0=some file.cells
 o:∃v,X[ob]?=some (.rows 1 0 [[v]])∧SlIs lo 67 X v ((formerP file l).map NmV.cells)
 low:base≤lo∧base≤ob∧base≤bl∧bl<lo∧bs<lo∧fb<lo∧ob<lo∧lo≤X.length∧bl≠ob∧bl≠bs∧bl≠fb∧ob≠bs∧ob≠fb
theorem FoI.app {base lo bl bs fb ob:Nat} {LB:Blk} {v0:AV} {file:IdV} {l:List AtV} {X:Heap} (h:FoI base lo bl bs fb ob LB v0 file l X) (M:Heap):FoI base lo bl bs fb ob LB v0 file l (X++M):=by
 obtain ⟨h1,h2,h3,⟨v,h4,h5⟩,h6⟩:=h
 have hk:∀{b:Nat} {blk:Blk},X[b]?=some blk→(X++M)[b]?=some blk:=fun h=>by rw [List.getElem?_append_left (List.getElem?_eq_some_iff.1 h).1];exact h
 exact ⟨hk h1,blk_app h2 M,blk_app h3 M,⟨v,hk h4,h5.app M⟩,by simp;omega⟩
theorem fo_range (S:SettingU C σ) {s0:List StoredV} {k:SK} (hs:SetGood s0) (h8:s0.length≤8) {base lo bl bs fb ob nb po:Nat} {file:IdV} {l1:List AV} {ps:List Tmp} {asg bd:Code} {X:Heap} (hnb:nb=bl) (hpo:po=bs)
 (hy:∀(LB BB:Blk) (_:loopB l1 ps asg bd=LB) (_:busyB l1 ps asg bd=BB) (l:List AtV) (V:Heap) (y:AtV),FoI base lo bl bs fb ob LB (slAV k (s0.map StoredV.cells)) file l V→l.length≤2^20→
  CallW Tryz.prog C base (.yld bl) [.agg y.cells] V fun v V'=>v=.bool true∧FoI base lo bl bs fb ob LB (slAV k (s0.map StoredV.cells)) file (l++[y]) V')
 (h0:FoI base lo bl bs fb ob (loopB l1 ps asg bd) (slAV k (s0.map StoredV.cells)) file [] (X++[loopB l1 ps asg bd])) (K:AV→Heap→Prop)
 (hK:∀V,FoI base lo bl bs fb ob (loopB l1 ps asg bd) (slAV k (s0.map StoredV.cells)) file (ordA σ s0 (ordP σ s0 s0.length [])) V→K (.tup []) V) :
 FuncW Tryz.prog C base 63 [.yld nb,.ptr po 0 1 0 0] (X++[loopB l1 ps asg bd]) K:=by
 subst hnb;subst hpo
 exact batoms_walk S (k:=k) hs h8 (I:=FoI base lo nb po fb ob (loopB l1 ps asg bd) (slAV k (s0.map StoredV.cells)) file) (fun l X L h=>h.app L) (fun l X h=>⟨by have:=h.low;omega,h.hbs⟩) (fun l X x h hl=>hy _ _ rfl rfl l X x h hl) h0 K hK
set_option maxRecDepth 100000 in
set_option maxHeartbeats 4000000 in
theorem ret_Former (S:SettingU C σ) (s0:List StoredV) (k:SK) (file:IdV) (hs:SetGood s0) (h8:s0.length≤8) (he:findE σ s0 file 1=0) :
 Ret Tryz.prog C 12 [] [slAV k (s0.map StoredV.cells),.agg file.cells] (.tup [slAV (nlK (formerP file (ordA σ s0 (ordP σ s0 s0.length [])))) ((formerP file (ordA σ s0 (ordP σ s0 s0.length []))).map NmV.cells),.int .i64 0]):=by
 refine ret_pure (S.pureU _ (by decide)) fun H=>func_rule Tryz.func12 rfl (S.prim _ (by decide)) (by simp) (by kernel_rfl) ?_
 unfold Tryz.f12
 have ef:=(ret_bfind S.toSettingT s0 k file 1 hs).eq
 rw [he] at ef
 obtain ⟨v,hv⟩:∃v,v=slAV k (s0.map StoredV.cells):=⟨_,rfl⟩
 have hvl:v.leaf=true:=by rw [hv];simp
 have hvc:v.cells=[v]:=by rw [hv];simp
 have ep:=fun (X:Heap) (K:AV→Heap→Prop)=>batoms_eq S v hvl hvc (base:=H.length) (H:=X) K
 rw [←hv] at ef ⊢
 obtain ⟨O,hO⟩:∃O,O=ordA σ s0 (ordP σ s0 s0.length []):=⟨_,rfl⟩
 rw [←hO]
 refine cut (fun s X=>s 0=v∧s 3=.ptr H.length 0 33 0 0∧X=H++[.rows 33 0 [file.cells]]) ?_ ?_
 ·simp [argS]
 rintro s X ⟨q0,q3,rfl⟩
 refine cut (fun s X=>s 0=v∧s 3=.ptr H.length 0 33 0 0∧X=H++[.rows 33 0 [file.cells]]) ?_ ?_
 ·simp [q0,q3,ef]
 clear q0 q3
 rintro s X ⟨q0,q3,rfl⟩
 refine cut (fun s X=>s 0=v∧s 3=.ptr H.length 0 33 0 0∧s 7=.ptr (H.length+1) 0 1 0 0∧X=H++[.rows 33 0 [file.cells],.rows 1 0 [[.nils]]]) ?_ ?_
 ·simp [q0,q3]
 clear q0 q3
 rintro s X ⟨q0,q3,q7,rfl⟩
 refine cut (fun s X=>s 7=.ptr (H.length+1) 0 1 0 0∧∃w,X[H.length+1]?=some (.rows 1 0 [[w]])∧SlIs (H.length+4) 67 X w ((formerP file O).map NmV.cells)) ?_ ?_
 rotate_left
 ·rintro s X ⟨q7,w,hw,hS⟩
  have hf:=hS.freeze (k:=H.length) (d:=1) (by omega) (closedss_map NmV.closed _)
  have hk:nlK ((formerP file O).map NmV.cells)=nlK (formerP file O):=by unfold nlK;cases formerP file O<;>rfl
  rw [hk] at hf
  have hr:blkRow X (H.length+1) 0 1 0=some [w]:=by simp [blkRow,hw]
  simp [q7,hr]
  exact freeze_two hf (by simp)
 refine cut (fun s X=>s 3=.ptr H.length 0 33 0 0∧s 7=.ptr (H.length+1) 0 1 0 0∧s 16=.fn 63 [.ptr (H.length+2) 0 1 0 0]∧X=H++[.rows 33 0 [file.cells],.rows 1 0 [[.nils]],.rows 1 0 [[v]]]) ?_ ?_
 ·simp [q0,q3,q7,ep]
 clear q0 q3 q7
 rintro s X ⟨q3,q7,q16,rfl⟩
 rw [wp_block,wp_range]
 refine range_rule (f:=63) (caps:=[.ptr (H.length+2) 0 1 0 0]) (by simp [q16]) fun l1 hr1=>?_
 obtain ⟨X0,hX0⟩:∃X0,X0=H++[.rows 33 0 [file.cells],.rows 1 0 [[.nils]],.rows 1 0 [[v]]]:=⟨_,rfl⟩
 have hX0l:X0.length=H.length+3:=by rw [hX0];simp
 rw [←hX0,hX0l]
 have g0:X0[H.length]?=some (.rows 33 0 [file.cells]):=by rw [hX0,app_get0];rfl
 have g1:X0[H.length+1]?=some (.rows 1 0 [[.nils]]):=by rw [hX0,app_get];rfl
 have g2:X0[H.length+2]?=some (.rows 1 0 [[v]]):=by rw [hX0,app_get];rfl
 refine fo_range S (k:=k) (base:=H.length) (lo:=H.length+4) (bl:=H.length+3) (bs:=H.length+2) (fb:=H.length) (ob:=H.length+1) (file:=file) hs h8 rfl rfl ?_ ?_ _ ?_
 ·rw [←hv]
  rintro LB BB hLB hBB l V y hF hl
  have hLr:∀sz g rs,LB≠.rows sz g rs:=by intro sz g rs h;rw [←hLB] at h;cases h
  have hBr:∀sz g rs,BB≠.rows sz g rs:=by intro sz g rs h;rw [←hBB] at h;cases h
  obtain ⟨hbl,hbs,hfb,⟨w,hw,hS⟩,hlow⟩:=hF
  have hblV:H.length+3<V.length:=(List.getElem?_eq_some_iff.1 hbl).1
  obtain ⟨W,hW⟩:∃W,W=V.set (H.length+3) BB:=⟨_,rfl⟩
  have hWl:W.length=V.length:=by rw [hW];simp
  have hgl:∀M,(V++M)[H.length+3]?=some LB:=fun M=>by rw [List.getElem?_append_left hblV];exact hbl
  have hsl:∀M,(V++M).set (H.length+3) BB=W++M:=fun M=>by rw [hW];exact List.set_append_left _ _ hblV
  have hWb:∀M,(W++M)[H.length+3]?=some BB:=fun M=>by rw [List.getElem?_append_left (by omega),hW,List.getElem?_set_self hblV]
  have up:∀{b:Nat} {blk:Blk},b≠H.length+3→V[b]?=some blk→W[b]?=some blk:=fun hb h=>by rw [hW,List.getElem?_set_ne (Ne.symm hb)];exact h
  have upr:∀{b e:Nat} {r:List AV},b≠H.length+3→blkRow V b 0 e 0=some r→blkRow W b 0 e 0=some r:=fun hb h=>by
   unfold blkRow at h ⊢
   rw [hW,List.getElem?_set_ne (Ne.symm hb)];exact h
  have hfW:∀M,blkRow (W++M) H.length 0 33 0=some file.cells:=fun M=>blk_app (upr (by omega) hfb) M
  have hyW:∀M,blkRow (W++Blk.rows 172 0 [y.cells]::M) V.length 0 172 0=some y.cells:=fun M=>by rw [←hWl];simp
  have hwW:∀M,blkRow (W++M) (H.length+1) 0 1 0=some [w]:=fun M=>blk_app (upr (by omega) (by simp [blkRow,hw])) M
  have hSW:SlIs (H.length+4) 67 W w ((formerP file l).map NmV.cells):=hS.keep fun b g rs hb h=>up (by omega) h
  have hbV:H.length≤V.length:=by omega
  have hsn:=formerP_snoc file l y
  have hfl:=formerP_len file l
  have e:=eq_idV S.toSetting
  have back:∀{Z:Heap},Z[H.length+3]?=some BB→(∀(b:Nat) (blk:Blk),V[b]?=some blk→b≠H.length+3→b≠H.length+1→b<H.length+4→Z[b]?=some blk)→(∃u,Z[H.length+1]?=some (.rows 1 0 [[u]])∧SlIs (H.length+4) 67 Z u ((formerP file (l++[y])).map NmV.cells))→
   FoI H.length (H.length+4) (H.length+3) (H.length+2) H.length (H.length+1) LB v file (l++[y]) (Z.set (H.length+3) LB):=by
   rintro Z hZ hk ⟨u,hu,hSu⟩
   have hZl:=(List.getElem?_eq_some_iff.1 hZ).1
   have dn:∀{b e:Nat} {r:List AV},b≠H.length+3→b≠H.length+1→b<H.length+4→blkRow V b 0 e 0=some r→blkRow (Z.set (H.length+3) LB) b 0 e 0=some r:=fun {b e r} hb1 hb2 hb3 h=>by
    unfold blkRow at h ⊢
    rw [List.getElem?_set_ne (Ne.symm hb1)]
    cases hx:V[b]? with
    | none=>rw [hx] at h;cases h
    | some blk=>rw [hx] at h;rw [hk b blk hx hb1 hb2 hb3];exact h
   refine ⟨by rw [List.getElem?_set_self hZl],dn (by omega) (by omega) (by omega) hbs,dn (by omega) (by omega) (by omega) hfb,⟨u,by rw [List.getElem?_set_ne (by omega)];exact hu,hSu.keep fun b g rs hb h=>by rw [List.getElem?_set_ne (by omega)];exact h⟩,by simp;omega⟩
  refine yield_rule hr1 (hget:=by rw [hLB];exact hbl) (by omega) rfl (by decide) (by kernel_rfl) (by kernel_rfl) ?_
  rw [hLB,hBB]
  have keep0:∀(M:Heap) (b:Nat) (blk:Blk),V[b]?=some blk→b≠H.length+3→(W++M)[b]?=some blk:=fun M b blk h hb=>by
   have:=up hb h
   rw [List.getElem?_append_left (List.getElem?_eq_some_iff.1 this).1];exact this
  by_cases hk2:y.kind=2
  rotate_left
  ·rw [if_neg (by intro h;exact hk2 h.1),List.append_nil] at hsn
   have hk2b:(y.kind==2)=false:=by simpa using hk2
   simp [q3,q7,storeA,fillA,hbV,hgl,hsl,hyW,hk2b,guardV,hWb,hLB]
   exact ⟨rfl,back (Z:=W++[Blk.rows 172 0 [y.cells]]) (hWb _) (fun b blk h h1 h2 h3=>keep0 _ b blk h h1) ⟨w,keep0 _ _ _ hw (by omega),by rw [hsn];exact hSW.app _⟩⟩
  cases hf2:sameId y.file file with
  | false =>
   rw [if_neg (by intro h;rw [hf2] at h;cases h.2),List.append_nil] at hsn
   simp [q3,q7,storeA,fillA,hbV,hgl,hsl,hyW,hk2,guardV,hfW,e,hf2,hWb,hLB]
   exact ⟨rfl,back (Z:=W++[Blk.rows 172 0 [y.cells]]) (hWb _) (fun b blk h h1 h2 h3=>keep0 _ b blk h h1) ⟨w,keep0 _ _ _ hw (by omega),by rw [hsn];exact hSW.app _⟩⟩
  | true =>
   rw [if_pos ⟨hk2,hf2⟩] at hsn
   have nb:=nm_build y
   obtain ⟨nc,hnc⟩:∃nc,nc=(nameOf y).cells:=⟨_,rfl⟩
   rw [←hnc] at nb
   have hncl:nc.length=67:=by rw [hnc];simp
   have hnca:∀x∈nc,x.leaf=true:=by rw [hnc];exact List.all_eq_true.1 (nameOf y).leafs
   obtain ⟨u,Z,ea,hS',hl',⟨b',g',l',hu'⟩,hk'⟩:=(hSW.app [.rows 172 0 [y.cells]]).append (P:=Tryz.prog) (base:=H.length) (ts:=#[45,45]) (e:=51) (xd:=.slice 51) (x:=.lst [nc] true) (ys:=[nc])
    (by simp) (by simp) sz51 by51 (by simp) (by decide) (by omega) (by simp;omega) rfl (by simp [hncl]) (by simp) (by simp;omega)
   have hwnot:∀b g l,w=.sl b g 67 0 l→H.length+4≤b:=by
    intro b g l h1
    rcases hS with ⟨_,h2⟩ | ⟨_,b2,g2,h2,h3,h4⟩
    ·rw [h1] at h2;cases h2
    ·rw [h1] at h2;cases h2;exact h4
   have hkz:∀(b:Nat) (blk:Blk),V[b]?=some blk→b≠H.length+3→b<H.length+4→Z[b]?=some blk:=fun b blk h h1 h2=>(hk' b blk (keep0 _ b blk h h1) fun b2 g l h3=>by have:=hwnot b2 g l h3;omega).1
   have hZ1:Z[H.length+1]?=some (.rows 1 0 [[w]]):=hkz _ _ hw (by omega) (by omega)
   have hZb:Z[H.length+3]?=some BB:=(hk' _ _ (hWb _) fun b2 g l h3=>by have:=hwnot b2 g l h3;omega).1
   have hZl:H.length+1<Z.length:=(List.getElem?_eq_some_iff.1 hZ1).1
   have hul:u.leaf=true∧u.cells=[u]:=by rw [hu'];exact ⟨rfl,rfl⟩
   have hb1:H.length≤H.length+1:=by omega
   simp [-bu51,q3,q7,storeA,fillA,hbV,hgl,hsl,hyW,hk2,guardV,hfW,e,hf2,hwW,nb,buildSliceA,fillRows,hncl,hnca,ea,hZ1,hul.1,hul.2,hZb,hLB]
   refine ⟨hnca,rfl,back (Z:=Z.set (H.length+1) (.rows 1 0 [[u]])) (by rw [List.getElem?_set_ne (by omega)];exact hZb) (fun b blk h h1 h2 h3=>by rw [List.getElem?_set_ne (by omega)];exact hkz b blk h h1 h3) ⟨u,by rw [List.getElem?_set_self hZl],?_⟩⟩
   have hS2:=hS'.keep (X':=Z.set (H.length+1) (.rows 1 0 [[u]])) fun b g rs hb h=>by rw [List.getElem?_set_ne (by omega)];exact h
   rw [hsn,List.map_append,List.map_singleton,←hnc];exact hS2
 ·rw [←hv]
  exact ⟨by rw [List.getElem?_append_right (by omega),hX0l];simp,blk_app (by simp [blkRow,g2]) _,blk_app (by simp [blkRow,g0]) _,⟨.nils,by rw [List.getElem?_append_left (by omega)];exact g1,.inl ⟨rfl,rfl⟩⟩,by simp;omega⟩
 ·rintro V ⟨hbl,hbs,hfb,⟨w,hw,hS⟩,hlow⟩
  rw [afterR_loop hbl]
  simp
  rw [←hO] at hS
  exact ⟨q7,w,hw,hS.keep fun b g rs hb h=>by rw [List.getElem?_set_ne (by omega)];exact h⟩
end Go.Proofs.Ev
namespace Go.Proofs.Ev
open Go.Proofs
variable {σ:Sorts}
def sameN (a b:NmV):Bool:=sameId a.entry b.entry&&sameId a.parent b.parent&&decide (a.name=b.name)
theorem sameN_refl (a:NmV):sameN a a=true:=by simp [sameN,same_id]
def NamesOK (σ:Sorts) (s:List StoredV) (I:List InV):Prop:=∀x∈I,findE σ s x.file 1=0∧x.names.length≤(formerP x.file (ordA σ s (ordP σ s s.length []))).length∧(formerP x.file (ordA σ s (ordP σ s s.length []))).length≤2^20∧∀n∈x.names,(formerP x.file (ordA σ s (ordP σ s s.length []))).any (fun m=>sameN m n)=true
theorem ord_perm {s:List StoredV} (F:SetFine σ s):(ordA σ s (ordP σ s s.length [])).Perm (allA σ s):=by
 have hs:=F.good
 obtain ⟨O,hO⟩:∃O,O=ordP σ s s.length []:=⟨_,rfl⟩
 have n1:(digs O).Nodup:=by rw [hO];exact ordP_nodup s _ _ (by simp [digs])
 have n2:(s.map fun x=>x.id.d).Nodup:=List.pairwise_map.2 hs.2.1
 have hp:(digs O).Perm (s.map fun x=>x.id.d):=by
  rw [List.perm_ext_iff_of_nodup n1 n2]
  intro d
  constructor
  ·intro hd
   simp only [digs,List.mem_map] at hd
   obtain ⟨e,he,rfl⟩:=hd
   rw [hO] at he
   rcases ordP_mem s _ _ e he with h | ⟨x,hx,rfl⟩
   ·simp at h
   ·exact List.mem_map.2 ⟨x,hx,rfl⟩
  ·intro hd
   obtain ⟨x,hx,rfl⟩:=List.mem_map.1 hd
   have:=F.cov x hx
   rw [←hO] at this
   exact hasD_mem.1 this
 have h1:ordA σ s O=((digs O).map fun d=>atomsP σ (getP s d)).flatten:=by unfold ordA digs;rw [List.map_map];rfl
 have h2:allA σ s=((s.map fun x=>x.id.d).map fun d=>atomsP σ (getP s d)).flatten:=by
  unfold allA
  rw [List.map_map]
  congr 1
  refine List.map_congr_left fun x hx=>?_
  simp only [Function.comp]
  rw [(getP_mem hs hx).2]
 rw [←hO,h1,h2]
 exact (hp.map _).flatten
theorem names_fine {s:List StoredV} (F:SetFine σ s) {L:List AtV} (hL:L.Perm (allA σ s)) (al:List IdV):NamesOK σ s (inodesP al L):=by
 intro x hx
 unfold inodesP at hx
 obtain ⟨f,hf,rfl⟩:=List.mem_map.1 hx
 unfold filesM at hf
 obtain ⟨hfL,hk⟩:=List.mem_filter.1 hf
 have hk:f.kind=1:=by simpa using hk
 have hfa:=hL.mem_iff.1 hfL
 unfold allA at hfa
 obtain ⟨l,hl,hfl⟩:=List.mem_flatten.1 hfa
 obtain ⟨st,hst,rfl⟩:=List.mem_map.1 hl
 have hfi:=find_mem F.good F.named hst hfl
 have hO:=(ord_perm F).trans hL.symm
 obtain ⟨O,hOe⟩:∃O,O=ordA σ s (ordP σ s s.length []):=⟨_,rfl⟩
 rw [←hOe] at hO ⊢
 have hOl:O.length≤720000:=by rw [hO.length_eq];exact perm_len F.good F.n hL
 have hfl2:=formerP_len f.id O
 have hid:(inodeOf al L f).file=f.id:=rfl
 have hnm:(inodeOf al L f).names=(L.filter fun a=>decide (a.kind=2)&&hasI al a.id&&sameId a.file f.id).map nameOf:=by
  show (lookG (nameM al L) f.id).map nameOf=_
  rw [look_names]
 rw [hid,hnm]
 have hsub:∀l:List AtV,(l.filter fun a=>decide (a.kind=2)&&hasI al a.id&&sameId a.file f.id)=(l.filter fun a=>decide (a.kind=2)&&sameId a.file f.id).filter fun a=>hasI al a.id:=fun l=>by
  rw [List.filter_filter]
  refine List.filter_congr fun a _=>?_
  cases decide (a.kind=2)<;>cases hasI al a.id<;>cases sameId a.file f.id<;>rfl
 have hpf:=hO.filter fun a=>decide (a.kind=2)&&sameId a.file f.id
 refine ⟨?_,?_,by omega,fun n hn=>?_⟩
 ·unfold findE;rw [hfi];simp [hk]
 ·unfold formerP
  rw [List.length_map,List.length_map,hsub,hpf.length_eq]
  exact List.length_filter_le _ _
 ·obtain ⟨a,ha,rfl⟩:=List.mem_map.1 hn
  rw [hsub] at ha
  have ha2:=hpf.mem_iff.2 (List.mem_filter.1 ha).1
  exact List.any_eq_true.2 ⟨nameOf a,List.mem_map.2 ⟨a,ha2,rfl⟩,sameN_refl _⟩
end Go.Proofs.Ev
namespace Go.Proofs.Ev
open Go.Proofs
variable {C:Cfg} {σ:Sorts}
structure SettingV (C:Cfg) (σ:Sorts):Prop extends SettingU C σ where
 kName:C.kinds 51=some (List.replicate 32 (.int .u8)++[.int .i64]++(List.replicate 32 (.int .u8)++[.int .i64])++[.str])
theorem conf_app:∀{k k':List LK} {c c':List AV},conf k c=true→conf k' c'=true→conf (k++k') (c++c')=true
 | [],_,[],_,_,h=>h
 | [],_,_::_,_,h,_=>by simp [conf] at h
 | _::_,_,[],_,h,_=>by simp [conf] at h
 | a::k,k',x::c,c',h,h'=>by
  simp only [List.cons_append,conf,Bool.and_eq_true] at h ⊢
  exact ⟨h.1,conf_app h.2 h'⟩
theorem cells_same (a b:IdV):cellsEq a.cells b.cells=sameId a b:=by
 simp only [IdV.cells,cellsEq_append (show (dig a.d).length=(dig b.d).length by simp [a.h,b.h]),cellsEq_dig a.d b.d (by rw [a.h,b.h]),cellsEq,cellEq,Bool.and_true,sameId]
theorem eq_name (S:SettingV C σ) (a b:NmV):binA Tryz.prog C .eql 51 (.agg a.cells) (.agg b.cells)=some (.bool (sameN a b)):=by
 have key:∀x:NmV,conf (List.replicate 32 (.int .u8)++[.int .i64]++(List.replicate 32 (.int .u8)++[.int .i64])++[.str]) x.cells=true:=fun x=>by
  have h1:x.cells=x.entry.cells++x.parent.cells++[.str x.name]:=by simp [NmV.cells]
  rw [h1]
  exact conf_app (conf_app (conf_id _) (conf_id _)) rfl
 have ce:cellsEq a.cells b.cells=sameN a b:=by
  unfold NmV.cells sameN
  rw [cellsEq_append (by simp),cellsEq_append (by simp),cells_same,cells_same]
  simp only [cellsEq,cellEq,Bool.and_true]
  cases sameId a.entry b.entry<;>cases sameId a.parent b.parent<;>simp<;>exact Bool.eq_iff_iff.2 (by simp)
 simp only [binA,eqA,S.kName,key,Bool.and_self,if_true,ce];rfl
set_option maxRecDepth 100000 in
set_option maxHeartbeats 8000000 in
theorem nlaw_walk (S:SettingV C σ) (hAw:Ret Tryz.prog C 6 [] [] (.bool true)) {s0:List StoredV} {k:SK} (hz:SetSz s0)
 (hf:fineB s0=true→SetFine σ s0) (base:Nat) (H:Heap) (hb:base≤H.length):FuncW Tryz.prog C base 4 [slAV k (s0.map StoredV.cells)] H fun v _=>v=.bool true:=by
 refine func_rule Tryz.func4 rfl (S.prim _ (by decide)) (by simp) (by kernel_rfl) ?_
 unfold Tryz.f4
 have eA:=hAw.eq
 have e1:=(ret_fine S.toSetting8 s0 k hz).eq
 obtain ⟨v,hv⟩:∃v,v=slAV k (s0.map StoredV.cells):=⟨_,rfl⟩
 refine cut (fun s X=>s 0=v∧X=H) ?_ ?_
 ·rw [←hv];simp [argS]
 rintro s X ⟨q0,hX⟩
 rw [hX];clear hX X
 rw [←hv] at e1
 cases hfine:fineB s0 with
 | false =>
  rw [hfine] at e1
  simp [q0,e1,eA]
 | true =>
 rw [hfine] at e1
 have F:=hf hfine
 obtain ⟨L,LI,hL,hLI,eI⟩:=any_Inodes S.toSettingU (k:=k) F.good F.n base H
 have hN:=names_fine F hL ((liveI σ s0 LI).foldl addI [])
 obtain ⟨I,hI⟩:∃I,I=inodesP ((liveI σ s0 LI).foldl addI []) L:=⟨_,rfl⟩
 rw [←hI] at eI hN
 have hIl:I.length≤720000:=by
  rw [hI];unfold inodesP;rw [List.length_map]
  have h1:=filesM_len L;have h2:=perm_len F.good F.n hL;omega
 have eF:=fun file he=>(ret_Former S.toSettingU s0 k file F.good F.n he).eq
 rw [←hv] at eI
 simp only [←hv] at eF
 refine cut (fun s X=>s 0=v∧X=H) ?_ ?_
 ·simp [q0,e1]
 clear q0
 rintro s X ⟨q0,hX⟩
 rw [hX];clear hX X
 refine cut (fun s X=>True) ?_ ?_
 rotate_left
 ·rintro s X _
  simp [eA]
 simp [q0,eI]
 refine loop_count I.length (fun i s X=>s 0=v∧s 17=slAV (nlK I) (I.map InV.cells)∧s 18=.int .i64 I.length∧s 19=.int .i64 i∧base≤X.length) ?_ ?_
 ·exact ⟨q0,rfl,rfl,rfl,hb⟩
 clear q0
 rintro i s X ⟨q0,q17,q18,q19,hX⟩ hi
 by_cases h:i<I.length
 rotate_left
 ·have h':i=I.length:=by omega
  subst h'
  simp [q0,q17,q18,q19]
 obtain ⟨x,hx⟩:∃x,x=I[i]:=⟨_,rfl⟩
 obtain ⟨he,hlen,hfl,hany⟩:=hN x (by rw [hx];exact List.getElem_mem h)
 have eF:=eF x.file he
 obtain ⟨P,hP⟩:∃P,P=formerP x.file (ordA σ s0 (ordP σ s0 s0.length [])):=⟨_,rfl⟩
 rw [←hP] at hlen hfl hany eF
 have hxM:∀M,blkRow (X++Blk.rows 36 0 [x.cells]::M) X.length 0 36 0=some x.cells:=fun M=>by simp
 have hlt:¬(P.length:Int)<x.names.length:=by omega
 have hz36:(zeroId.cells++[AV.int .i64 0,.bool false,.nils]).drop 36=[]:=List.drop_of_length_le (by simp)
 have hz67:(zeroId.cells++(zeroId.cells++[AV.str []])).drop 67=[]:=List.drop_of_length_le (by simp)
 have w19:=wrap_succ h (by omega)
 simp [q0,q17,q18,q19,h,←hx,storeA,fillA,hX,hxM,hz36,eF,guardV,hlt]
 refine loop_count x.names.length (fun j s Y=>s 0=v∧s 17=slAV (nlK I) (I.map InV.cells)∧s 18=.int .i64 I.length∧s 19=.int .i64 i∧s 5=slAV (nlK P) (P.map NmV.cells)∧s 41=slAV x.namesK (x.names.map NmV.cells)∧s 42=.int .i64 x.names.length∧s 43=.int .i64 j∧base≤Y.length) ?_ ?_
 ·exact ⟨q0,q17,q18,q19,rfl,rfl,rfl,rfl,by simp;omega⟩
 clear q0 q17 q18 q19
 rintro j s Y ⟨q0,q17,q18,q19,q5,q41,q42,q43,hY⟩ hj
 by_cases hjn:j<x.names.length
 rotate_left
 ·have h':j=x.names.length:=by omega
  subst h'
  simp [q0,q17,q18,q19,q5,q41,q42,q43,w19]
  exact ⟨h,hY⟩
 obtain ⟨n,hn⟩:∃n,n=x.names[j]:=⟨_,rfl⟩
 have hnm:=hany n (by rw [hn];exact List.getElem_mem hjn)
 have hnM:∀M,blkRow (Y++Blk.rows 67 0 [n.cells]::M) Y.length 0 67 0=some n.cells:=fun M=>by simp
 have w43:=wrap_succ hjn (by omega)
 simp [q0,q17,q18,q19,q5,q41,q42,q43,hjn,←hn,storeA,fillA,hY,hz67]
 refine loop_count P.length (fun m s Z=>s 0=v∧s 17=slAV (nlK I) (I.map InV.cells)∧s 18=.int .i64 I.length∧s 19=.int .i64 i∧s 5=slAV (nlK P) (P.map NmV.cells)∧s 41=slAV x.namesK (x.names.map NmV.cells)∧s 42=.int .i64 x.names.length∧s 43=.int .i64 j∧s 8=.ptr Y.length 0 67 0 0∧s 9=.bool ((P.take m).any fun y=>sameN y n)∧s 47=slAV (nlK P) (P.map NmV.cells)∧s 48=.int .i64 P.length∧s 49=.int .i64 m∧base≤Z.length∧blkRow Z Y.length 0 67 0=some n.cells) ?_ ?_
 ·exact ⟨q0,q17,q18,q19,q5,q41,q42,q43,rfl,by simp,rfl,rfl,rfl,by simp;omega,by simp⟩
 clear q0 q17 q18 q19 q5 q41 q42 q43
 rintro m s Z ⟨q0,q17,q18,q19,q5,q41,q42,q43,q8,q9,q47,q48,q49,hZ,hnZ⟩ hm
 by_cases hmn:m<P.length
 rotate_left
 ·have h':m=P.length:=by omega
  subst h'
  rw [List.take_length,hnm] at q9
  simp [q0,q17,q18,q19,q5,q41,q42,q43,q8,q9,q47,q48,q49,w43]
  exact ⟨hjn,hZ⟩
 obtain ⟨y,hy⟩:∃y,y=P[m]:=⟨_,rfl⟩
 have hyM:∀M,blkRow (Z++Blk.rows 67 0 [y.cells]::M) Z.length 0 67 0=some y.cells:=fun M=>by simp
 have hnM2:∀M,blkRow (Z++M) Y.length 0 67 0=some n.cells:=fun M=>blk_app hnZ M
 have en:=eq_name S y n
 have ht:(P.take (m+1)).any (fun y=>sameN y n)=((P.take m).any (fun y=>sameN y n)||sameN y n):=by
  rw [List.take_add_one,List.getElem?_eq_getElem hmn,List.any_append,hy];simp
 have w49:=wrap_succ hmn (by omega)
 cases hd:(P.take m).any (fun y=>sameN y n) with
 | true =>
  rw [hd] at q9 ht
  simp [q0,q17,q18,q19,q5,q41,q42,q43,q8,q9,q47,q48,q49,hmn,←hy,storeA,fillA,hZ,hz67,guardV,w49]
  exact ⟨List.any_eq_true.1 ht,by omega,hnM2 _⟩
 | false =>
  rw [hd] at q9 ht
  simp [q0,q17,q18,q19,q5,q41,q42,q43,q8,q9,q47,q48,q49,hmn,←hy,storeA,fillA,hZ,hz67,guardV,hyM,hnM2,en,w49]
  rw [Bool.false_or] at ht
  exact ⟨ht.symm,by omega⟩
end Go.Proofs.Ev
namespace Go.Proofs.Ev
open Go.Proofs
variable {N:Low} {p:Nat→List AV→Heap→Option (AV×Heap)}
theorem isSettingU:SettingU (cfgT p) sigT:={
 toSettingT:=isSettingT
 pureU:=allP (by kernel_rfl)
 plainU:=allN (by kernel_rfl) }
theorem isSettingV:SettingV (cfgT p) sigT:={
 toSettingU:=isSettingU
 kName:=rfl }
theorem nlaw_true (hT:TagOK Tryz.prog N) (hG:TagHere N) (hL:LowTab N) {s0:List StoredV} {k:SK} (hz:SetSz s0) {φ:Phi} {H:Heap} {w:World} {Vs:Array Value} (hH:HR N φ H w) (ht:Two (fun v V=>RV φ H.length w v V) [slAV k (s0.map StoredV.cells)] Vs.toList) :
 CallsIn (Fw none) 0 Tryz.prog 4 Vs w fun e w'=>e=.returned (.bool true)∧∃φ' H',HR N φ' H' w'∧Ext φ H.length w φ' H'.length w':=by
 obtain ⟨n,v,H',h1,rfl⟩:=nlaw_walk isSettingV awake_ret (k:=k) hz (fun h=>fine_of (isSettingT (p:=pAwake)).permD hz h) H.length H (Nat.le_refl _)
 refine (((all_ok (soundT hT hG hL (awake_ok hT hG hL)) n).2.2.2.2.1 H.length _ _ H _ H' h1).2 (Nat.le_refl _) hH ht).mono ?_
 rintro e w' ⟨V,φ',rfl,hv,h2,h3,_⟩
 cases hv
 exact ⟨rfl,φ',H',h2,h3⟩
end Go.Proofs.Ev
namespace Go.Proofs.Ev
open Go.Proofs Go.RowKit
section
variable {W:World}
theorem nlaw_calls {v0:Value} {s0:List StoredV} (h0:RV phi0 0 W (slAV .loose (s0.map StoredV.cells)) v0) (hz:SetSz s0) (hL:laidMetH Tryz.prog laidL W) :
 Calls Tryz.prog 4 #[v0] W fun e w'=>e=.returned (.bool true)∧Below W.heap.size W w':=by
 refine callsIn_wide.1 ((callsIn_any (r':=none) (nlaw_true tag_ok tag_here (low_tab (tab_of hL)) hz hr0 (Vs:=#[v0]) (.cons h0 .nil))).mono ?_)
 rintro e w' ⟨rfl,φ',H',_,hx⟩
 exact ⟨rfl,below_of hx⟩
end
end Go.Proofs.Ev
namespace Go.Proofs.YtckbkhfaahpanaaGreatDoor.blameNamesDone
open Go
set_option linter.unusedVariables false
theorem cf9:(fun (P:Program) (f:FuncId) (fn:Func) (s:ChangeSpec) (c:OpenClaim)=>((c.inPlace==P.inPlace f):Bool)) Tryz.prog 4 Tryz.f4 (Rows.OpenSpec.upto Rows.blameNamesSpec).bare Rows.blameNamesUptoRow=true:=by kernel_rfl
theorem cf10:(fun (P:Program) (f:FuncId) (fn:Func) (s:ChangeSpec) (c:OpenClaim)=>((c.unfollowed==P.unfollowed f):Bool)) Tryz.prog 4 Tryz.f4 (Rows.OpenSpec.upto Rows.blameNamesSpec).bare Rows.blameNamesUptoRow=true:=by kernel_rfl
end Go.Proofs.YtckbkhfaahpanaaGreatDoor.blameNamesDone
namespace Go.Proofs.YtckbkhfaahpanaaGreatDoor.blameNamesDone
open Go
set_option linter.unusedVariables false
theorem cf11:(fun (P:Program) (f:FuncId) (fn:Func) (s:ChangeSpec) (c:OpenClaim)=>((c.recurses==P.recurses f):Bool)) Tryz.prog 4 Tryz.f4 (Rows.OpenSpec.upto Rows.blameNamesSpec).bare Rows.blameNamesUptoRow=true:=by kernel_rfl
theorem cf12:(fun (P:Program) (f:FuncId) (fn:Func) (s:ChangeSpec) (c:OpenClaim)=>((c.named==P.varsNamed f):Bool)) Tryz.prog 4 Tryz.f4 (Rows.OpenSpec.upto Rows.blameNamesSpec).bare Rows.blameNamesUptoRow=true:=by kernel_rfl
end Go.Proofs.YtckbkhfaahpanaaGreatDoor.blameNamesDone
namespace Go.Proofs.YtckbkhfaahpanaaGreatDoor.blameNamesDone
open Go
set_option linter.unusedVariables false
theorem cf0:(fun (P:Program) (f:FuncId) (fn:Func) (s:ChangeSpec) (c:OpenClaim)=>(c.wf (OpenSpec.ofChange s):Bool)) Tryz.prog 4 Tryz.f4 (Rows.OpenSpec.upto Rows.blameNamesSpec).bare Rows.blameNamesUptoRow=true:=by kernel_rfl
theorem cf1:(fun (P:Program) (f:FuncId) (fn:Func) (s:ChangeSpec) (c:OpenClaim)=>(laidOutB P:Bool)) Tryz.prog 4 Tryz.f4 (Rows.OpenSpec.upto Rows.blameNamesSpec).bare Rows.blameNamesUptoRow=true:=by kernel_rfl
theorem cf2:(fun (P:Program) (f:FuncId) (fn:Func) (s:ChangeSpec) (c:OpenClaim)=>(mapsRowed P:Bool)) Tryz.prog 4 Tryz.f4 (Rows.OpenSpec.upto Rows.blameNamesSpec).bare Rows.blameNamesUptoRow=true:=by kernel_rfl
theorem cf3:(fun (P:Program) (f:FuncId) (fn:Func) (s:ChangeSpec) (c:OpenClaim)=>(fn.params.all (P.readableRec ·):Bool)) Tryz.prog 4 Tryz.f4 (Rows.OpenSpec.upto Rows.blameNamesSpec).bare Rows.blameNamesUptoRow=true:=by kernel_rfl
theorem cf4:(fun (P:Program) (f:FuncId) (fn:Func) (s:ChangeSpec) (c:OpenClaim)=>(namedTie P c.named s.vars:Bool)) Tryz.prog 4 Tryz.f4 (Rows.OpenSpec.upto Rows.blameNamesSpec).bare Rows.blameNamesUptoRow=true:=by kernel_rfl
theorem cf5:(fun (P:Program) (f:FuncId) (fn:Func) (s:ChangeSpec) (c:OpenClaim)=>((c.stops==[]):Bool)) Tryz.prog 4 Tryz.f4 (Rows.OpenSpec.upto Rows.blameNamesSpec).bare Rows.blameNamesUptoRow=true:=by kernel_rfl
theorem cf6:(fun (P:Program) (f:FuncId) (fn:Func) (s:ChangeSpec) (c:OpenClaim)=>((P.stops==[]):Bool)) Tryz.prog 4 Tryz.f4 (Rows.OpenSpec.upto Rows.blameNamesSpec).bare Rows.blameNamesUptoRow=true:=by kernel_rfl
theorem cf7:(fun (P:Program) (f:FuncId) (fn:Func) (s:ChangeSpec) (c:OpenClaim)=>((c.knobs==[]):Bool)) Tryz.prog 4 Tryz.f4 (Rows.OpenSpec.upto Rows.blameNamesSpec).bare Rows.blameNamesUptoRow=true:=by kernel_rfl
theorem cf8:(fun (P:Program) (f:FuncId) (fn:Func) (s:ChangeSpec) (c:OpenClaim)=>((P.stopKnobs==[]):Bool)) Tryz.prog 4 Tryz.f4 (Rows.OpenSpec.upto Rows.blameNamesSpec).bare Rows.blameNamesUptoRow=true:=by kernel_rfl
theorem cf13:(fun (P:Program) (f:FuncId) (fn:Func) (s:ChangeSpec) (c:OpenClaim)=>((c.maps==(fn.params.toList++s.plain.varTypes P).any (P.mapsRec ·)):Bool)) Tryz.prog 4 Tryz.f4 (Rows.OpenSpec.upto Rows.blameNamesSpec).bare Rows.blameNamesUptoRow=true:=by kernel_rfl
theorem cf14:(fun (P:Program) (f:FuncId) (fn:Func) (s:ChangeSpec) (c:OpenClaim)=>((c.ifaces==(fn.params.toList++s.plain.varTypes P).any (P.ifacesRec ·)):Bool)) Tryz.prog 4 Tryz.f4 (Rows.OpenSpec.upto Rows.blameNamesSpec).bare Rows.blameNamesUptoRow=true:=by kernel_rfl
theorem cf15:(fun (P:Program) (f:FuncId) (fn:Func) (s:ChangeSpec) (c:OpenClaim)=>((c.mapsOut==P.mapsAmong fn.resultTypes.toList):Bool)) Tryz.prog 4 Tryz.f4 (Rows.OpenSpec.upto Rows.blameNamesSpec).bare Rows.blameNamesUptoRow=true:=by kernel_rfl
theorem cf16:(fun (P:Program) (f:FuncId) (fn:Func) (s:ChangeSpec) (c:OpenClaim)=>((c.loops==(fn.params.toList++s.plain.varTypes P).any (P.loopsFrom ·)):Bool)) Tryz.prog 4 Tryz.f4 (Rows.OpenSpec.upto Rows.blameNamesSpec).bare Rows.blameNamesUptoRow=true:=by kernel_rfl
theorem cf17:(fun (P:Program) (f:FuncId) (fn:Func) (s:ChangeSpec) (c:OpenClaim)=>((c.wideKeys==(fn.params.toList++s.plain.varTypes P++fn.resultTypes.toList).any (P.wideKeysFrom ·)):Bool)) Tryz.prog 4 Tryz.f4 (Rows.OpenSpec.upto Rows.blameNamesSpec).bare Rows.blameNamesUptoRow=true:=by kernel_rfl
theorem cf18:(fun (P:Program) (f:FuncId) (fn:Func) (s:ChangeSpec) (c:OpenClaim)=>(s.vars.all (P.varReadable ·):Bool)) Tryz.prog 4 Tryz.f4 (Rows.OpenSpec.upto Rows.blameNamesSpec).bare Rows.blameNamesUptoRow=true:=by kernel_rfl
theorem cf19:(fun (P:Program) (f:FuncId) (fn:Func) (s:ChangeSpec) (c:OpenClaim)=>(fn.resultTypes.all (fun t=>P.readableRec t&&decide (t<P.types.size)):Bool)) Tryz.prog 4 Tryz.f4 (Rows.OpenSpec.upto Rows.blameNamesSpec).bare Rows.blameNamesUptoRow=true:=by kernel_rfl
theorem cf20:(fun (P:Program) (f:FuncId) (fn:Func) (s:ChangeSpec) (c:OpenClaim)=>((c.ifacesOut==fn.resultTypes.toList.any (P.ifacesRec ·)):Bool)) Tryz.prog 4 Tryz.f4 (Rows.OpenSpec.upto Rows.blameNamesSpec).bare Rows.blameNamesUptoRow=true:=by kernel_rfl
theorem cf21:(fun (P:Program) (f:FuncId) (fn:Func) (s:ChangeSpec) (c:OpenClaim)=>((c.loopsOut==fn.resultTypes.toList.any (P.loopsFrom ·)):Bool)) Tryz.prog 4 Tryz.f4 (Rows.OpenSpec.upto Rows.blameNamesSpec).bare Rows.blameNamesUptoRow=true:=by kernel_rfl
theorem cf22:(fun (P:Program) (f:FuncId) (fn:Func) (s:ChangeSpec) (c:OpenClaim)=>((c.plainKeys==P.plainKeys):Bool)) Tryz.prog 4 Tryz.f4 (Rows.OpenSpec.upto Rows.blameNamesSpec).bare Rows.blameNamesUptoRow=true:=by kernel_rfl
theorem cf23:(fun (P:Program) (f:FuncId) (fn:Func) (s:ChangeSpec) (c:OpenClaim)=>(c.shortTexts.isNone:Bool)) Tryz.prog 4 Tryz.f4 (Rows.OpenSpec.upto Rows.blameNamesSpec).bare Rows.blameNamesUptoRow=true:=by kernel_rfl
theorem cf24:(fun (P:Program) (f:FuncId) (fn:Func) (s:ChangeSpec) (c:OpenClaim)=>(P.stopsHeard:Bool)) Tryz.prog 4 Tryz.f4 (Rows.OpenSpec.upto Rows.blameNamesSpec).bare Rows.blameNamesUptoRow=true:=by kernel_rfl
theorem cf25:(fun (P:Program) (f:FuncId) (fn:Func) (s:ChangeSpec) (c:OpenClaim)=>(P.mayEnter:Bool)) Tryz.prog 4 Tryz.f4 (Rows.OpenSpec.upto Rows.blameNamesSpec).bare Rows.blameNamesUptoRow=true:=by kernel_rfl
theorem cf26:(fun (P:Program) (f:FuncId) (fn:Func) (s:ChangeSpec) (c:OpenClaim)=>((c.lifted==P.liftsFinal):Bool)) Tryz.prog 4 Tryz.f4 (Rows.OpenSpec.upto Rows.blameNamesSpec).bare Rows.blameNamesUptoRow=true:=by kernel_rfl
theorem cf27:(fun (P:Program) (f:FuncId) (fn:Func) (s:ChangeSpec) (c:OpenClaim)=>((P.make==some c.make):Bool)) Tryz.prog 4 Tryz.f4 (Rows.OpenSpec.upto Rows.blameNamesSpec).bare Rows.blameNamesUptoRow=true:=by kernel_rfl
theorem cf28:(fun (P:Program) (f:FuncId) (fn:Func) (s:ChangeSpec) (c:OpenClaim)=>((c.kinds==(if c.domain.isEmpty then [] else fn.params.toList.map fun t=>match P.underlying t with | some (.int k)=>some k | _=>none)):Bool)) Tryz.prog 4 Tryz.f4 (Rows.OpenSpec.upto Rows.blameNamesSpec).bare Rows.blameNamesUptoRow=true:=by kernel_rfl
theorem cf29:(fun (P:Program) (f:FuncId) (fn:Func) (s:ChangeSpec) (c:OpenClaim)=>((c.pinned==c.pinnedBy):Bool)) Tryz.prog 4 Tryz.f4 (Rows.OpenSpec.upto Rows.blameNamesSpec).bare Rows.blameNamesUptoRow=true:=by kernel_rfl
theorem cf30:(fun (P:Program) (f:FuncId) (fn:Func) (s:ChangeSpec) (c:OpenClaim)=>((c.veiled==(fn.params.toList++s.plain.varTypes P++fn.resultTypes.toList).any (P.veiledRec ·)):Bool)) Tryz.prog 4 Tryz.f4 (Rows.OpenSpec.upto Rows.blameNamesSpec).bare Rows.blameNamesUptoRow=true:=by kernel_rfl
theorem cf31:(fun (P:Program) (f:FuncId) (fn:Func) (s:ChangeSpec) (c:OpenClaim)=>(c.veiledFits P fn.params.toList (fn.params.toList++s.plain.varTypes P++fn.resultTypes.toList):Bool)) Tryz.prog 4 Tryz.f4 (Rows.OpenSpec.upto Rows.blameNamesSpec).bare Rows.blameNamesUptoRow=true:=by kernel_rfl
end Go.Proofs.YtckbkhfaahpanaaGreatDoor.blameNamesDone
namespace Go.Proofs.YtckbkhfaahpanaaGreatDoor.blameNamesDone
open Go
set_option linter.unusedVariables false
theorem goes_none:Tryz.prog.funcs.toList.all (fun fn=>!fn.goes)=true:=by kernel_rfl
theorem named4:Tryz.prog.funcNamed "quilt/quiltlaw38.BlameNames" = some 4:=by kernel_rfl
theorem goes_at (g:FuncId):(Tryz.prog.funcs[g]?).any Func.goes=false:=by
 cases hg:Tryz.prog.funcs[g]? with
 | none=>rfl
 | some fn =>
  have:=List.all_eq_true.1 goes_none fn (by simpa using Array.mem_of_getElem? hg)
  simpa using this
theorem goes_4:Tryz.prog.goes 4=false:=by
 unfold Program.goes
 have h1:((Tryz.prog.closure 4).any fun g=>(Tryz.prog.funcs[g]?).any Func.goes)=false:=by
  rw [List.any_eq_false]
  intro g _
  rw [goes_at g];simp
 have h2:Tryz.prog.funcs.any Func.goes=false:=by
  rw [←Array.any_toList,List.any_eq_false]
  intro fn hf
  have:=List.all_eq_true.1 goes_none fn hf
  simpa using this
 rw [h1,h2];simp
theorem goes:false=Rows.blameNamesUptoRow.goesBy Tryz.pinned.checked.prog:=by
 show false=((Tryz.prog.funcNamed "quilt/quiltlaw38.BlameNames").any Tryz.prog.goes||false)
 rw [named4,Option.any_some,goes_4];rfl
end Go.Proofs.YtckbkhfaahpanaaGreatDoor.blameNamesDone
